/- ModelSpaces returns true at every input and leaves its arguments alone. No conditions. -/
import Derived.Test.YtdkcfgahdcpkkaaDoorBAwake
import Derived.LaidMore
import Derived.Stop.Joined
import Derived.Test.YtdkcfgahdcpkkaaDoorBSp1
import Derived.Test.YtdkcfgahdcpkkaaDoorBBd
import Derived.Test.YtdkcfgahdcpkkaaDoorBMkGrp1
import Derived.Test.YtdkcfgahdcpkkaaDoorBSpaceQ
import Derived.Test.YtdkcfgahdcpkkaaDoorTie
import Derived.Test.YtdkcfgahdcpkkaaDoorCards
import Derived.SevenTiedAt
set_option linter.all false
namespace Go.Proofs.YtdkcfgahdcpkkaaDoor
open Go.ChangeShapes Go.WideShapes Go.ChangeAt Go.RowKit
set_option maxRecDepth 100000
def kL_ : List (String × DataW Unit) := [("volumegroup/names.suffixes", Rows.laid_volumegroup_names_suffixes)]
theorem gSuf : Tryd.prog.globalNamed "volumegroup/names.suffixes" = some 0 := by kernel_rfl
theorem tSuf : (Tryd.prog.globals[0]?).map (·.type) = some 160 := by kernel_rfl
theorem Qf_ (os : Os) (args : Array Value) : laidMetH Tryd.prog kL_ ((World.doorLaid Tryd.prog 400 os).forCall (fun _ _ => 0) ⟨#[], args, []⟩).memory :=
 laidMetH_of_parts3 (fuel := 8) (laidMet_of_run' 8 (by kernel_rfl) (by kernel_rfl)) (by kernel_rfl) (by kernel_rfl)
theorem x8_ {s : ByteArray} {l : List UInt8} (h : s.data.toList = l) : s = ⟨l.toArray⟩ := by
 obtain ⟨⟨a⟩⟩ := s
 simp at h
 rw [h]
theorem Zp_ {l : Array Value} {k : Nat} {v : Value} (h : (l.toList.drop (k * 1)).take 1 = [v]) : l[k]? = some v := by
 have : ((l.toList.drop (k * 1)).take 1)[0]? = some v := by rw [h]; rfl
 rw [List.getElem?_take_of_lt (by omega), List.getElem?_drop] at this
 simpa using this
theorem ky_ {W : World} (h : laidMetH Tryd.prog kL_ W) : Suf W := by
 rw [MakeChecks.laidMetH_plain _ _ _ (by kernel_rfl)] at h
 obtain ⟨ps, ⟨g0, t0, cs0, f0, p0, q0, hg0, ht0, hv0, hd0, _⟩, _, _⟩ := h
 obtain rfl := Option.some.inj (gSuf.symm.trans hg0)
 obtain rfl := Option.some.inj (tSuf.symm.trans ht0)
 obtain ⟨xs, m1, rfl, hx1, hlen, hn, hel⟩ := DataW.trod_array Tryd.underlying160 hd0
 have c1 : Tryd.prog.cellsOf 9 = 1 := by kernel_rfl
 have h1 := hel 1 (by decide)
 have h2 := hel 2 (by decide)
 have h3 := hel 3 (by decide)
 have h4 := hel 4 (by decide)
 rw [c1] at h1 h2 h3 h4
 match xs, hn, hx1, h1, h2, h3, h4 with
 | [x0, x1, x2, x3, x4], _, hx1, h1, h2, h3, h4 =>
  obtain ⟨s1, e1, rfl, _⟩ := DataW.trod_string Tryd.underlying9 (show DataW.trod _ Tryd.prog W 0 _ false m1 9 _ = some x1 from h1);obtain ⟨s2, e2, rfl, _⟩ := DataW.trod_string Tryd.underlying9 (show DataW.trod _ Tryd.prog W 0 _ false m1 9 _ = some x2 from h2);obtain ⟨s3, e3, rfl, _⟩ := DataW.trod_string Tryd.underlying9 (show DataW.trod _ Tryd.prog W 0 _ false m1 9 _ = some x3 from h3);obtain ⟨s4, e4, rfl, _⟩ := DataW.trod_string Tryd.underlying9 (show DataW.trod _ Tryd.prog W 0 _ false m1 9 _ = some x4 from h4);simp only [Rows.laid_volumegroup_names_suffixes, Prod.mk.injEq, DataW.agg.injEq, List.map_cons, List.map_nil, List.cons.injEq, DataW.lit.injEq, Lit.string.injEq] at hx1;obtain ⟨⟨_, q1, q2, q3, q4, _⟩, _⟩ := hx1
  exact ⟨(World.var?_cell hg0 hv0 1).trans (by rw [Zp_ e1, x8_ q1.symm]; rfl), (World.var?_cell hg0 hv0 2).trans (by rw [Zp_ e2, x8_ q2.symm]; rfl),
   (World.var?_cell hg0 hv0 3).trans (by rw [Zp_ e3, x8_ q3.symm]; rfl), (World.var?_cell hg0 hv0 4).trans (by rw [Zp_ e4, x8_ q4.symm]; rfl)⟩
theorem qv_ {f : FuncId} {fn : Func} {s : ChangeSpec} {os : Os} {H : Type} {enc : TypeId × Value → H} (started : os.Started) (noInit : Tryd.prog.inits.idxOf? f = none) (hfn : Tryd.prog.funcs[f]? = some fn)
  (witness : ∃ (w : World) (tape : Tape) (i : Input), w.os = os ∧ (w.forCall tape i).Shaped Tryd.checked.prog ∧ i.vars = [] ∧ Input.okWide Tryd.checked.prog (w.forCall tape i) .any w.heap.size f i ∧
   ((s.pre enc Tryd.checked.prog fn [] false (w.forCall tape i).memory i.args ∧ laidMetH Tryd.prog kL_ (w.forCall tape i).memory) ∧ sizedMet enc Tryd.checked.prog fn (OpenSpec.ofChange s) false (w.forCall tape i).memory i.args) ∧ ({} : Assume).holds Tryd.checked.prog (lone (Frame.enter Tryd.checked.prog f i.args .normal) [] (w.forCall tape i)))
  (hvars : s.vars = []) (hres : fn.resultTypes = #[4]) (hread : (fn.params.toList.all fun t => Tryd.prog.readableRec t && decide (t < Tryd.prog.types.size)) = true)
  (hspec : ∀ ds : List (DataW H), ds.length = fn.params.size → s.fn H ds = { results := [.lit (.bool true)], args := ds })
  (walk : ∀ (W : World) (base : Nat) (args : Array Value) (ds : List (DataW H)) (p : List MemPlace),
   (∀ (j : Nat) t v, fn.params[j]? = some t → args[j]? = some v → Value.okWide Tryd.prog W .any base t v) →
   DataW.TrodAll enc Tryd.prog W 0 (fun _ => true) true fn.params.toList args.toList ds p → Suf W →
   Calls Tryd.prog f args W (Ret (.bool true) W)) :
  ReturnsInHanded {} Tryd.checked os f .any (fun w args => (s.pre enc Tryd.prog fn [] false w args ∧ laidMetH Tryd.prog kL_ w) ∧ sizedMet enc Tryd.prog fn (OpenSpec.ofChange s) false w args) (s.post enc Tryd.prog fn false true false false) := by
 refine returnsInHanded_of_change_and (C := Tryd.checked) (X := fun w _ => laidMetH Tryd.prog kL_ w) (fun _ _ _ hh h => h.of_heap hh) own started noInit hfn witness ?_
 intro W base args ds gs before hval hW _ _ hL _
 have hW' := hW
 obtain ⟨p, q, hA, hV, rfl, hfz, hnd⟩ := hW
 rw [hvars] at hV
 obtain ⟨rfl, rfl⟩ := trodVars_none hV
 have hlt : ∀ x ∈ p, x.block < W.heap.size := fun x hx => hW'.lt x (by simp [hx])
 refine (walk W base args ds p hval hA (ky_ hL)).mono fun e W' ⟨he, bel⟩ => ?_
 subst he
 have hlen : ds.length = fn.params.size := by
  have : ∀ (ts : List TypeId) (vs : List Value) (ds : List (DataW H)) (ps : List MemPlace), DataW.TrodAll enc Tryd.prog W 0 (fun _ => true) true ts vs ds ps → ds.length = ts.length := by
   intro ts;induction ts with
   | nil => intro vs ds ps h; obtain ⟨rfl, rfl, rfl⟩ := trodAll_nil h; rfl
   | cons t ts ih =>
    intro vs ds ps h;obtain ⟨v, vs', d, ds', p, q, rfl, rfl, rfl, h0, h1⟩ := trodAll_cons h;simp [ih _ _ _ h1]
  simpa using this _ _ _ _ hA
 refine ⟨_, rfl, ds, [], p ++ [], [], p, [], hW', ?_, ?_, ?_, bel.frame _, fun h => by cases h⟩
 ·rw [List.append_nil, hspec ds hlen, hres]
  exact trodAll_mk1 (shut_bool Tryd.underlying4 _)
 ·rw [List.append_nil, hspec ds hlen]
  exact jL_ Jq_ bel _ _ _ _ hread hA hlt
 ·rw [List.append_nil, hspec ds hlen, hvars]
  rfl
end Go.Proofs.YtdkcfgahdcpkkaaDoor
namespace Go.Proofs.YtdkcfgahdcpkkaaDoor
open Go.RowKit
set_option maxRecDepth 100000
theorem LR.lo {α : Type} {w : World} {S : Nat → Prop} {size : Nat} {a a' : Addr → α → Prop} {v : Value} {l : List α} (h : LR w S size a v l) (f : ∀ p x, p.block < w.heap.size → a p x → a' p x) : LR w (Lo w) size a' v l := by
 obtain ⟨A, c, e, hc, hh⟩ := h
 refine ⟨A, c, e, hc, fun h0 => ?_⟩
 obtain ⟨ad, ea, _, hlt, hcell⟩ := hh h0
 exact ⟨ad, ea, hlt, hlt, fun k x hk => f _ _ (by rw [zk_]; exact hlt) (hcell k x hk)⟩
theorem AtDk.lo {w : World} {S : Nat → Prop} {p : Addr} {x : Dk} (h : AtDk w S p x) : AtDk w (Lo w) p x := by
 obtain ⟨v0, hc, h0⟩ := h
 exact ⟨v0, hc, h0.lo (fun _ _ _ h => h)⟩
theorem AtSg.lo {w : World} {S : Nat → Prop} {p : Addr} {x : Sg} (h : AtSg w S p x) : AtSg w (Lo w) p x := by
 obtain ⟨v0, v1, hc, h0, h1⟩ := h
 exact ⟨v0, v1, hc, h0.lo (fun _ _ _ h => h), h1.lo (fun _ _ _ h => h)⟩
theorem AtVo.lo {w : World} {S : Nat → Prop} {p : Addr} {x : Vo} (h : AtVo w S p x) : AtVo w (Lo w) p x := by
 obtain ⟨v0, v1, hc, h0, h1⟩ := h
 exact ⟨v0, v1, hc, h0.lo (fun _ _ _ h => h), h1.lo (fun _ _ _ h => h.lo)⟩
theorem gl_of {w : World} {S0 S1 S2 S3 : Nat → Prop} {g : Gr} {A0 A1 A2 A3 : Option Addr} {c0 c1 c2 c3 : Nat} (kt : TL w S0 (.slice A0 g.tags.length c0) g.tags) (kd : DL w S1 (.slice A1 g.disks.length c1) g.disks) (kv : VL w S2 (.slice A2 g.vols.length c2) g.vols) (km : ML w S3 (.slice A3 g.hist.length c3) g.hist) (hs : Suf w) (hl : g.disks.length ≤ maxLen ∧ g.vols.length ≤ maxLen ∧ g.hist.length ≤ maxLen) : GL w g A0 A1 A2 A3 c0 c1 c2 c3 :=
 ⟨kt.lo (fun _ _ _ h => h), kd.lo (fun _ _ _ h => h.lo), kv.lo (fun _ _ _ h => h.lo), km.lo (fun _ _ _ h => h), hs, hl⟩
theorem BdG.inB {γ : Gr} (h : BdG γ) : InB γ := by
 refine ⟨⟨?_, fun x hx => ?_, fun x hx => ?_, fun x hx => ?_⟩, fun d hd => ?_, fun v hv => ?_, fun v hv s hs => ?_⟩
 ·have := h.name; omega
 ·have := h.histz x hx; omega
 ·have := (h.disk x hx).name; omega
 ·have := (h.vol x hx).name; omega
 ·have := (h.disk d hd).name; omega
 ·have := (h.vol v hv).name; omega
 ·have := ((h.vol v hv).seg s hs).stale; omega
theorem Y6_ {n : ByteArray} {l : List Pq} {q : Nat} {r : Rg} (h : r ∈ onD n (l.take q)) : r ∈ onD n l := by
 unfold onD at h ⊢
 obtain ⟨p, hp, e⟩ := List.mem_map.1 h
 rw [List.mem_filter] at hp
 exact List.mem_map.2 ⟨p, List.mem_filter.2 ⟨List.mem_of_mem_take hp.1, hp.2⟩, e⟩
theorem jp_ (n : ByteArray) : onD n [] = [] := rfl
set_option maxHeartbeats 16000000 in
theorem kB_ (A : Option Addr) (n c : Nat) (zs : List Int) (W : World) (hn : n ≤ c) (hc : c ≤ maxLen) (hr : Reads W W.heap.size 1 A n (I zs)) (hS : Suf W) :
  Calls Tryd.prog 3 #[.slice A n c] W (Ret (.bool true) W) := by
 obtain ⟨i0, hi0, hz0, hz1, hz2⟩ := info_parts QC_
 have HSU := hD hS
 have HN := hD (ZB_ A n c zs W hn hc hr)
 clear hS hn hc hr
 go_enter Tryd.func3, Tryd.ntmps3
 go_wp2_with fail
 refine HN.out.mono ?_
 rintro e w1 ⟨rfl, hs1, hb1⟩
 have HB1 := hD hb1
 have HS1 := hD hs1
 have hl1 := hs1.lt
 clear hs1 hb1 HN
 go_wp2_with fail
 refine (Xk_ HS1.out).mono ?_
 rintro e w2 ⟨γ, v0, v1, v2, v3, Wh, hgr, rfl, ht, hd, hv, hh, hWh, hWw, hs2, ho2⟩
 obtain ⟨A0, c0, rfl⟩ := ht.form
 obtain ⟨A1, c1, rfl⟩ := hd.form
 obtain ⟨A2, c2, rfl⟩ := hv.form
 obtain ⟨A3, c3, rfl, _⟩ := zn_ hh
 obtain ⟨hbd, hh10, hv30, har⟩ := hgr.bd
 have HT3 := hD ht
 have HD3 := hD hd
 have HV3 := hD hv
 have HH3 := hD hh
 have HS3 := hD hs2
 have HBD := hD hbd
 have HAR := hD har
 have HO3 := hD (show Only (fun k => k = W.heap.size ∨ Wh ≤ k) w1 w2 from ho2.mono fun k _ e => .inl e)
 clear ht hd hv hh hs2 ho2 hgr hbd har
 unfold grA
 go_wp2_with fail
 refine (Yw_ (S0 := fun k => w1.heap.size ≤ k ∧ k < Wh) HS3.out HBD.out hh10 hv30 HAR.out HT3.out HD3.out HV3.out HH3.out (fun k hk => ⟨by have := hk.1; omega, hk.2⟩) ⟨by omega, hWw⟩).mono ?_
 rintro e w4 ⟨γ', u0, u1, u2, u3, hbx, rfl, kt, kd, kv, km, kmo, hs4, ho4⟩
 obtain ⟨B0, d0, rfl⟩ := kt.form
 obtain ⟨B1, d1, rfl⟩ := kd.form
 obtain ⟨B2, d2, rfl⟩ := kv.form
 obtain ⟨B3, d3, rfl⟩ := km.form
 unfold grA
 have hal : Bel w4 (w4.alloc (.cells (grX γ' B0 d0 B1 d1 B2 d2 B3 d3) 31)) := (Below.refl _ _).al _
 have HX := hD (Blk.new w4 31 (grX γ' B0 d0 B1 d1 B2 d2 B3 d3))
 have HB5 := hD (show Bel W (w4.alloc (.cells (grX γ' B0 d0 B1 d1 B2 d2 B3 d3) 31)) from (HB1.out.trans ((HO3.out.trans (ho4.mono fun k _ e => e.elim .inl (fun e => .inr e.1))).below (by omega) (fun k e => by rcases e with e | e <;> omega))).trans (hal.mono (by have h1 := HO3.out.size; have h2 := ho4.size; omega)))
 have hsu5 := HSU.out.below HB5.out HSU.out.pos
 have hbl : γ'.disks.length ≤ 4 ∧ γ'.vols.length ≤ 40 ∧ γ'.hist.length ≤ 40 := ⟨hbx.disks.2, hbx.vols, hbx.hist⟩
 have HGL := hD (gl_of (TL.up kt hal) (DL.up kd hal) (VL.up kv hal) (ML.up km hal) hsu5 ⟨by unfold maxLen; omega, by unfold maxLen; omega, by unfold maxLen; omega⟩)
 have HCK := hD (Z9_ HGL.out hbx.inB)
 have HAW := hD (show ∀ w', Bel (w4.alloc (.cells (grX γ' B0 d0 B1 d1 B2 d2 B3 d3) 31)) w' → Calls Tryd.prog 11 #[] w' (Ret (.bool true) w') from fun w' hw => Xy_ (hsu5.below hw hsu5.pos))
 have HGX := hD (show ∀ w', Bel (w4.alloc (.cells (grX γ' B0 d0 B1 d1 B2 d2 B3 d3) 31)) w' → Blk w' w4.heap.size 31 (grX γ' B0 d0 B1 d1 B2 d2 B3 d3) from fun w' hw => HX.out.below hw HX.out.lt)
 unfold grA at HCK
 obtain ⟨r1, hr1⟩ : ∃ r1, Xv_ γ' = r1 := ⟨_, rfl⟩
 rw [hr1] at HCK
 have HR1 := hD hr1
 clear kt kd kv km kmo hs4 ho4 hal hbx HT3 HD3 HV3 HH3 HS3 HO3 hh10 hv30 hsu5 hr1 HBD HAR HX
 go_wp2_with fail
 refine HCK.out.mono ?_
 rintro e w6 ⟨rfl, hb6⟩
 have HB6 := hD hb6
 clear hb6 HCK
 unfold zU_
 by_cases h0 : r1.2 = 0
 ·have q0 : (r1.2 != 0) = false := by rw [h0]; rfl
  have hvd := Z8_ (g := γ') (by rw [HR1.out]; exact h0);have HVD := hD hvd;have HPL := hD (ZL_ (B0 := B0) (B1 := B1) (B3 := B3) (c0 := d0) (c1 := d1) (c3 := d3) (HGL.out.up HB6.out).vl (Xn_ hvd));have hpl : (z6_ γ').length ≤ 12672 := by rw [← k4_]; exact k3_ (Xn_ hvd) _ _
  obtain ⟨P, hP⟩ : ∃ P, z6_ γ' = P := ⟨_, rfl⟩;have HSUM := hD (show ∀ d ∈ γ'.disks, sumR (onD d.name P) = sumG (onD d.name P) from fun d hd => by rw [← hP]; exact Yx_ hvd hd);have HOUT := hD (show ∀ d ∈ γ'.disks, selR (onD d.name P) [⟨0, d.ext⟩] 1 = [] from fun d hd => by rw [← hP]; exact Yy_ hvd hd);have HBND := hD (show ∀ d ∈ γ'.disks, ∀ r ∈ onD d.name P, 0 ≤ r.start ∧ 1 ≤ r.len ∧ r.start + r.len ≤ 4096 from fun d hd => by rw [← hP]; exact onD_bd hvd hd);have HLEN := hD (show ∀ d ∈ γ'.disks, (onD d.name P).length ≤ 4096 from fun d hd => by rw [← hP]; exact Yz_ hvd hd);have HEXT := hD (show ∀ d ∈ γ'.disks, 0 ≤ d.ext ∧ d.ext ≤ 4096 from fun d hd => kh_ hvd hd);have hdl := hvd.r1.disks;rw [hP] at HPL hpl;unfold grA at HPL;obtain ⟨y0, y1, y2, y3, y4, y5, y6, y7, y8⟩ := nine9 (HGX.out _ HB6.out);clear h0 hvd hP;go_wp2_with fail
  refine HPL.out.mono ?_;rintro e wP ⟨AP, cP, rfl, hp, hbP⟩;have HP := hD hp;have HBP := hD (HB6.out.next hbP);clear hp hbP HPL y0 y1 y2 y3 y4 y5 y6 y7 y8;have HY := hD (show ∀ w', Bel wP w' → w'.cell? ⟨w4.heap.size, 6, none⟩ = some (.slice B1 γ'.disks.length d1) from fun w' hw => by rw [(HGX.out _ (HBP.out.next hw)).cell]; rfl);have HDL := hD (show ∀ w', Bel wP w' → DL w' (Lo w') (.slice B1 γ'.disks.length d1) γ'.disks from fun w' hw => (HGL.out.up (HBP.out.next hw)).dl);go_wp2_with fail
  go_loopw [8] (fun i wx => ∃ k : Nat, k ≤ γ'.disks.length ∧ i = .int .i64 (k : Int) ∧ Bel wP wx) (fun i _ => γ'.disks.length - (intOf i).toNat)
  case atStart => exact ⟨0, Nat.zero_le _, rfl, Below.refl _ _⟩
  case round =>
   obtain ⟨k, hk, rfl, hb⟩ := hrel;have HB := hD hb;have k6 := HY.out _ hb;obtain ⟨wo, hwo⟩ : ∃ wo, wo = wr := ⟨_, rfl⟩;subst hwo;clear hb;by_cases hlt : k < γ'.disks.length
   ·have z0 : (k : Int) < (γ'.disks.length : Int) := by omega
    have z1 : (0 : Int) ≤ (k : Int) := by omega
    obtain ⟨ad, d, rfl, hx, _, had, dt, hdc, _⟩ := (HDL.out _ (Below.refl _ _)).at_ hlt;have hdm := List.mem_of_getElem? hx;have HDM := hD hdm;have hext := HEXT.out d hdm;have HDN := hD (show ∀ w', Bel wP w' → w'.cell? (ad.add (k * 7)) = some (.string d.name) from fun w' hw => (hw.cell (zq_ hdc.c0)).trans hdc.c0);have HDE := hD (show ∀ w', Bel wP w' → w'.cell? ⟨(ad.add (k * 7)).block, (ad.add (k * 7)).off + 3, none⟩ = some (.int .i64 d.ext) from fun w' hw => (hw.cell (p := ⟨(ad.add (k * 7)).block, (ad.add (k * 7)).off + 3, none⟩) (zq_ hdc.c3)).trans hdc.c3);clear hx hdc hdm;go_wp2_with fail
    go_loopw [9, 10, 11] (fun lo nn i wx => ∃ (q : Nat) (A : Option Addr) (c : Nat), q ≤ P.length ∧ i = .int .i64 (q : Int) ∧ lo = .slice A (onD d.name (P.take q)).length c ∧ nn = .int .i64 (sumG (onD d.name (P.take q))) ∧ wx.ownsRow wP.heap.size 42 2 (.slice A (onD d.name (P.take q)).length c) (onD d.name (P.take q)).length (rgV (onD d.name (P.take q))) ∧ Bel wP wx) (fun _ _ i _ => P.length - (intOf i).toNat)
    case atStart => exact ⟨0, none, 0, Nat.zero_le _, rfl, by rw [List.take_zero, jp_]; rfl, by rw [List.take_zero, jp_]; rfl, by rw [List.take_zero, jp_]; exact World.ownsRow_nil _ _ _ _, HB.out⟩
    case round =>
     obtain ⟨q, A9, c9, hq, rfl, rfl, rfl, ho, hb⟩ := hrel;have HO := hD ho;have HBQ := hD hb;have kq6 := HY.out _ hb
     have hln : (onD d.name (P.take q)).length ≤ 12672 := by
      have := Jj_ d.name (P.take q);rw [List.length_take] at this;omega
     have hsb := kw_ (onD d.name (P.take q)) 0 (fun r hr => by have := HBND.out d HDM.out r (Y6_ hr); omega);obtain ⟨L, hL⟩ : ∃ L, onD d.name (P.take q) = L := ⟨_, rfl⟩;obtain ⟨sm, hsm⟩ : ∃ sm, sumG L = sm := ⟨_, rfl⟩
     have hsb2 : -20000000000000000 ≤ sm ∧ sm ≤ 20000000000000000 := by
      rw [hL] at hsb hln;rw [← hsm];unfold sumG;omega
     have HLL := hD hL;have HSM := hD hsm;rw [hL] at HO hln ⊢;rw [hsm];obtain ⟨wi, hwi⟩ : ∃ wi, wi = wr := ⟨_, rfl⟩;subst hwi;clear ho hb hL hsm hsb;by_cases hlq : q < P.length
     ·have y0 : (q : Int) < (P.length : Int) := by omega
      have y1 : (0 : Int) ≤ (q : Int) := by omega
      obtain ⟨ap, p, rfl, hxp, _, hap, hpc⟩ := HP.out.at_ hlq;have HXP := hD hxp;have HSX := hD (show ∀ X, Bel wP X → (X.cell? ⟨(ap.add (q * 4)).block, (ap.add (q * 4)).off + 2, none⟩ = some (.int .i64 p.start) ∧ X.cell? ⟨(ap.add (q * 4)).block, (ap.add (q * 4)).off + 3, none⟩ = some (.int .i64 p.len) ∧ X.cell? ⟨(ap.add (q * 4)).block, (ap.add (q * 4)).off + 2 + 1, none⟩ = some (.int .i64 p.len)) from fun X hX => ⟨(hX.cell (p := ⟨(ap.add (q * 4)).block, (ap.add (q * 4)).off + 2, none⟩) (zq_ hpc.c2)).trans hpc.c2, (hX.cell (p := ⟨(ap.add (q * 4)).block, (ap.add (q * 4)).off + 3, none⟩) (zq_ hpc.c3)).trans hpc.c3, (hX.cell (p := ⟨(ap.add (q * 4)).block, (ap.add (q * 4)).off + 3, none⟩) (zq_ hpc.c3)).trans hpc.c3⟩);have e0 := CalmW.cell (show wi.cell? ⟨(ap.add (q * 4)).block, (ap.add (q * 4)).off + 1, none⟩ = some (.string p.disk) from (HBQ.out.cell (p := ⟨(ap.add (q * 4)).block, (ap.add (q * 4)).off + 1, none⟩) (zq_ hpc.c1)).trans hpc.c1);have e1 := CalmW.cell kq6;have e2 := CalmW.cell (HDN.out _ HBQ.out);clear hxp hpc;by_cases hpd : p.disk = d.name
      ·have q1 : (p.disk.toList == d.name.toList) = true := by rw [hpd]; simp
       have HPD := hD hpd;clear hpd;go_upto_region 15 with fail
       refine zd_ (by kernel_rfl) (by kernel_rfl) ?_;repeat (go_big_quiet_step (fail))
       refine wpQuiet_nil ?_;rintro _ ⟨n5, rfl⟩;have HB7 := hD (HBQ.out.trans (n5.ok.mono HBQ.out.size));have HO7 := hD (zb_ HO.out (Only.of_below (fun _ => False) n5.ok) (fun _ _ h => h));clear e0 e1 e2;generalize n5.w = w7 at *;have HNX := hD (show onD d.name (P.take (q + 1)) = L ++ [rgQ p] by rw [Jk_ HXP.out HPD.out, HLL.out]);have hpr := HBND.out d HDM.out (rgQ p) (Y6_ (q := q + 1) (by rw [HNX.out]; simp))
       have hpl2 : 1 ≤ p.len ∧ p.len ≤ 4096 := by
        have h1 : 0 ≤ p.start := hpr.1;have h2 : 1 ≤ p.len := hpr.2.1;have h3 : p.start + p.len ≤ 4096 := hpr.2.2;omega
       have wm : IntKind.i64.wrap (sm + p.len) = sm + p.len := IntWalk.i64_in _ (by omega);have HSN := hD (show sumG (L ++ [rgQ p]) = sm + p.len by rw [sumG_append, sumG_one, HSM.out]; rfl);clear hpr;go_upto_region 16 with fail
       have hd0 : Bel w7 w7.drew := (Below.refl _ _).drew;have HBD := hD (HB7.out.trans (hd0.mono HB7.out.size));have hsd := HSX.out _ HBD.out;refine wp_region_held_drew (S := fun w' : World => (w'.cell? ⟨(ap.add (q * 4)).block, (ap.add (q * 4)).off + 2, none⟩ = some (.int .i64 p.start) ∧ w'.cell? ⟨(ap.add (q * 4)).block, (ap.add (q * 4)).off + 3, none⟩ = some (.int .i64 p.len) ∧ w'.cell? ⟨(ap.add (q * 4)).block, (ap.add (q * 4)).off + 2 + 1, none⟩ = some (.int .i64 p.len))) (by kernel_rfl) hsd (fun _ => ?_);refine tkB [0, 1, 2, 3, 4, 5, 8, 9, 10, 11, 12, 13, 14, 15] ?_
       iterate 14
        refine tk (oi := ⟨some _, _, _, _, _, _⟩) (v := ?_) rfl (by kernel_rfl) (by kernel_rfl) (by kernel_rfl) (fun _ _ _ _ _ h => h) rfl (Or.inl ⟨by rfl, ?_⟩) (by assumption) ?_;rotate_left 1
        ·(intro w hSw; (try dsimp only at hSw); go_simp; try with_reducible rfl)
        simp only [Act.put, tS]
       refine tkE ?_;refine wpAnyH_all (rs := [6]) (by kernel_rfl) (by simp) (fun i hi => ?_);obtain rfl : i = 6 := by simpa using hi
       refine wpOp_step (o := ⟨some 60, _, _, _, _, _⟩) rfl (fun K1 hK1 => ?_);go_simp;have HB8 := hD (HBD.out.al (.cells #[.int .i64 p.start, .int .i64 p.len] 42));have HO8 := hD ((HO7.out.drew).alloc (.cells #[.int .i64 p.start, .int .i64 p.len] 42));have HG8 := hD (Blk.new w7.drew 42 #[.int .i64 p.start, .int .i64 p.len]);refine hK1 _ _ ⟨HSX.out _ HB8.out, ?_⟩;try simp only [Act.put, upd, Nat.reduceAdd, Nat.reduceBEq, tS]
       refine wpAnyH_all (rs := [7]) (by kernel_rfl) (by simp) (fun i hi => ?_);obtain rfl : i = 7 := by simpa using hi
       refine wpOp_step (o := ⟨some 61, _, _, _, _, _⟩) rfl (fun K2 hK2 => ?_);refine zc_ (o := ⟨some 61, _, _, _, _, _⟩) _ rfl (.tmp 54) (.tmp 60) 40 rfl wP.heap.size 42 i0 _ 2 16 Tryd.underlying40 hi0 hz0 hz1 hz2 rfl (by decide) (.slice A9 L.length c9) L.length (rgV L) rfl HO8.out _ (some ⟨w7.drew.heap.size, 0, none⟩) 1 1 (rgV [rgQ p]) rfl (zZ_ HG8.out rfl) (qn_ _) (by unfold maxLen; omega) (by omega) HB8.out.size ?_;intro v9 w9 h9 hg9 _;have HB9 := hD (zo_ HB8.out HO8.out hg9 HB8.out.size);have H9 := hD (show w9.ownsRow wP.heap.size 42 2 v9 (L.length + 1) (rgV (L ++ [rgQ p])) by rw [rgV_append]; exact h9);have hs9 := HSX.out _ HB9.out;clear h9 hg9;refine hK2 _ _ ⟨hs9, ?_⟩;try simp only [Act.put, upd, Nat.reduceAdd, Nat.reduceBEq, tS]
       refine wpAnyH_all (rs := [16]) (by kernel_rfl) (by simp) (fun i hi => ?_);obtain rfl : i = 16 := by simpa using hi
       refine wpOp_step (o := ⟨some 9, _, _, _, _, _⟩) rfl (fun K3 hK3 => ?_);go_simp;refine hK3 _ _ ⟨hs9, ?_⟩;try simp only [Act.put, upd, Nat.reduceAdd, Nat.reduceBEq, tS]
       refine wpAnyH_all (rs := [17]) (by kernel_rfl) (by simp) (fun i hi => ?_);obtain rfl : i = 17 := by simpa using hi
       refine wpOp_step (o := ⟨some 10, _, _, _, _, _⟩) rfl (fun K4 hK4 => ?_);go_simp;refine hK4 _ _ ⟨hs9, ?_⟩;try simp only [Act.put, upd, Nat.reduceAdd, Nat.reduceBEq, tS]
       refine wpAnyH_done (by kernel_rfl) ?_ _;obtain ⟨A12, c12, e12, _⟩ := zQ_ H9.out;subst e12;have HLN := hD (show (onD d.name (P.take (q + 1))).length = L.length + 1 by rw [HNX.out]; simp);go_wp2_with fail
       go_roundw
       case rel => exact ⟨q + 1, A12, c12, by omega, by go_num, by rw [HLN.out], by rw [HNX.out, HSN.out], by rw [HLN.out, HNX.out]; exact H9.out, HB9.out⟩
       case measure => simp [intOf]; omega
      ·have q1 : (p.disk.toList == d.name.toList) = false := by rw [yD_, decide_eq_false hpd]
       have HPD := hD hpd;clear hpd;go_upto_region 15 with fail
       refine zd_ (by kernel_rfl) (by kernel_rfl) ?_;repeat (go_big_quiet_step (fail))
       refine wpQuiet_nil ?_;rintro _ ⟨n5, rfl⟩;have HB7 := hD (HBQ.out.trans (n5.ok.mono HBQ.out.size));have HO7 := hD (zb_ HO.out (Only.of_below (fun _ => False) n5.ok) (fun _ _ h => h));clear e0 e1 e2;generalize n5.w = w7 at *;have HNX := hD (show onD d.name (P.take (q + 1)) = L by rw [X3_ HXP.out HPD.out, HLL.out]);go_wp2_with fail
       go_roundw
       case rel => exact ⟨q + 1, A9, c9, by omega, by go_num, by rw [HNX.out], by rw [HNX.out, HSM.out], by rw [HNX.out]; exact HO7.out, HB7.out⟩
       case measure => simp [intOf]; omega
     ·obtain rfl : q = P.length := by omega
      have hLP : onD d.name P = L := by rw [← HLL.out, List.take_length]
      have hl4 : L.length ≤ 4096 := by rw [← hLP]; exact HLEN.out d HDM.out
      have hbr : ∀ r ∈ L, 0 ≤ r.start ∧ 1 ≤ r.len ∧ r.start + r.len ≤ 4096 := fun r hr => HBND.out d HDM.out r (by rw [hLP]; exact hr);have hrl := qm_ HO.out rfl (S := fun q => wP.heap.size ≤ q) (fun q h => h);have hg1 := Blk.new wi 42 #[.int .i64 0, .int .i64 d.ext];have hb1 : Bel wi (wi.alloc (.cells #[.int .i64 0, .int .i64 d.ext] 42)) := (Below.refl _ _).al _
      have hrb : RL (wi.alloc (.cells #[.int .i64 0, .int .i64 d.ext] 42)) (fun q => wP.heap.size ≤ q) (.slice (some ⟨wi.heap.size, 0, none⟩) 1 1) [(⟨0, d.ext⟩ : Rg)] :=
       ⟨_, 1, rfl, Nat.le_refl _, fun _ => ⟨_, rfl, HBQ.out.size, hg1.lt, fun k x hk => by
        obtain rfl : k = 0 := by have := (List.getElem?_eq_some_iff.1 hk).1; simp at this; exact this
        simp at hk;subst hk;exact ⟨by rw [Nat.zero_mul, addT_zero, hg1.cell]; rfl, by show World.cell? _ ⟨wi.heap.size, 1, none⟩ = _; rw [hg1.cell]; rfl⟩⟩⟩
      have HSE := hD (qW_ (kd := 1) (b := [⟨0, d.ext⟩]) (RL.up hrl hb1) hrb (by omega) (by simp) (fun r hr => by
       rcases List.mem_append.1 hr with h1 | h1
       ·have := hbr r h1
        unfold BdR;omega
       ·simp at h1
        subst h1;unfold BdR;simp;omega) (.inr (.inl rfl)))
      rw [show selR L [⟨0, d.ext⟩] 1 = [] by rw [← hLP]; exact HOUT.out d HDM.out] at HSE
      have HSS := hD (show ∀ w', Bel wi w' → Calls Tryd.prog 14 #[.slice A9 L.length c9] w' (Ret (.int .i64 sm) w') from fun w' hw => by
       have h1 := QZ_ (RL.up hrl hw) (by omega) (fun r hr => by
        have := hbr r hr;unfold BdR;omega)
       have e : sumR L = sm := by
        rw [← HSM.out, ← hLP];exact HSUM.out d HDM.out
       rw [e] at h1;exact h1)
      have k7 := HDE.out _ HBQ.out;have HB1W := hD hb1;have qs : (sm != sm) = false := by simp
      clear hLP hbr hrl hg1 hb1 hrb;go_wp2_with fail
      refine HSE.out.mono ?_;rintro e w8 ⟨A8, c8, rfl, _, hb8⟩;have HB8 := hD (HB1W.out.next hb8);clear hb8 HSE;go_wp2_with fail
      refine (HSS.out _ HB8.out).mono ?_;rintro e w9 ⟨rfl, hb9⟩;have HB9 := hD (HBQ.out.trans ((HB8.out.next hb9).mono HBQ.out.size));clear hb9;go_wp2_with fail
      go_roundw
      case rel => exact ⟨k + 1, by omega, by go_num, HB9.out⟩
      case measure => simp [intOf]; omega
   ·obtain rfl : k = γ'.disks.length := by omega
    have HBW := hD (HB5.out.next (HBP.out.next HB.out));go_wp2_with fail
    refine (HAW.out _ (HBP.out.next HB.out)).mono ?_;rintro e w9 ⟨rfl, hb9⟩;have HB9 := hD (HBW.out.next hb9);clear hb9;go_wp2_with fail
    go_ret
    exact ⟨rfl, HB9.out⟩
 ·have q0 : (r1.2 != 0) = true := by simp [h0]
  have HBW := hD (HB5.out.next HB6.out);clear h0;go_wp2_with fail
  refine (HAW.out _ HB6.out).mono ?_;rintro e w9 ⟨rfl, hb9⟩;have HB9 := hD (HBW.out.next hb9);clear hb9;go_wp2_with fail
  go_ret
  exact ⟨rfl, HB9.out⟩
end Go.Proofs.YtdkcfgahdcpkkaaDoor
namespace Go.Proofs.YtdkcfgahdcpkkaaDoor
open Go.ChangeShapes Go.WideShapes Go.ChangeAt Go.RowKit
open Go.ChangeMaps (open_string shut_string)
set_option maxRecDepth 100000
set_option maxRecDepth 100000 in
theorem xr_ (os : Os) (started : os.Started) (H : Type) (enc : TypeId × Value → H) :
  ReturnsInHanded {} Tryd.checked os 3 .any (fun w args => (Rows.modelSpacesSpec.pre enc Tryd.prog Tryd.f3 [] false w args ∧ laidMetH Tryd.prog kL_ w) ∧ sizedMet enc Tryd.prog Tryd.f3 (OpenSpec.ofChange Rows.modelSpacesSpec) false w args) (Rows.modelSpacesSpec.post enc Tryd.prog Tryd.f3 false true false false) := by
 refine qv_ started (by kernel_rfl) Tryd.func3
  (ChangeSpec.witness_shaped (enc := enc) (C := Tryd.checked) (os := os) (X := fun w _ => laidMetH Tryd.prog kL_ w) false (World.doorLaid Tryd.prog 400 os) #[.slice none 0 0] 8 rfl (World.shaped_of_RefB (by kernel_rfl) (by kernel_rfl)) (by kernel_rfl) (by kernel_rfl) (by kernel_rfl) (Qf_ os _)) rfl (by kernel_rfl) (by kernel_rfl) ?_ ?_
 ·intro ds hds
  match ds, hds with
  | [d1], _ => rfl
 ·intro W base args ds p hval hA hS
  rw [Tryd.params3] at hA hval;obtain ⟨v0, vs0, d0, ds0, p0, q0, hargs, rfl, rfl, h0, r0⟩ := trodAll_cons hA;obtain ⟨rfl, rfl, rfl⟩ := trodAll_nil r0;obtain rfl : args = #[v0] := by cases args; simp_all
  obtain ⟨A0, n0, c0, z0, rfl, hn0, hc0, hl0, hr0, hw0⟩ := X2_ Tryd.underlying22 Tryd.underlying3 (by kernel_rfl) (hval 0 22 v0 rfl rfl) h0;exact kB_ A0 n0 c0 z0 W hn0 hc0 hr0 hS
theorem xY_ : Rows.modelSpacesRow.holds Tryd.pinned (OpenSpec.ofChange Rows.modelSpacesSpec) :=
 OpenClaim.holds_of_wide 3 Tryd.f3 rfl rfl rfl rfl rfl rfl rfl ⟨rfl, rfl, rfl, rfl, rfl⟩ rfl rfl rfl rfl rfl (by kernel_rfl) Tryd.func3 (by kernel_rfl)
  (of_decide_eq_true (by kernel_rfl)) (by unfold Func.isWrapper; first | (rw [if_pos (by decide +kernel)]; kernel_rfl) | (rw [if_neg (by decide +kernel)]; exact ⟨rfl, rfl⟩))
  (fun os started H enc _ => xr_ os started H enc)
theorem modelSpaces_card : Rows.ModelSpacesCardSaid :=
 Claim7.holds_tied_plain_at .later [] [.widerDeep] true (true, "97d92cc50b48428903a7801de5069f3246158862b580407877adbac374272e0c") false
  xY_ (fun _ h => by cases h) (by kernel_rfl) (fun _ h => by cases h) modelSpaces_row_tie rfl ⟨rfl, rfl⟩ (by kernel_rfl) rfl
  (fun f fn hf hfn => by
   obtain rfl : f = 3 := Option.some.inj ((show Tryd.prog.funcNamed "volumegroup/volumegrouplaw09.ModelSpaces" = some 3 by kernel_rfl).symm.trans hf) |>.symm;obtain rfl : fn = Tryd.f3 := (Option.some.inj (Tryd.func3.symm.trans hfn)).symm
   exact ⟨by kernel_rfl, fun j t ht => by
    rw [Tryd.params3] at ht;rcases j with _ | j
    ·obtain rfl : t = 22 := by simpa using ht.symm
     exact (show Tryd.prog.wantsStandIn 22 = false by kernel_rfl)
    ·simp at ht⟩)
  (by kernel_rfl)
#print axioms modelSpaces_card
end Go.Proofs.YtdkcfgahdcpkkaaDoor
