/- ModelAccepts returns true at every input and leaves its arguments alone. No conditions. -/
import Derived.Test.YtdkcfgahdcpkkaaDoorCAwake
import Derived.LaidMore
import Derived.Stop.Joined
import Derived.Test.YtdkcfgahdcpkkaaDoorCFlags
import Derived.Test.YtdkcfgahdcpkkaaDoorCGlo
import Derived.Test.YtdkcfgahdcpkkaaDoorCMkGrp1
import Derived.Test.YtdkcfgahdcpkkaaDoorCAccL
import Derived.Test.YtdkcfgahdcpkkaaDoorTie
import Derived.Test.YtdkcfgahdcpkkaaDoorCards
import Derived.SevenTiedAt
set_option linter.all false
namespace Go.Proofs.YtdkcfgahdcpkkaaDoor
open Go.ChangeShapes Go.WideShapes Go.ChangeAt Go.RowKit
set_option maxRecDepth 100000
def kC_ : List (String × DataW Unit) := [("volumegroup/names.suffixes", Rows.laid_volumegroup_names_suffixes)]
theorem gSuf : Tryd.prog.globalNamed "volumegroup/names.suffixes" = some 0 := by kernel_rfl
theorem tSuf : (Tryd.prog.globals[0]?).map (·.type) = some 160 := by kernel_rfl
theorem Qf_ (os : Os) (args : Array Value) : laidMetH Tryd.prog kC_ ((World.doorLaid Tryd.prog 400 os).forCall (fun _ _ => 0) ⟨#[], args, []⟩).memory :=
 laidMetH_of_parts3 (fuel := 8) (laidMet_of_run' 8 (by kernel_rfl) (by kernel_rfl)) (by kernel_rfl) (by kernel_rfl)
theorem qc_ {s : ByteArray} {l : List UInt8} (h : s.data.toList = l) : s = ⟨l.toArray⟩ := by
 obtain ⟨⟨a⟩⟩ := s
 simp at h
 rw [h]
theorem Zf_ {l : Array Value} {k : Nat} {v : Value} (h : (l.toList.drop (k * 1)).take 1 = [v]) : l[k]? = some v := by
 have : ((l.toList.drop (k * 1)).take 1)[0]? = some v := by rw [h]; rfl
 rw [List.getElem?_take_of_lt (by omega), List.getElem?_drop] at this
 simpa using this
theorem kr_ {W : World} (h : laidMetH Tryd.prog kC_ W) : Suf W := by
 rw [MakeChecks.laidMetH_plain _ _ _ (by kernel_rfl)] at h
 obtain ⟨ps, ⟨g0, t0, cs0, f0, p0, q0, hg0, ht0, hv0, hd0, _⟩, _, _⟩ := h
 obtain rfl := Option.some.inj (gSuf.symm.trans hg0)
 obtain rfl := Option.some.inj (tSuf.symm.trans ht0)
 obtain ⟨xs, m1, rfl, hx1, hlen, hn, hel⟩ := DataW.trod_array Tryd.underlying160 hd0
 have c1 : Tryd.prog.cellsOf 9 = 1 := by kernel_rfl
 have h1 := hel 1 (by decide)
 have h2 := hel 2 (by decide)
 have h3 := hel 3 (by decide)
 have h4 := hel 4 (by decide)
 rw [c1] at h1 h2 h3 h4
 match xs, hn, hx1, h1, h2, h3, h4 with
 | [x0, x1, x2, x3, x4], _, hx1, h1, h2, h3, h4 =>
  obtain ⟨s1, e1, rfl, _⟩ := DataW.trod_string Tryd.underlying9 (show DataW.trod _ Tryd.prog W 0 _ false m1 9 _ = some x1 from h1);obtain ⟨s2, e2, rfl, _⟩ := DataW.trod_string Tryd.underlying9 (show DataW.trod _ Tryd.prog W 0 _ false m1 9 _ = some x2 from h2);obtain ⟨s3, e3, rfl, _⟩ := DataW.trod_string Tryd.underlying9 (show DataW.trod _ Tryd.prog W 0 _ false m1 9 _ = some x3 from h3);obtain ⟨s4, e4, rfl, _⟩ := DataW.trod_string Tryd.underlying9 (show DataW.trod _ Tryd.prog W 0 _ false m1 9 _ = some x4 from h4);simp only [Rows.laid_volumegroup_names_suffixes, Prod.mk.injEq, DataW.agg.injEq, List.map_cons, List.map_nil, List.cons.injEq, DataW.lit.injEq, Lit.string.injEq] at hx1;obtain ⟨⟨_, q1, q2, q3, q4, _⟩, _⟩ := hx1
  exact ⟨(World.var?_cell hg0 hv0 1).trans (by rw [Zf_ e1, qc_ q1.symm]; rfl), (World.var?_cell hg0 hv0 2).trans (by rw [Zf_ e2, qc_ q2.symm]; rfl),
   (World.var?_cell hg0 hv0 3).trans (by rw [Zf_ e3, qc_ q3.symm]; rfl), (World.var?_cell hg0 hv0 4).trans (by rw [Zf_ e4, qc_ q4.symm]; rfl)⟩
theorem qx_ {f : FuncId} {fn : Func} {s : ChangeSpec} {os : Os} {H : Type} {enc : TypeId × Value → H} (started : os.Started) (noInit : Tryd.prog.inits.idxOf? f = none) (hfn : Tryd.prog.funcs[f]? = some fn)
  (witness : ∃ (w : World) (tape : Tape) (i : Input), w.os = os ∧ (w.forCall tape i).Shaped Tryd.checked.prog ∧ i.vars = [] ∧ Input.okWide Tryd.checked.prog (w.forCall tape i) .any w.heap.size f i ∧
   ((s.pre enc Tryd.checked.prog fn [] false (w.forCall tape i).memory i.args ∧ laidMetH Tryd.prog kC_ (w.forCall tape i).memory) ∧ sizedMet enc Tryd.checked.prog fn (OpenSpec.ofChange s) false (w.forCall tape i).memory i.args) ∧ ({} : Assume).holds Tryd.checked.prog (lone (Frame.enter Tryd.checked.prog f i.args .normal) [] (w.forCall tape i)))
  (hvars : s.vars = []) (hres : fn.resultTypes = #[4]) (hread : (fn.params.toList.all fun t => Tryd.prog.readableRec t && decide (t < Tryd.prog.types.size)) = true)
  (hspec : ∀ ds : List (DataW H), ds.length = fn.params.size → s.fn H ds = { results := [.lit (.bool true)], args := ds })
  (walk : ∀ (W : World) (base : Nat) (args : Array Value) (ds : List (DataW H)) (p : List MemPlace),
   (∀ (j : Nat) t v, fn.params[j]? = some t → args[j]? = some v → Value.okWide Tryd.prog W .any base t v) →
   DataW.TrodAll enc Tryd.prog W 0 (fun _ => true) true fn.params.toList args.toList ds p → Suf W →
   Calls Tryd.prog f args W (Ret (.bool true) W)) :
  ReturnsInHanded {} Tryd.checked os f .any (fun w args => (s.pre enc Tryd.prog fn [] false w args ∧ laidMetH Tryd.prog kC_ w) ∧ sizedMet enc Tryd.prog fn (OpenSpec.ofChange s) false w args) (s.post enc Tryd.prog fn false true false false) := by
 refine returnsInHanded_of_change_and (C := Tryd.checked) (X := fun w _ => laidMetH Tryd.prog kC_ w) (fun _ _ _ hh h => h.of_heap hh) own started noInit hfn witness ?_
 intro W base args ds gs before hval hW _ _ hL _
 have hW' := hW
 obtain ⟨p, q, hA, hV, rfl, hfz, hnd⟩ := hW
 rw [hvars] at hV
 obtain ⟨rfl, rfl⟩ := trodVars_none hV
 have hlt : ∀ x ∈ p, x.block < W.heap.size := fun x hx => hW'.lt x (by simp [hx])
 refine (walk W base args ds p hval hA (kr_ hL)).mono fun e W' ⟨he, bel⟩ => ?_
 subst he
 have hlen : ds.length = fn.params.size := by
  have : ∀ (ts : List TypeId) (vs : List Value) (ds : List (DataW H)) (ps : List MemPlace), DataW.TrodAll enc Tryd.prog W 0 (fun _ => true) true ts vs ds ps → ds.length = ts.length := by
   intro ts;induction ts with
   | nil => intro vs ds ps h; obtain ⟨rfl, rfl, rfl⟩ := trodAll_nil h; rfl
   | cons t ts ih =>
    intro vs ds ps h;obtain ⟨v, vs', d, ds', p, q, rfl, rfl, rfl, h0, h1⟩ := trodAll_cons h;simp [ih _ _ _ h1]
  simpa using this _ _ _ _ hA
 refine ⟨_, rfl, ds, [], p ++ [], [], p, [], hW', ?_, ?_, ?_, bel.frame _, fun h => by cases h⟩
 ·rw [List.append_nil, hspec ds hlen, hres]
  exact trodAll_mk1 (shut_bool Tryd.underlying4 _)
 ·rw [List.append_nil, hspec ds hlen]
  exact jD_ Jg_ bel _ _ _ _ hread hA hlt
 ·rw [List.append_nil, hspec ds hlen, hvars]
  rfl
end Go.Proofs.YtdkcfgahdcpkkaaDoor
namespace Go.Proofs.YtdkcfgahdcpkkaaDoor
open Go.RowKit
set_option maxRecDepth 100000
def inTk (l : List ByteArray) (q : Nat) (x : ByteArray) : Bool := decide (x ∈ l.take q)
theorem Y8_ {l : List ByteArray} {q : Nat} {x y : ByteArray} (h : l[q]? = some y) : inTk l (q + 1) x = (inTk l q x || decide (y = x)) := by
 obtain ⟨h1, e1⟩ := List.getElem?_eq_some_iff.1 h
 unfold inTk
 rw [List.take_succ_eq_append_getElem h1, e1]
 by_cases h2 : x ∈ l.take q
 ·simp [h2]
 ·by_cases h3 : y = x
  ·simp [h3]
  ·simp [h2, h3, Ne.symm h3]
theorem Ji_ {l : List ByteArray} {q j : Nat} {x : ByteArray} (hj : j < q) (h : l[j]? = some x) : inTk l q x = true := by
 unfold inTk
 rw [decide_eq_true_eq]
 exact List.mem_of_getElem? (i := j) (by rw [List.getElem?_take_of_lt hj]; exact h)
def neTk (l : List ByteArray) (q : Nat) : Bool := (l.take q).any fun y => !decide (y = ⟨#[]⟩)
theorem YX_ {l : List ByteArray} {q : Nat} {y : ByteArray} (h : l[q]? = some y) : neTk l (q + 1) = (neTk l q || !decide (y = ⟨#[]⟩)) := by
 obtain ⟨h1, e1⟩ := List.getElem?_eq_some_iff.1 h
 unfold neTk
 rw [List.take_succ_eq_append_getElem h1, e1]
 simp
theorem X1_ {l : List ByteArray} {y : ByteArray} (h : y ∈ l) (hy : y ≠ ⟨#[]⟩) : neTk l l.length = true := by
 unfold neTk
 rw [List.take_length, List.any_eq_true]
 exact ⟨y, h, by simp [hy]⟩
set_option maxHeartbeats 32000000 in
theorem kk_ (A : Option Addr) (n c : Nat) (zs : List Int) (W : World) (hn : n ≤ c) (hc : c ≤ maxLen) (hr : Reads W W.heap.size 1 A n (I zs)) (hS : Suf W) :
  Calls Tryd.prog 6 #[.slice A n c] W (Ret (.bool true) W) := by
 have HSU := hD hS
 have HN := hD (Zt_ A n c zs W hn hc hr)
 clear hS hn hc hr
 go_enter Tryd.func6, Tryd.ntmps6
 go_wp2_with fail
 refine HN.out.mono ?_
 rintro e w1 ⟨rfl, hs1, hb1⟩
 have HB1 := hD hb1
 have HS1 := hD hs1
 have hl1 := hs1.lt
 clear hs1 hb1 HN
 go_wp2_with fail
 refine (Xe_ HS1.out).mono ?_
 rintro e w2 ⟨γ, v0, v1, v2, v3, Wh, hgr, rfl, ht, hd, hv, hh, hWh, hWw, hs2, ho2⟩
 obtain ⟨A0, c0, rfl⟩ := ht.form
 obtain ⟨A1, c1, rfl⟩ := hd.form
 obtain ⟨A2, c2, rfl⟩ := hv.form
 obtain ⟨A3, c3, rfl, _⟩ := zx_ hh
 have hal : Bel w2 (w2.alloc (.cells (grX γ A0 c0 A1 c1 A2 c2 A3 c3) 31)) := (Below.refl _ _).al _
 have HW3 := hD (show GW (w2.alloc (.cells (grX γ A0 c0 A1 c1 A2 c2 A3 c3) 31)) γ A0 A1 A2 A3 c0 c1 c2 c3 w2.heap.size from ⟨VL.up (VL.keep hv Kept.same (fun _ _ => trivial)) hal, DL.up (DL.keep hd Kept.same (fun _ _ => trivial)) hal, Blk.new _ _ _, hgr.bd.1.nd, hgr.names⟩)
 have HB3 := hD (show Bel W (w2.alloc (.cells (grX γ A0 c0 A1 c1 A2 c2 A3 c3) 31)) from (HB1.out.trans (ho2.below (B := W.heap.size) (by omega) (fun k e => by have e' : k = W.heap.size := e; omega))).trans (hal.mono (by have := ho2.size; omega)))
 have hbd := hgr.bd.1
 have hbl : γ.disks.length ≤ 4 ∧ γ.vols.length ≤ 40 ∧ γ.hist.length ≤ 40 := ⟨hbd.disks.2, hbd.vols, hbd.hist⟩
 have HGL := hD (gl_of (TL.up ht hal) (DL.up hd hal) (VL.up hv hal) (ML.up (Jm_ hh) hal) (HSU.out.below HB3.out HSU.out.pos) ⟨by unfold maxLen; omega, by unfold maxLen; omega, by unfold maxLen; omega⟩)
 have HCK := hD (Z5_ HGL.out hbd.inB)
 have hfew : γ.vols.length ≤ 40 := hbd.vols
 have HNA := hD (show ∀ v ∈ γ.vols, v.name.size ≤ 1000000 from hbd.inB.vn)
 have HMD := hD hgr.made
 rw [HMD.out.check] at HCK
 unfold grA at HCK
 clear ht hd hv hh hs2 ho2 hgr hal hWh hWw HS1 hbd hbl
 unfold grA
 go_wp2_with fail
 generalize (w2.alloc (.cells (grX γ A0 c0 A1 c1 A2 c2 A3 c3) 31)) = w3 at HW3 HB3 HCK HGL ⊢
 refine HCK.out.mono ?_
 rintro e w4 ⟨rfl, hb4⟩
 have HW4 := hD (HW3.out.up hb4)
 have HB4 := hD (show Bel W w4 from HB3.out.next hb4)
 unfold zU_
 clear hb4 HCK HW3 HB3 HGL
 obtain ⟨x0, x1, x2, x3, x4, x5, x6, x7, x8⟩ := kZ_ HW4.out.blk
 have HOR := hD (YV_ (A0 := A0) (c0 := c0) (A1 := A1) (c1 := c1) (A3 := A3) (c3 := c3) (γ := γ) HW4.out.vl HW4.out.nd.lk HW4.out.nd.use)
 unfold grA at HOR
 go_wp2_with fail
 refine HOR.out.mono ?_
 rintro e w5 ⟨out, ho1, ho2, Ao, co, rfl, hto, hb5⟩
 have HACC := hD (HMD.out.acc ho1 ho2)
 have HT5 := hD hto
 have HW5 := hD (HW4.out.up hb5)
 have HB5 := hD (show Bel W w5 from HB4.out.next hb5)
 have HNO := hD (show ∀ x ∈ out, x.size ≤ 1000000 from fun x hx => by
  rw [HMD.out.ordered ho1 ho2] at hx;obtain ⟨v, hv, e⟩ := List.mem_map.1 hx;rw [← e]; exact HNA.out v hv)
 have hol : (out.length : Int) = (γ.vols.length : Int) := by have := HACC.out.len; omega
 clear ho1 ho2 hto hb5 HOR x0 x1 x2 x3 x4 x5 x6 x7 x8
 obtain ⟨x0, x1, x2, x3, x4, x5, x6, x7, x8⟩ := kZ_ HW5.out.blk
 go_wp2_with fail
 clear x0 x1 x2 x3 x4 x5 x6 x7 x8
 have hob : out.length ≤ 40 := by have := HACC.out.len; omega
 have HOL := hD hol
 clear hol
 go_loopw [7] (fun i wx => ∃ k : Nat, k ≤ out.length ∧ i = .int .i64 (k : Int) ∧ Bel w5 wx) (fun i _ => out.length - (intOf i).toNat)
 case atStart => exact ⟨0, Nat.zero_le _, rfl, Below.refl _ _⟩
 case round =>
  obtain ⟨wo, hwo⟩ : ∃ wo, wo = wr := ⟨_, rfl⟩;subst hwo;obtain ⟨k, hk, rfl, hb⟩ := hrel;have HG := hD (HW5.out.up hb);have HB := hD hb;clear hb;by_cases hlt : k < out.length
  ·have z0 : (k : Int) < (out.length : Int) := by omega
   have z1 : (0 : Int) ≤ (k : Int) := by omega
   obtain ⟨od, nm, rfl, hx, _, hod, hoc⟩ := (HT5.out.up HB.out).cell hlt;have hnm := HNO.out nm (List.mem_of_getElem? hx);have HX := hD hx;have HSF := hD (show ∀ w', Bel wo w' → (w'.cell? (od.add k) = some (.string nm) ∧ w'.cell? ⟨w2.heap.size, 0, none⟩ = some (.string γ.name) ∧ w'.cell? ⟨w2.heap.size, 1, none⟩ = some (.int .u64 γ.id) ∧ w'.cell? ⟨w2.heap.size, 2, none⟩ = some (.int .i64 γ.seq) ∧ w'.cell? ⟨w2.heap.size, 3, none⟩ = some (.int .i64 γ.extent) ∧ w'.cell? ⟨w2.heap.size, 4, none⟩ = some (.int .i64 γ.next) ∧ w'.cell? ⟨w2.heap.size, 5, none⟩ = some (.slice A0 γ.tags.length c0) ∧ w'.cell? ⟨w2.heap.size, 6, none⟩ = some (.slice A1 γ.disks.length c1) ∧ w'.cell? ⟨w2.heap.size, 7, none⟩ = some (.slice A2 γ.vols.length c2) ∧ w'.cell? ⟨w2.heap.size, 8, none⟩ = some (.slice A3 γ.hist.length c3)) from fun w' hb => ⟨bkeep hb hoc, kZ_ (HG.out.up hb).blk⟩);clear hx hoc;go_upto_region 11 with fail
   have hSd := HSF.out _ (Below.refl _ _).drew;refine wp_region_held_drew (S := fun w' : World => w'.cell? (od.add k) = some (.string nm) ∧ w'.cell? ⟨w2.heap.size, 0, none⟩ = some (.string γ.name) ∧ w'.cell? ⟨w2.heap.size, 1, none⟩ = some (.int .u64 γ.id) ∧ w'.cell? ⟨w2.heap.size, 2, none⟩ = some (.int .i64 γ.seq) ∧ w'.cell? ⟨w2.heap.size, 3, none⟩ = some (.int .i64 γ.extent) ∧ w'.cell? ⟨w2.heap.size, 4, none⟩ = some (.int .i64 γ.next) ∧ w'.cell? ⟨w2.heap.size, 5, none⟩ = some (.slice A0 γ.tags.length c0) ∧ w'.cell? ⟨w2.heap.size, 6, none⟩ = some (.slice A1 γ.disks.length c1) ∧ w'.cell? ⟨w2.heap.size, 7, none⟩ = some (.slice A2 γ.vols.length c2) ∧ w'.cell? ⟨w2.heap.size, 8, none⟩ = some (.slice A3 γ.hist.length c3)) (by kernel_rfl) hSd (fun hHeld => ?_);refine tkB [0, 1, 2, 3, 4] ?_
   iterate 5
    refine tk (oi := ⟨some _, _, _, _, _, _⟩) (v := ?_) rfl (by kernel_rfl) (by kernel_rfl) (by kernel_rfl) (fun _ _ _ _ _ h => h) rfl (Or.inl ⟨by rfl, ?_⟩) hSd ?_;rotate_left 1
    ·(intro w hSw; (try dsimp only at hSw); go_simp; try with_reducible rfl)
    simp only [Act.put, tS]
   refine tkE ?_;refine wpAnyH_all (rs := [5]) (by kernel_rfl) (by simp) (fun i hi => ?_);obtain rfl : i = 5 := by simpa using hi
   refine wpOp_step (o := ⟨some 44, _, _, _, _, _⟩) rfl (fun K2 hK2 => ?_);go_simp;go_at_call 18
   have HMB := ZJ_ (A0 := A0) (c0 := c0) (A1 := A1) (c1 := c1) (A3 := A3) (c3 := c3) (γ := γ) nm hnm (HG.out.up (Below.refl _ _).drew).vl HG.out.nd.lk HG.out.nd.use;unfold grA at HMB;refine HMB.mono ?_;rintro e w7 ⟨A7, c7, rfl, ht7, hb7⟩;have HT7 := hD ht7;have HB7 := hD (HB.out.next ((Below.refl _ _).drew.next hb7));have HB07 := hD (show Bel wo w7 from (Below.refl _ _).drew.next hb7);have hs7 := HSF.out _ ((Below.refl _ _).drew.next hb7);clear ht7 hb7 HMB hSd hHeld;refine hK2 _ _ ⟨hs7, ?_⟩;try simp only [Act.put, upd, Nat.reduceAdd, Nat.reduceBEq, tS]
   refine xK_ (i := 6) (oi := ⟨some 8, _, _, _, _, _⟩) (v := ?_) rfl (by kernel_rfl) (by kernel_rfl) (by kernel_rfl) (fun _ _ _ _ _ h => h) rfl (Or.inl ⟨by rfl, ?_⟩) hs7 ?_;rotate_left 1
   ·(intro w hSw; (try dsimp only at hSw); go_simp; try with_reducible rfl)
   simp only [Act.put, tS];refine wpAnyH_done (by kernel_rfl) ?_ _;clear hs7;have HAF := hD (HACC.out.at_ k nm HX.out);obtain ⟨L, hL⟩ : ∃ L, L = belowR γ.vols nm := ⟨_, rfl⟩;rw [← hL] at HAF HT7 ⊢;have hLl : L.length ≤ 40 := by rw [hL]; exact Nat.le_trans (xu_ _ _) hfew
   have HLS := hD (show ∀ x ∈ L, x.size ≤ 1000000 from fun x hx => by
    obtain ⟨⟨j, _, hj⟩, _⟩ := HAF.out x hx;exact HNO.out x (List.mem_of_getElem? hj))
   clear hL;go_wp2_with fail
   go_loopw [9] (fun i wx => ∃ m : Nat, m ≤ L.length ∧ i = .int .i64 (m : Int) ∧ Bel w7 wx) (fun i _ => L.length - (intOf i).toNat)
   case atStart => exact ⟨0, Nat.zero_le _, rfl, Below.refl _ _⟩
   case round =>
    obtain ⟨wm, hwm⟩ : ∃ wm, wm = wr := ⟨_, rfl⟩;subst hwm;obtain ⟨m, hm, rfl, hb⟩ := hrel;have HBm := hD hb;have HGm := hD (HW5.out.up (HB7.out.next hb));clear hb;by_cases hlm : m < L.length
    ·have y0 : (m : Int) < (L.length : Int) := by omega
     have y1 : (0 : Int) ≤ (m : Int) := by omega
     obtain ⟨ld, x, rfl, hx, _, hld, hlc⟩ := (HT7.out.up HBm.out).cell hlm;have HXM := hD (List.mem_of_getElem? hx);have hxs := HLS.out x HXM.out;have HLC := hD (show ∀ w', Bel wm w' → w'.cell? (ld.add m) = some (.string x) from fun w' hb => bkeep hb hlc);have HOC := hD (show ∀ w', Bel wm w' → w'.cell? (od.add k) = some (.string nm) from fun w' hb => (HSF.out _ ((HB07.out.next HBm.out).next hb)).1);have HSM := hD (show ∀ w', Bel wm w' → (w'.cell? (ld.add m) = some (.string x) ∧ w'.cell? ⟨w2.heap.size, 0, none⟩ = some (.string γ.name) ∧ w'.cell? ⟨w2.heap.size, 1, none⟩ = some (.int .u64 γ.id) ∧ w'.cell? ⟨w2.heap.size, 2, none⟩ = some (.int .i64 γ.seq) ∧ w'.cell? ⟨w2.heap.size, 3, none⟩ = some (.int .i64 γ.extent) ∧ w'.cell? ⟨w2.heap.size, 4, none⟩ = some (.int .i64 γ.next) ∧ w'.cell? ⟨w2.heap.size, 5, none⟩ = some (.slice A0 γ.tags.length c0) ∧ w'.cell? ⟨w2.heap.size, 6, none⟩ = some (.slice A1 γ.disks.length c1) ∧ w'.cell? ⟨w2.heap.size, 7, none⟩ = some (.slice A2 γ.vols.length c2) ∧ w'.cell? ⟨w2.heap.size, 8, none⟩ = some (.slice A3 γ.hist.length c3)) from fun w' hb => ⟨bkeep hb hlc, kZ_ (HGm.out.up hb).blk⟩);clear hx hlc;go_wp2_with fail
     go_loopw [10, 11] (fun u i wx => ∃ q : Nat, q ≤ k ∧ u = .bool (inTk out q x) ∧ i = .int .i64 (q : Int) ∧ Bel wm wx) (fun _ i _ => k - (intOf i).toNat)
     case atStart => exact ⟨0, Nat.zero_le _, by simp [inTk], rfl, Below.refl _ _⟩
     case round =>
      obtain ⟨q, hq, rfl, rfl, hb⟩ := hrel;have HBq := hD hb;clear hb;have l0 := HLC.out _ HBq.out;by_cases hlq : q < k
      ·have t0 : (q : Int) < (k : Int) := by omega
       have t1 : (0 : Int) ≤ (q : Int) := by omega
       have t2 : (q : Int) < (out.length : Int) := by omega
       obtain ⟨od', y, e', hy, _, hyd, hyc⟩ := (HT5.out.up ((HB7.out.next HBm.out).next HBq.out)).cell (k := q) (by omega);injection e' with e';subst e';have HNX := hD (Y8_ (x := x) hy);clear hy;obtain ⟨b, hbq⟩ : ∃ b, inTk out q x = b := ⟨_, rfl⟩;rw [hbq] at HNX ⊢;clear hbq;cases b with
       | true =>
        go_wp2_with fail
        go_quiet (fail)
        go_wp2_with fail
        go_roundw
        case rel => exact ⟨q + 1, by omega, by rw [HNX.out]; rfl, by go_num, zg_ HBq.out _⟩
        case measure => simp [intOf]; omega
       | false =>
        obtain ⟨b2, hb2⟩ : ∃ b2, decide (y = x) = b2 := ⟨_, rfl⟩;have q1 : (y.toList == x.toList) = b2 := by rw [yi_, hb2]
        have HN2 := hD (show inTk out (q + 1) x = b2 by rw [HNX.out, hb2]; rfl);clear hb2;go_wp2_with fail
        go_quiet (fail)
        go_wp2_with fail
        go_roundw
        case rel => exact ⟨q + 1, by omega, by rw [HN2.out], by go_num, zg_ HBq.out _⟩
        case measure => simp [intOf]; omega
      ·obtain rfl : q = k := by omega
       have t0 : ¬ (q : Int) < (q : Int) := by omega
       obtain ⟨⟨j, hj, hoj⟩, hne, y, hy, hyn⟩ := HAF.out x HXM.out;have HIN := hD (Ji_ hj hoj);have q1 : (x.toList == nm.toList) = false := by rw [yi_, decide_eq_false hne]
       have HY := hD hy;have HYN := hD hyn;have o0 := HOC.out _ HBq.out;rw [HIN.out];clear hj hoj hne hy hyn;go_wp2_with fail
       go_quiet (fail)
       have HBr := hD (zg_ HBq.out nq);go_upto_region 23 with fail
       generalize wr.drewN nq = wq at HBr ⊢;have hSd := HSM.out _ (HBr.out.next (Below.refl _ _).drew);refine wp_region_held_drew (S := fun w' : World => w'.cell? (ld.add m) = some (.string x) ∧ w'.cell? ⟨w2.heap.size, 0, none⟩ = some (.string γ.name) ∧ w'.cell? ⟨w2.heap.size, 1, none⟩ = some (.int .u64 γ.id) ∧ w'.cell? ⟨w2.heap.size, 2, none⟩ = some (.int .i64 γ.seq) ∧ w'.cell? ⟨w2.heap.size, 3, none⟩ = some (.int .i64 γ.extent) ∧ w'.cell? ⟨w2.heap.size, 4, none⟩ = some (.int .i64 γ.next) ∧ w'.cell? ⟨w2.heap.size, 5, none⟩ = some (.slice A0 γ.tags.length c0) ∧ w'.cell? ⟨w2.heap.size, 6, none⟩ = some (.slice A1 γ.disks.length c1) ∧ w'.cell? ⟨w2.heap.size, 7, none⟩ = some (.slice A2 γ.vols.length c2) ∧ w'.cell? ⟨w2.heap.size, 8, none⟩ = some (.slice A3 γ.hist.length c3)) (by kernel_rfl) hSd (fun hHeld => ?_);refine tkB [0, 1, 2, 3, 4] ?_
       iterate 5
        refine tk (oi := ⟨some _, _, _, _, _, _⟩) (v := ?_) rfl (by kernel_rfl) (by kernel_rfl) (by kernel_rfl) (fun _ _ _ _ _ h => h) rfl (Or.inl ⟨by rfl, ?_⟩) hSd ?_;rotate_left 1
        ·(intro w hSw; (try dsimp only at hSw); go_simp; try with_reducible rfl)
        simp only [Act.put, tS]
       refine tkE ?_;refine wpAnyH_all (rs := [5]) (by kernel_rfl) (by simp) (fun i hi => ?_);obtain rfl : i = 5 := by simpa using hi
       refine wpOp_step (o := ⟨some 86, _, _, _, _, _⟩) rfl (fun K3 hK3 => ?_);go_simp;go_at_call 21
       have HMU := ZF_ (A0 := A0) (c0 := c0) (A1 := A1) (c1 := c1) (A3 := A3) (c3 := c3) (γ := γ) x (HGm.out.up (HBr.out.next (Below.refl _ _).drew)).vl HGm.out.nd.lk;unfold grA at HMU;refine HMU.mono ?_;rintro e w11 ⟨Au, cu, rfl, htu, hbu⟩;have HTU := hD htu;have HB11 := hD (show Bel wm w11 from (HBr.out.next (Below.refl _ _).drew).next hbu);have hs11 := HSM.out _ HB11.out;clear htu hbu HMU hSd hHeld;refine hK3 _ _ ⟨hs11, ?_⟩;try simp only [Act.put, upd, Nat.reduceAdd, Nat.reduceBEq, tS]
       refine xK_ (i := 6) (oi := ⟨some 13, _, _, _, _, _⟩) (v := ?_) rfl (by kernel_rfl) (by kernel_rfl) (by kernel_rfl) (fun _ _ _ _ _ h => h) rfl (Or.inl ⟨by rfl, ?_⟩) hs11 ?_;rotate_left 1
       ·(intro w hSw; (try dsimp only at hSw); go_simp; try with_reducible rfl)
       simp only [Act.put, tS];refine wpAnyH_done (by kernel_rfl) ?_ _;clear hs11 l0 o0;obtain ⟨U, hU⟩ : ∃ U, U = xp_ γ.vols x := ⟨_, rfl⟩;rw [← hU] at HY HTU ⊢;have hUl : U.length ≤ 40 := by rw [hU]; exact Nat.le_trans (xu_ _ _) hfew
       clear hU;go_wp2_with fail
       go_loopw [12, 14] (fun u i wx => ∃ q2 : Nat, q2 ≤ U.length ∧ u = .bool (neTk U q2) ∧ i = .int .i64 (q2 : Int) ∧ Bel w11 wx) (fun _ i _ => U.length - (intOf i).toNat)
       case atStart => exact ⟨0, Nat.zero_le _, by simp [neTk], rfl, Below.refl _ _⟩
       case round =>
        obtain ⟨q2, hq2, rfl, rfl, hb⟩ := hrel;have HBz := hD hb;clear hb;by_cases hlz : q2 < U.length
        ·have t3 : (q2 : Int) < (U.length : Int) := by omega
         have t4 : (0 : Int) ≤ (q2 : Int) := by omega
         obtain ⟨ud, z, rfl, hz, _, _, hzc⟩ := (HTU.out.up HBz.out).cell hlz;have HNZ := hD (YX_ hz);clear hz;obtain ⟨b, hbq⟩ : ∃ b, neTk U q2 = b := ⟨_, rfl⟩;rw [hbq] at HNZ ⊢;clear hbq;cases b with
         | true =>
          go_wp2_with fail
          go_roundw
          case rel => exact ⟨q2 + 1, by omega, by rw [HNZ.out]; rfl, by go_num, HBz.out⟩
          case measure => simp [intOf]; omega
         | false =>
          by_cases hze : z = ⟨#[]⟩
          ·have q3 : z.toList.isEmpty = true := by rw [hze]; kernel_rfl
           have HN3 := hD (show neTk U (q2 + 1) = false by rw [HNZ.out, hze]; rfl);clear hze;go_wp2_with fail
           go_roundw
           case rel => exact ⟨q2 + 1, by omega, by rw [HN3.out], by go_num, HBz.out⟩
           case measure => simp [intOf]; omega
          ·have q3 : z.toList.isEmpty = false := Bool.eq_false_iff.2 (fun h => hze (zH_ h))
           have HN3 := hD (show neTk U (q2 + 1) = true by rw [HNZ.out, decide_eq_false hze]; rfl);clear hze;go_wp2_with fail
           go_roundw
           case rel => exact ⟨q2 + 1, by omega, by rw [HN3.out], by go_num, HBz.out⟩
           case measure => simp [intOf]; omega
        ·obtain rfl : q2 = U.length := by omega
         have HNE := hD (X1_ HY.out HYN.out);have HBE := hD (show Bel w7 wr from (HBm.out.next HB11.out).next HBz.out);rw [HNE.out];go_wp2_with fail
         go_roundw
         case rel => exact ⟨m + 1, by omega, by go_num, HBE.out⟩
         case measure => simp [intOf]; omega
    ·obtain rfl : m = L.length := by omega
     go_wp2_with fail
     go_roundw
     case rel => exact ⟨k + 1, by omega, by go_num, HB7.out.next HBm.out⟩
     case measure => simp [intOf]; omega
  ·obtain rfl : k = out.length := by omega
   have HSU6 := hD (HSU.out.below (HB5.out.next HB.out) HSU.out.pos);go_wp2_with fail
   refine (Xu_ HSU6.out).mono ?_;rintro e w9 ⟨rfl, hb9⟩;have HB9 := hD ((HB5.out.next HB.out).next hb9);clear hb9;go_wp2_with fail
   go_ret
   exact ⟨rfl, HB9.out⟩
end Go.Proofs.YtdkcfgahdcpkkaaDoor
namespace Go.Proofs.YtdkcfgahdcpkkaaDoor
open Go.ChangeShapes Go.WideShapes Go.ChangeAt Go.RowKit
open Go.ChangeMaps (open_string shut_string)
set_option maxRecDepth 100000
set_option maxRecDepth 100000 in
theorem xk_ (os : Os) (started : os.Started) (H : Type) (enc : TypeId × Value → H) :
  ReturnsInHanded {} Tryd.checked os 6 .any (fun w args => (Rows.modelAcceptsSpec.pre enc Tryd.prog Tryd.f6 [] false w args ∧ laidMetH Tryd.prog kC_ w) ∧ sizedMet enc Tryd.prog Tryd.f6 (OpenSpec.ofChange Rows.modelAcceptsSpec) false w args) (Rows.modelAcceptsSpec.post enc Tryd.prog Tryd.f6 false true false false) := by
 refine qx_ started (by kernel_rfl) Tryd.func6
  (ChangeSpec.witness_shaped (enc := enc) (C := Tryd.checked) (os := os) (X := fun w _ => laidMetH Tryd.prog kC_ w) false (World.doorLaid Tryd.prog 400 os) #[.slice none 0 0] 8 rfl (World.shaped_of_RefB (by kernel_rfl) (by kernel_rfl)) (by kernel_rfl) (by kernel_rfl) (by kernel_rfl) (Qf_ os _)) rfl (by kernel_rfl) (by kernel_rfl) ?_ ?_
 ·intro ds hds
  match ds, hds with
  | [d1], _ => rfl
 ·intro W base args ds p hval hA hS
  rw [Tryd.params6] at hA hval;obtain ⟨v0, vs0, d0, ds0, p0, q0, hargs, rfl, rfl, h0, r0⟩ := trodAll_cons hA;obtain ⟨rfl, rfl, rfl⟩ := trodAll_nil r0;obtain rfl : args = #[v0] := by cases args; simp_all
  obtain ⟨A0, n0, c0, z0, rfl, hn0, hc0, hl0, hr0, hw0⟩ := X0_ Tryd.underlying22 Tryd.underlying3 (by kernel_rfl) (hval 0 22 v0 rfl rfl) h0;exact kk_ A0 n0 c0 z0 W hn0 hc0 hr0 hS
theorem xR_ : Rows.modelAcceptsRow.holds Tryd.pinned (OpenSpec.ofChange Rows.modelAcceptsSpec) :=
 OpenClaim.holds_of_wide 6 Tryd.f6 rfl rfl rfl rfl rfl rfl rfl ⟨rfl, rfl, rfl, rfl, rfl⟩ rfl rfl rfl rfl rfl (by kernel_rfl) Tryd.func6 (by kernel_rfl)
  (of_decide_eq_true (by kernel_rfl)) (by unfold Func.isWrapper; first | (rw [if_pos (by decide +kernel)]; kernel_rfl) | (rw [if_neg (by decide +kernel)]; exact ⟨rfl, rfl⟩))
  (fun os started H enc _ => xk_ os started H enc)
theorem modelAccepts_card : Rows.ModelAcceptsCardSaid :=
 Claim7.holds_tied_plain_at .later [] [.widerDeep] true (true, "97d92cc50b48428903a7801de5069f3246158862b580407877adbac374272e0c") false
  xR_ (fun _ h => by cases h) (by kernel_rfl) (fun _ h => by cases h) modelAccepts_row_tie rfl ⟨rfl, rfl⟩ (by kernel_rfl) rfl
  (fun f fn hf hfn => by
   obtain rfl : f = 6 := Option.some.inj ((show Tryd.prog.funcNamed "volumegroup/volumegrouplaw09.ModelAccepts" = some 6 by kernel_rfl).symm.trans hf) |>.symm;obtain rfl : fn = Tryd.f6 := (Option.some.inj (Tryd.func6.symm.trans hfn)).symm
   exact ⟨by kernel_rfl, fun j t ht => by
    rw [Tryd.params6] at ht;rcases j with _ | j
    ·obtain rfl : t = 22 := by simpa using ht.symm
     exact (show Tryd.prog.wantsStandIn 22 = false by kernel_rfl)
    ·simp at ht⟩)
  (by kernel_rfl)
#print axioms modelAccepts_card
end Go.Proofs.YtdkcfgahdcpkkaaDoor
