/- rule 7, its contract (printed by genOver2.py). -/
import Derived.Test.YtdkcfgahdcpkkaaDoorCOverP
import Derived.Test.YtdkcfgahdcpkkaaDoorCAwake
import Derived.DeepKeys4
import Derived.Test.YtdkcfgahdcpkkaaDoorCOver1
import Derived.Test.YtdkcfgahdcpkkaaDoorCFlags
set_option linter.all false
namespace Go.Proofs.YtdkcfgahdcpkkaaDoor
open Go.RowKit Go.Maps
set_option maxRecDepth 100000
def thV (e : ByteArray × Int) : Value := .agg #[.string e.1, .int .i64 e.2]
theorem QO_ {a b : ByteArray × Int} (h : thV a = thV b) : a = b := by
 obtain ⟨a1, a2⟩ := a
 obtain ⟨b1, b2⟩ := b
 unfold thV at h
 injection h with h
 simp at h
 rw [h.1, h.2]
theorem QM_ : Tryd.prog.keyType 134 = true := by kernel_rfl
theorem QL_ : laidOutB Tryd.prog = true := by kernel_rfl
theorem Qq_ : (134 : TypeId) < Tryd.prog.types.size := of_decide_eq_true (by kernel_rfl)
theorem th_cells : Tryd.prog.cellsOf 134 = 2 := by kernel_rfl
theorem tkey : Keyed Tryd.prog 134 := Keyed.of_law (deep_law_laid QL_ (m := 3) (by omega) Qq_ (by kernel_rfl) (by rw [Tryd.underlying134]))
theorem QK_ : ∃ m, Tryd.prog.types.size = m + 1 := ⟨Tryd.prog.types.size - 1, (Nat.succ_pred_eq_of_pos (Nat.lt_of_le_of_lt (Nat.zero_le _) Qq_)).symm⟩
theorem QN_ {e : ByteArray × Int} (h1 : e.1.size ≤ maxLen) (h2 : (Lit.int .i64 e.2).wf = true) : ∃ kl, keyOf Tryd.prog 134 (thV e) = some kl := by
 obtain ⟨m, hm⟩ := QK_
 have c9 : Tryd.prog.cellsOf 9 = 1 := by kernel_rfl
 have c3 : Tryd.prog.cellsOf 3 = 1 := by kernel_rfl
 unfold keyOf
 rw [Tryd.underlying134]
 simp only
 rw [QM_, hm]
 simp [thV, Value.formed, Tryd.underlying134, th_cells, Value.cells, Program.keyLits, Tryd.underlying9, Tryd.underlying3, c9, c3, h1, h2]
abbrev ThK := { v : Value // ∃ kl, keyOf Tryd.prog 134 v = some kl }
noncomputable instance : DecidableEq ThK := fun _ _ => Classical.propDecidable _
noncomputable def thF (a : ThK) : Lit := Classical.choose a.2
theorem kQ_ (a : ThK) : keyOf Tryd.prog 134 a.1 = some (thF a) := Classical.choose_spec a.2
theorem QS_ (x y : ThK) (h : thF x = thF y) : x = y := Subtype.ext (tkey.inj (kQ_ x) (h ▸ kQ_ y))
theorem QR_ (x : ThK) : WideAt.IsKeyLit (thF x) := tkey.key (kQ_ x)
noncomputable def thM (l : List (ByteArray × Int)) (a : ThK) : Option Value := @ite _ (∃ e ∈ l, a.1 = thV e) (Classical.propDecidable _) (some (.bool true)) none
theorem QP_ (l : List (ByteArray × Int)) (e : ByteArray × Int) (y : ThK) (hy : y.1 = thV e) (x : ThK) : setM (thM l) y (.bool true) x = thM (l ++ [e]) x := by
 unfold setM thM
 by_cases h : x = y
 ·rw [if_pos h, if_pos ⟨e, by simp, by rw [h, hy]⟩]
 ·rw [if_neg h]
  by_cases h2 : ∃ e ∈ l, x.1 = thV e
  ·rw [if_pos h2, if_pos (by obtain ⟨e', h1, h3⟩ := h2; exact ⟨e', by simp [h1], h3⟩)]
  ·rw [if_neg h2, if_neg (by
    rintro ⟨e', h1, h3⟩;rcases List.mem_append.1 h1 with h1 | h1
    ·exact h2 ⟨e', h1, h3⟩
    ·simp at h1
     subst h1;exact h (Subtype.ext (h3.trans hy.symm)))]
theorem QQ_ (l : List (ByteArray × Int)) (s : Sg) (y : ThK) (hy : y.1 = thV (s.pool, s.dev)) : (thM l y).getD (.bool false) = .bool (metB l s) := by
 unfold thM
 by_cases h : ∃ e ∈ l, y.1 = thV e
 ·rw [if_pos h]
  obtain ⟨e, h1, h2⟩ := h;have h3 : (s.pool, s.dev) = e := QO_ (hy.symm.trans h2);subst h3;rw [show metB l s = true from List.any_eq_true.2 ⟨_, h1, by simp⟩];rfl
 ·rw [if_neg h]
  rw [show metB l s = false from List.any_eq_false.2 fun e he hh => h ⟨e, he, by
   simp at hh;rw [hy, ← hh.1, ← hh.2]⟩]
  rfl
structure Tm (mb tb : Nat) (l : List (ByteArray × Int)) (w : World) : Prop where
 box : Blk w tb 132 #[.map (some mb)]
 map : ∃ n, n ≤ l.length ∧ VMp Tryd.prog thF 134 w mb n (thM l)
theorem Tm.up {mb tb : Nat} {l : List (ByteArray × Int)} {w w' : World} (h : Tm mb tb l w) (hb : Bel w w') : Tm mb tb l w' := by
 obtain ⟨n, hn, hm⟩ := h.map
 exact ⟨h.box.below hb h.box.lt, n, hn, hm.up hb⟩
theorem Qp_ (w : World) : (zeroValue 4).run Tryd.prog w = .ok (.bool false) w := by kernel_rfl
set_option maxHeartbeats 16000000 in
theorem YT_ {w : World} {mb tb : Nat} {l : List (ByteArray × Int)} (h : Tm mb tb l w) (hne : mb ≠ tb) {v : Vo} {s : Sg} {A0 A1 Bt Bs : Option Addr} {d0 d1 bt bs : Nat} (hl : l.length ≤ 1000000) (hs : s.pool.size ≤ 1000000) (hd : (Lit.int .i64 s.dev).wf = true) :
  Calls Tryd.prog 90 #[.agg (voA v (.slice Bt v.tags.length bt) (.slice Bs v.segs.length bs)), .agg (sgA s (.slice A0 s.areas.length d0) (.slice A1 s.stale.length d1)), .pointer (some ⟨tb, 0, none⟩)] w (XA_ (if s.kind = 6 ∧ metB l s = true then 9 else 0) (· = mb) (Tm mb tb (l ++ x2_ s)) w) := by
 have hby := Blk.new (w.alloc (.cells (voX v Bt bt Bs bs) 53)) 58 (sgX s A0 d0 A1 d1)
 rw [show (w.alloc (.cells (voX v Bt bt Bs bs) 53)).heap.size = w.heap.size + 1 by simp] at hby
 obtain ⟨j0, j1, j2, j3, j4, j5, j6, j7, j8, j9, j10⟩ := elev hby
 have HT := hD (show Tm mb tb l ((w.alloc (.cells (voX v Bt bt Bs bs) 53)).alloc (.cells (sgX s A0 d0 A1 d1) 58)) from h.up (((Below.refl _ _).al _).al _))
 have HB := hD (show Bel w ((w.alloc (.cells (voX v Bt bt Bs bs) 53)).alloc (.cells (sgX s A0 d0 A1 d1) 58)) from ((Below.refl _ _).al _).al _)
 have b0 : ((w.alloc (.cells (voX v Bt bt Bs bs) 53)).alloc (.cells (sgX s A0 d0 A1 d1) 58)).cell? ⟨tb, 0, none⟩ = some (.map (some mb)) := by rw [HT.out.box.cell]; rfl
 obtain ⟨r, hr⟩ : ∃ r : Int, (if s.kind = 6 ∧ metB l s = true then 9 else 0) = r := ⟨_, rfl⟩
 have HR := hD hr
 rw [hr]
 clear hr hby h
 unfold voA sgA
 by_cases hk : s.kind = 6
 ·have q : (s.kind != 6) = false := by rw [hk]; rfl
  have HTS := hD (show x2_ s = [(s.pool, s.dev)] by unfold x2_; rw [if_pos hk]);obtain ⟨b, hb⟩ : ∃ b, metB l s = b := ⟨_, rfl⟩;have HM := hD hb;have HR2 := hD (show r = if b then 9 else 0 by rw [← HR.out, ← hb]; simp [hk]);obtain ⟨n, hn, hm⟩ := HT.out.map;have HVM := hD hm;have hkk := QN_ (e := (s.pool, s.dev)) (by show s.pool.size ≤ maxLen; unfold maxLen; omega) hd;obtain ⟨y, hy⟩ : ∃ y : ThK, y.1 = thV (s.pool, s.dev) := ⟨⟨_, hkk⟩, rfl⟩;have HKY := hD (show keyOf Tryd.prog 134 (.agg #[.string s.pool, .int .i64 s.dev]) = some (thF y) by have := kQ_ y; rw [hy] at this; exact this);have HMB := hD (show (thM l y).getD (.bool false) = .bool b by rw [QQ_ l s y hy, hb]);have HY := hD hy;clear hk hb hm hkk hy;go_enter Tryd.func90, Tryd.ntmps90
  cases b with
  | true =>
   have HE := hD (show r = 9 from HR2.out);go_wp2_with (at_lookup; refine z0_ rfl _ _ rfl tkey Tryd.underlying132 (Qp_ _) HVM.out y _ _ rfl rfl HKY.out HMB.out ?_; skip)
   go_ret
   exact ⟨by rw [HE.out]; rfl, Only.of_below _ HB.out, by rw [HE.out]; exact fun h => absurd h (by decide)⟩
  | false =>
   have HE := hD (show r = 0 from HR2.out);go_wp2_with (first | (at_lookup; refine z0_ rfl _ _ rfl tkey Tryd.underlying132 (Qp_ _) HVM.out y _ _ rfl rfl HKY.out HMB.out ?_; skip) | (at_mapUpdate; refine yq_ rfl _ _ _ rfl tkey Tryd.underlying132 QS_ QR_ HVM.out (by unfold maxLen; omega) y _ _ rfl rfl rfl HKY.out ?_; intro w8 hm8 hg8; have HM8 := hD hm8; have HG8 := hD hg8; clear hm8 hg8; skip))
   have HON := hD (show Only (· = mb) w w8 from ((Only.of_below _ HB.out).trans ((Only.refl (· = mb) _).grown HG8.out (fun q e => .inl (by injection e with e; exact e.symm)))));have HTN := hD (show Tm mb tb (l ++ x2_ s) w8 from ⟨HT.out.box.only ((Only.refl (· = mb) _).grown HG8.out (fun q e => .inl (by injection e with e; exact e.symm))) (fun e => hne e.symm), n + 1, by rw [HTS.out, List.length_append]; simp; omega, HM8.out.ext (fun x => by rw [HTS.out]; exact QP_ l _ y HY.out x)⟩);go_wp2_with fail
   go_ret
   exact ⟨by rw [HE.out]; rfl, HON.out, fun _ => HTN.out⟩
 ·have q : (s.kind != 6) = true := by simp [hk]
  have HTS := hD (show x2_ s = [] by unfold x2_; rw [if_neg hk]);have HR2 := hD (show r = 0 by rw [← HR.out, if_neg (fun h => hk h.1)]);clear hk;go_enter Tryd.func90, Tryd.ntmps90
  go_wp2_with fail
  go_ret
  exact ⟨by rw [HR2.out]; rfl, Only.of_below _ HB.out, fun _ => by rw [HTS.out, List.append_nil]; exact HT.out⟩
end Go.Proofs.YtdkcfgahdcpkkaaDoor
namespace Go.Proofs.YtdkcfgahdcpkkaaDoor
open Go.RowKit Go.Maps
set_option maxRecDepth 100000
theorem Yw_ {P : Program} {w : World} {ops : Array Oper} {o : Oper} {a : Act} {Q : Exit → Act → World → Prop} {K' : Act → World → Prop} {E : Prop} (hgd : o.guard = none) (l c : Operand) (t : TypeId) (hop : o.op = Op.makeSlice t l c) (e : TypeId) (z : Value) (bytes : Nat) (ht : P.underlying t = some (.slice e)) (hinfo : (P.info? e).map (fun i => (i.zero, i.size, i.bytes)) = some (some z, 1, bytes)) (hz1 : z.cells = #[z])
  (n : Nat) (hl : a.eval l = .int .i64 (n : Int)) (hc : a.eval c = .int .i64 (n : Int)) (hbytes : bytes * n ≤ 281474976710656) (h63 : n ≤ 9223372036854775807)
  (hK : K' (a.put o.dst (.slice (some ⟨w.heap.size, 0, none⟩) n n)) (w.alloc (.cells (madeCells #[z] n) e))) : if Region.wanted o (yielded ops a.tmps) = true then Oper.wp P o a w K' Q else E := by
 have hw : Region.wanted o (yielded ops a.tmps) = true := by simp [Region.wanted, hgd]
 rw [if_pos hw]
 have hrun := run_make_row' (P := P) t e z bytes ht hinfo hz1 .i64 .i64 n hbytes h63 w
 unfold Oper.wp
 simp [execOp, hop, hl, hc, hrun, Result.andThen]
 exact hK
theorem infoBo : (Tryd.prog.info? 4).map (fun i => (i.zero, i.size, i.bytes)) = some (some (.bool false), 1, 1) := by kernel_rfl
theorem Zq_ {l : List Sg} {m : Nat} {s : Sg} (h : l[m]? = some s) : x1_ (l.take (m + 1)) = x1_ (l.take m) ++ x2_ s := by
 obtain ⟨h1, e1⟩ := List.getElem?_eq_some_iff.1 h
 unfold x1_
 rw [List.take_succ_eq_append_getElem h1, e1, List.flatMap_append]
 simp
theorem ko_ {g : Gr} {k m : Nat} {v : Vo} {s : Sg} (hv : g.vols[k]? = some v) (hs : v.segs[m]? = some s) : yv_ g k (m + 1) = yv_ g k m ++ x2_ s := by
 unfold yv_
 rw [yf_ hv, Zq_ hs, List.append_assoc]
theorem kn_ {g : Gr} {k : Nat} {v : Vo} (hv : g.vols[k]? = some v) : yv_ g k v.segs.length = yv_ g (k + 1) 0 := by
 obtain ⟨h1, e1⟩ := List.getElem?_eq_some_iff.1 hv
 unfold yv_
 rw [yf_ hv, List.take_length, List.take_succ_eq_append_getElem h1, e1, List.flatMap_append]
 simp [x1_]
theorem km_ (g : Gr) : yv_ g 0 0 = [] := by simp [yv_, x1_]
theorem qm_ : ∀ l : List Sg, (x1_ l).length ≤ l.length
 | [] => by simp [x1_]
 | s :: l => by
  have h := qm_ l;have h1 : (x2_ s).length ≤ 1 := by unfold x2_; split <;> simp
  unfold x1_ at h ⊢;rw [List.flatMap_cons, List.length_append, List.length_cons];omega
theorem jO_ : ∀ l : List Vo, (∀ v ∈ l, v.segs.length ≤ 64) → (l.flatMap (fun v => x1_ v.segs)).length ≤ l.length * 64
 | [], _ => by simp
 | v :: l, h => by
  have h1 := jO_ l (fun x hx => h x (by simp [hx]));have h2 := qm_ v.segs;have h3 := h v (by simp);rw [List.flatMap_cons, List.length_append, List.length_cons];omega
theorem Zr_ {g : Gr} (h : ∀ v ∈ g.vols, v.segs.length ≤ 64) (hv : g.vols.length ≤ 32) (k m : Nat) : (yv_ g k m).length ≤ 1000000 := by
 unfold yv_
 have h1 := jO_ (g.vols.take k) (fun v hv => h v (List.mem_of_mem_take hv))
 have h2 := qm_ ((xd_ g k).take m)
 have h3 : (xd_ g k).length ≤ 64 := by
  unfold xd_;cases hq : g.vols[k]? with
  | none => simp
  | some v => exact h v (List.mem_of_getElem? hq)
 rw [List.length_append]
 rw [List.length_take] at h1 h2
 omega
structure Fit7 (g : Gr) : Prop where
 nm : ∀ d ∈ g.disks, ∀ d' ∈ g.disks, d.name = d'.name → d = d'
 ext : ∀ d ∈ g.disks, 0 ≤ d.ext ∧ d.ext ≤ 4096
 size : ∀ d ∈ g.disks, d.name.size ≤ 1000000
 disks : g.disks.length ≤ 8
 vols : g.vols.length ≤ 32
 segs : ∀ v ∈ g.vols, v.segs.length ≤ 64
 fit : ∀ v ∈ g.vols, ∀ s ∈ v.segs, FitO g s
 thin : ∀ v ∈ g.vols, ∀ s ∈ v.segs, s.pool.size ≤ 1000000 ∧ (Lit.int .i64 s.dev).wf = true
def TkI (g : Gr) (mb tb k : Nat) (Q : ByteArray → Nat) (w : World) : Prop :=
 Blk w tb 129 #[.map (some mb)] ∧ (∃ n M, n ≤ k ∧ VMp Tryd.prog skf 9 w mb n M ∧ ∀ d ∈ g.disks.take k, M d.name = some (.slice (some ⟨Q d.name, 0, none⟩) d.ext.toNat d.ext.toNat)) ∧
  ∀ d ∈ g.disks.take k, Blk w (Q d.name) 4 (bcells (fun _ => false) d.ext.toNat) ∧ tb < Q d.name ∧ ∀ d' ∈ g.disks.take k, Q d.name = Q d'.name → d.name = d'.name
theorem TkI.up {g : Gr} {mb tb k : Nat} {Q : ByteArray → Nat} {w w' : World} (h : TkI g mb tb k Q w) (hb : Bel w w') : TkI g mb tb k Q w' := by
 obtain ⟨h1, ⟨n, M, hn, hm, hM⟩, h3⟩ := h
 exact ⟨h1.below hb h1.lt, ⟨n, M, hn, hm.up hb, hM⟩, fun d hd => ⟨(h3 d hd).1.below hb (h3 d hd).1.lt, (h3 d hd).2⟩⟩
def upQ (Q : ByteArray → Nat) (n : ByteArray) (q : Nat) : ByteArray → Nat := fun x => if x = n then q else Q x
theorem jf_ (Q : ByteArray → Nat) (n : ByteArray) (q : Nat) : upQ Q n q n = q := if_pos rfl
theorem xr_ (Q : ByteArray → Nat) {n x : ByteArray} (q : Nat) (h : x ≠ n) : upQ Q n q x = Q x := if_neg h
theorem TkI.add {g : Gr} {mb tb k n : Nat} {Q : ByteArray → Nat} {M : ByteArray → Option Value} {w w' : World} (h : TkI g mb tb k Q w) (hne : mb < tb) (hnm : ∀ d ∈ g.disks, ∀ d' ∈ g.disks, d.name = d'.name → d = d') {d : Dk} (hd : g.disks[k]? = some d)
  (hn : n ≤ k) (hM : ∀ x ∈ g.disks.take k, M x.name = some (.slice (some ⟨Q x.name, 0, none⟩) x.ext.toNat x.ext.toNat))
  (hm : VMp Tryd.prog skf 9 w' mb (n + 1) (setM M d.name (.slice (some ⟨w.heap.size, 0, none⟩) d.ext.toNat d.ext.toNat)))
  (hg : (w.alloc (.cells (madeCells #[.bool false] d.ext.toNat) 4)).grownBy w' (some mb)) : TkI g mb tb (k + 1) (upQ Q d.name w.heap.size) w' := by
 obtain ⟨h1, _, h3⟩ := h
 have hon : Only (· = mb) (w.alloc (.cells (madeCells #[.bool false] d.ext.toNat) 4)) w' := (Only.refl (· = mb) _).grown hg (fun q e => .inl (by injection e with e; exact e.symm))
 have hmem : ∀ x, x ∈ g.disks.take (k + 1) → x.name = d.name ∨ (x.name ≠ d.name ∧ x ∈ g.disks.take k) := fun x hx => by
  obtain ⟨h5, e5⟩ := List.getElem?_eq_some_iff.1 hd;rw [List.take_succ_eq_append_getElem h5, e5] at hx;by_cases e : x.name = d.name
  ·exact .inl e
  ·rcases List.mem_append.1 hx with hx | hx
   ·exact .inr ⟨e, hx⟩
   ·simp at hx
    exact absurd (by rw [hx]) e
 have hmd := List.mem_of_getElem? hd
 have hrow : Blk w' w.heap.size 4 (bcells (fun _ => false) d.ext.toNat) := by
  rw [← kH_];exact (Blk.new w _ _).only hon (fun e => by have e' : w.heap.size = mb := e; have := h1.lt; omega)
 refine ⟨(h1.alloc _).only hon (fun e => by have e' : tb = mb := e; omega), ⟨n + 1, _, by omega, hm, fun x hx => ?_⟩, fun x hx => ?_⟩
 ·unfold setM
  rcases hmem x hx with e | ⟨e, hx'⟩
  ·obtain rfl := hnm x (List.mem_of_mem_take hx) d hmd e
   rw [if_pos rfl, jf_]
  ·rw [if_neg e, xr_ _ _ e]
   exact hM x hx'
 ·have hq : ∀ y ∈ g.disks.take k, Q y.name < w.heap.size := fun y hy => (h3 y hy).1.lt
  rcases hmem x hx with e | ⟨e, hx'⟩
  ·obtain rfl := hnm x (List.mem_of_mem_take hx) d hmd e
   rw [jf_];refine ⟨hrow, h1.lt, fun y hy hy2 => ?_⟩;rcases hmem y hy with e2 | ⟨e2, hy'⟩
   ·exact e2.symm
   ·rw [xr_ _ _ e2] at hy2
    have := hq y hy';omega
  ·rw [xr_ _ _ e]
   refine ⟨((h3 x hx').1.alloc _).only hon (fun e' => by have e2 : Q x.name = mb := e'; have := (h3 x hx').2.1; omega), (h3 x hx').2.1, fun y hy hy2 => ?_⟩;rcases hmem y hy with e2 | ⟨e2, hy'⟩
   ·rw [e2, jf_] at hy2
    have := hq x hx';omega
   ·rw [xr_ _ _ e2] at hy2
    exact (h3 x hx').2.2 y hy' hy2
theorem YD_ {W : World} {g : Nat} {T : TypeId} {v0 v1 v2 v3 v4 v5 v6 : Value} (h : Blk W g T #[v0, v1, v2, v3, v4, v5, v6]) : W.cell? ⟨g, 0, none⟩ = some v0 ∧ W.cell? ⟨g, 3, none⟩ = some v3 := ⟨by rw [h.cell 0]; rfl, by rw [h.cell 3]; rfl⟩
set_option maxHeartbeats 16000000 in
theorem jX_ {w : World} {gc : Nat} {g : Gr} {At Ad Av Ah : Option Addr} {ct cd cv ch : Nat} {vm : Value} (h : Ck w gc g At Ad Av Ah ct cd cv ch vm) (hf : Fit7 g) :
  Calls Tryd.prog 39 #[.pointer (some ⟨gc, 0, none⟩)] w (Ret (zU_ (ys_ g)) w) := by
 have hs1 : (w.alloc (.map #[] 0)).heap.size = w.heap.size + 1 := by simp
 have hb0 := Blk.new (w.alloc (.map #[] 0)) 129 #[.map (some w.heap.size)]
 rw [hs1] at hb0
 have HW1 := hD (show Bel w ((w.alloc (.map #[] 0)).alloc (.cells #[.map (some w.heap.size)] 129)) from ((Below.refl _ _).al _).al _)
 have HI0 := hD (show TkI g w.heap.size (w.heap.size + 1) 0 (fun _ => 0) ((w.alloc (.map #[] 0)).alloc (.cells #[.map (some w.heap.size)] 129)) from ⟨hb0, ⟨0, _, Nat.le_refl _, (VMp.made w Tryd.prog skf 9).up ((Below.refl _ _).al _), by simp⟩, by simp⟩)
 obtain ⟨c0, c1, c2, c3, c4, c5, c6, c7, c8, c9⟩ := nine (h.up HW1.out).blk
 have H := hD h
 have HF := hD hf
 have hdl := hf.disks
 obtain ⟨rr, hrr⟩ : ∃ rr, ys_ g = rr := ⟨_, rfl⟩
 have HRR := hD hrr
 rw [hrr]
 have hmm := @run_makeMap Tryd.prog
 clear h hf hs1 hb0 hrr
 go_enter Tryd.func39, Tryd.ntmps39
 go_wp2_with fail
 clear c0 c1 c2 c3 c4 c5 c6 c7 c8 c9
 go_loopw [17] (fun i wx => ∃ (k : Nat) (Q : ByteArray → Nat), k ≤ g.disks.length ∧ i = .int .i64 (k : Int) ∧ Bel w wx ∧ TkI g w.heap.size (w.heap.size + 1) k Q wx) (fun i _ => g.disks.length - (intOf i).toNat)
 case atStart => exact ⟨0, _, Nat.zero_le _, rfl, HW1.out, HI0.out⟩
 case round =>
  obtain ⟨k, Q, hk, rfl, hb, ht⟩ := hrel;have HB := hD hb;have HI := hD ht;clear hb ht;by_cases hlt : k < g.disks.length
  ·have z0 : (k : Int) < (g.disks.length : Int) := by omega
   have z1 : (0 : Int) ≤ (k : Int) := by omega
   obtain ⟨ad, d, rfl, hx, _, had, d0, hc, htl⟩ := (H.out.up HB.out).dl.at_ hlt;obtain ⟨a0, a1, a2, a3, a4, a5, a6⟩ := hc;obtain ⟨T0, t0, rfl⟩ := htl.form;have HX := hD hx;have hde := HF.out.ext d (List.mem_of_getElem? hx);have hsz := HF.out.size d (List.mem_of_getElem? hx);obtain ⟨N, hN⟩ := Int.eq_ofNat_of_zero_le hde.1;have HNN := hD (show d.ext.toNat = N by omega);have hNl : N ≤ 4096 := by omega
   rw [hN] at a3;have HBA := hD (HB.out.al (.cells #[.string d.name, .int .u64 d.id, .int .i64 d.first, .int .i64 (N : Int), .bool d.closed, .bool d.missing, .slice T0 d.tags.length t0] 46));have HIA := hD (HI.out.up ((Below.refl _ wr).al (.cells #[.string d.name, .int .u64 d.id, .int .i64 d.first, .int .i64 (N : Int), .bool d.closed, .bool d.missing, .slice T0 d.tags.length t0] 46)));have hsd := YD_ (Blk.new wr 46 #[.string d.name, .int .u64 d.id, .int .i64 d.first, .int .i64 (N : Int), .bool d.closed, .bool d.missing, .slice T0 d.tags.length t0]);have hSd : ((wr.alloc (.cells #[.string d.name, .int .u64 d.id, .int .i64 d.first, .int .i64 (N : Int), .bool d.closed, .bool d.missing, .slice T0 d.tags.length t0] 46)).drew.cell? ⟨w.heap.size + 1, 0, none⟩ = some (.map (some w.heap.size)) ∧ (wr.alloc (.cells #[.string d.name, .int .u64 d.id, .int .i64 d.first, .int .i64 (N : Int), .bool d.closed, .bool d.missing, .slice T0 d.tags.length t0] 46)).drew.cell? ⟨wr.heap.size, 0, none⟩ = some (.string d.name) ∧ (wr.alloc (.cells #[.string d.name, .int .u64 d.id, .int .i64 d.first, .int .i64 (N : Int), .bool d.closed, .bool d.missing, .slice T0 d.tags.length t0] 46)).drew.cell? ⟨wr.heap.size, 3, none⟩ = some (.int .i64 (N : Int))) := ⟨by show (wr.alloc (.cells #[.string d.name, .int .u64 d.id, .int .i64 d.first, .int .i64 (N : Int), .bool d.closed, .bool d.missing, .slice T0 d.tags.length t0] 46)).cell? _ = _; rw [HIA.out.1.cell]; rfl, by show (wr.alloc (.cells #[.string d.name, .int .u64 d.id, .int .i64 d.first, .int .i64 (N : Int), .bool d.closed, .bool d.missing, .slice T0 d.tags.length t0] 46)).cell? _ = _; exact hsd.1, by show (wr.alloc (.cells #[.string d.name, .int .u64 d.id, .int .i64 d.first, .int .i64 (N : Int), .bool d.closed, .bool d.missing, .slice T0 d.tags.length t0] 46)).cell? _ = _; exact hsd.2⟩;clear hx htl hde hN hsd;go_upto_region 5 with fail
   clear a0 a1 a2 a3 a4 a5 a6;refine wp_region_held_drew (S := fun w' : World => (w'.cell? ⟨w.heap.size + 1, 0, none⟩ = some (.map (some w.heap.size)) ∧ w'.cell? ⟨wr.heap.size, 0, none⟩ = some (.string d.name) ∧ w'.cell? ⟨wr.heap.size, 3, none⟩ = some (.int .i64 (N : Int)))) (by kernel_rfl) hSd (fun hHeld => ?_);refine tkB [0, 1, 2, 3, 4] ?_
   iterate 5
    refine tk (oi := ⟨some _, _, _, _, _, _⟩) (v := ?_) rfl (by kernel_rfl) (by kernel_rfl) (by kernel_rfl) (fun _ _ _ _ _ h => h) rfl (Or.inl ⟨by rfl, ?_⟩) (by assumption) ?_;rotate_left 1
    ·(intro w hSw; (try dsimp only at hSw); go_simp; try with_reducible rfl)
    simp only [Act.put, tS]
   refine tkE ?_;refine wpAnyH_all (rs := [5]) (by kernel_rfl) (by simp) (fun i hi => ?_);obtain rfl : i = 5 := by simpa using hi
   refine wpOp_step (o := ⟨some 26, _, _, _, _, _⟩) rfl (fun K' hK' => ?_);refine Yw_ (o := ⟨some 26, _, _, _, _, _⟩) rfl _ _ _ rfl 4 (.bool false) 1 Tryd.underlying130 infoBo rfl N rfl rfl (by omega) (by omega) ?_;have HI5 := hD (HIA.out.up (Below.refl _ _).drew);have HB5 := hD (HBA.out.next (Below.refl _ _).drew)
   have HRW := hD (show ∀ w', Only (· = w.heap.size) ((wr.alloc (.cells #[.string d.name, .int .u64 d.id, .int .i64 d.first, .int .i64 (N : Int), .bool d.closed, .bool d.missing, .slice T0 d.tags.length t0] 46)).drew.alloc (.cells (madeCells #[.bool false] N) 4)) w' → (w'.cell? ⟨w.heap.size + 1, 0, none⟩ = some (.map (some w.heap.size)) ∧ w'.cell? ⟨wr.heap.size, 0, none⟩ = some (.string d.name) ∧ w'.cell? ⟨wr.heap.size, 3, none⟩ = some (.int .i64 (N : Int))) from fun w' ho => ⟨by rw [((HI5.out.1.alloc _).only ho (fun e => by have e' : w.heap.size + 1 = w.heap.size := e; omega)).cell]; rfl, by
    have := ((((Blk.new wr 46 #[.string d.name, .int .u64 d.id, .int .i64 d.first, .int .i64 (N : Int), .bool d.closed, .bool d.missing, .slice T0 d.tags.length t0]).below (Below.refl _ _).drew (Blk.new wr 46 #[.string d.name, .int .u64 d.id, .int .i64 d.first, .int .i64 (N : Int), .bool d.closed, .bool d.missing, .slice T0 d.tags.length t0]).lt)).alloc (.cells (madeCells #[.bool false] N) 4)).only ho (fun e => by have e' : wr.heap.size = w.heap.size := e; have := HI.out.1.lt; omega);exact (YD_ this).1, by
    have := ((((Blk.new wr 46 #[.string d.name, .int .u64 d.id, .int .i64 d.first, .int .i64 (N : Int), .bool d.closed, .bool d.missing, .slice T0 d.tags.length t0]).below (Below.refl _ _).drew (Blk.new wr 46 #[.string d.name, .int .u64 d.id, .int .i64 d.first, .int .i64 (N : Int), .bool d.closed, .bool d.missing, .slice T0 d.tags.length t0]).lt)).alloc (.cells (madeCells #[.bool false] N) 4)).only ho (fun e => by have e' : wr.heap.size = w.heap.size := e; have := HI.out.1.lt; omega);exact (YD_ this).2⟩)
   clear hSd hHeld;refine hK' _ _ ⟨HRW.out _ (Only.refl _ _), ?_⟩;try simp only [Act.put, upd, Nat.reduceAdd, Nat.reduceBEq, tS]
   obtain ⟨hbx, ⟨n, M, hn, hm, hM⟩, h3⟩ := HI5.out;have HM5 := hD (hm.up ((Below.refl _ _).al (.cells (madeCells #[.bool false] N) 4)));have HMM := hD hM;clear hbx hm hM h3;refine wpAnyH_all (rs := [6]) (by kernel_rfl) (by simp) (fun i hi => ?_);obtain rfl : i = 6 := by simpa using hi
   refine wpOp_step (o := ⟨none, _, _, _, _, _⟩) rfl (fun K2 hK2 => ?_);refine jR_ (o := ⟨none, _, _, _, _, _⟩) rfl _ _ _ rfl okey Tryd.underlying129 xM_ xL_ HM5.out (by unfold maxLen; omega) d.name _ _ rfl rfl rfl (WideMaps.keyOf_string_mk Tryd.underlying9 (by unfold maxLen; omega)) ?_;intro w6 hm6 hg6;have hon6 : Only (· = w.heap.size) ((wr.alloc (.cells #[.string d.name, .int .u64 d.id, .int .i64 d.first, .int .i64 (N : Int), .bool d.closed, .bool d.missing, .slice T0 d.tags.length t0] 46)).drew.alloc (.cells (madeCells #[.bool false] N) 4)) w6 := (Only.refl (· = w.heap.size) _).grown hg6 (fun q e => .inl (by injection e with e; exact e.symm));have HT6 := hD (HI5.out.add (n := n) (M := M) (w' := w6) (Nat.lt_succ_self _) HF.out.nm HX.out hn HMM.out (by rw [HNN.out]; exact hm6) (by rw [HNN.out]; exact hg6));have HB6 := hD ((HB5.out.al (.cells (madeCells #[.bool false] N) 4)).trans (hon6.below (by have := (HB5.out.al (.cells (madeCells #[.bool false] N) 4)).size; exact this) (fun q e => by have e' : q = w.heap.size := e; omega)));refine hK2 _ _ ⟨HRW.out _ hon6, ?_⟩;refine wpAnyH_done (by kernel_rfl) ?_ _;clear hm6 hg6 hon6;go_wp2_with fail
   go_roundw
   case rel => exact ⟨k + 1, _, by omega, by go_num, HB6.out, HT6.out⟩
   case measure => simp [intOf]; omega
  ·obtain rfl : k = g.disks.length := by omega
   obtain ⟨hbx, ⟨n, M, hn, hm, hM⟩, h3⟩ := HI.out;have hall : ∀ d ∈ g.disks, d ∈ g.disks.take g.disks.length := fun d hd => by rw [List.take_length]; exact hd
   have hQl : ∀ q, qM_ g Q q → w.heap.size + 1 < q ∧ q < wr.heap.size := fun q hq => by
    obtain ⟨d, hd, rfl⟩ := hq;exact ⟨(h3 d (hall d hd)).2.1, (h3 d (hall d hd)).1.lt⟩
   have hTK : Tk g w.heap.size (w.heap.size + 1) Q [] wr := ⟨hbx, ⟨n, M, hm, fun d hd => hM d (hall d hd)⟩, fun d hd => (h3 d (hall d hd)).1⟩;have hDQ : DkQ g w.heap.size (w.heap.size + 1) Q := ⟨HF.out.nm, fun d hd d' hd' e => (h3 d (hall d hd)).2.2 d' (hall d' hd') e, fun d hd => by have := (h3 d (hall d hd)).2.1; omega, HF.out.ext, HF.out.size⟩
   have HE := hD (qH_ H.out HB.out (F := qM_ g Q) (fun q hq => by have := hQl q hq; omega) 88 Tryd.call88 #[.pointer (some ⟨w.heap.size + 1, 0, none⟩)] (f := fun k m _ s => XY_ g k m s) HF.out.segs (fun k m w' => Tk g w.heap.size (w.heap.size + 1) Q (xQ_ g k m) w') (by rw [Zz_]; exact hTK) (fun k m w' w'' h _ hb => h.up hb) (fun k v w' hv h => by rw [← ZA_ hv]; exact h)
    (fun S w' k m v s Bt bt Bs bs A0 A1 d0 d1 ho hv hs hr hS htl hsl har hst => by
     have h1 := YU_ (v := v) (Bt := Bt) (bt := bt) (Bs := Bs) (bs := bs) (A1 := A1) (d1 := d1) hr hDQ har hS (HF.out.fit v (List.mem_of_getElem? hv) s (List.mem_of_getElem? hs));rw [← ZB_ hv hs] at h1;exact h1))
   have HQL := hD (fun q hq => (hQl q hq).1);obtain ⟨r1, hr1⟩ : ∃ r1, qR_ (fun k m _ s => XY_ g k m s) g = r1 := ⟨_, rfl⟩;rw [hr1] at HE;have HR1 := hD (show ys_ g = if r1.2 = 0 then XI_ g else r1 by unfold ys_; rw [show XX_ g = r1 from hr1]);clear hbx hm hM h3 hTK hDQ hQl hr1;go_wp2_with fail
   refine HE.out.mono ?_;rintro e w5 ⟨he, ho5, _⟩;subst he;have HB5 := hD (HB.out.trans (ho5.below HB.out.size (fun q hq => by have := HQL.out q hq; omega)));clear ho5 HE;unfold zU_;by_cases h0 : r1.2 = 0
   ·have q : (r1.2 != 0) = false := by rw [h0]; rfl
    have HRT := hD (show rr = XI_ g by rw [← HRR.out, HR1.out, if_pos h0]);have hs1 : (w5.alloc (.map #[] 0)).heap.size = w5.heap.size + 1 := by simp
    have hb0 := Blk.new (w5.alloc (.map #[] 0)) 132 #[.map (some w5.heap.size)];rw [hs1] at hb0;have hw2 : Bel w5 ((w5.alloc (.map #[] 0)).alloc (.cells #[.map (some w5.heap.size)] 132)) := ((Below.refl _ _).al _).al _;have hsz2 : ((w5.alloc (.map #[] 0)).alloc (.cells #[.map (some w5.heap.size)] 132)).heap.size = w5.heap.size + 1 + 1 := by simp
    have hTM : Tm w5.heap.size (w5.heap.size + 1) [] ((w5.alloc (.map #[] 0)).alloc (.cells #[.map (some w5.heap.size)] 132)) := ⟨hb0, 0, Nat.le_refl _, ((VMp.made w5 Tryd.prog thF 134).up ((Below.refl _ _).al _)).ext (fun x => by unfold thM; rw [if_neg (by rintro ⟨e, he, _⟩; cases he)])⟩
    have HE2 := hD (qH_ H.out (HB5.out.next hw2) (F := (· = w5.heap.size)) (fun q hq => by have e : q = w5.heap.size := hq; have := HB5.out.size; omega) 90 Tryd.call90 #[.pointer (some ⟨w5.heap.size + 1, 0, none⟩)] (f := fun k m _ s => XJ_ g k m s) HF.out.segs (fun k m w' => Tm w5.heap.size (w5.heap.size + 1) (yv_ g k m) w') (by rw [km_]; exact hTM) (fun k m w' w'' h _ hb => h.up hb) (fun k v w' hv h => by rw [← kn_ hv]; exact h)
     (fun S w' k m v s Bt bt Bs bs A0 A1 d0 d1 ho hv hs hr hS htl hsl har hst => by
      have h2 := HF.out.thin v (List.mem_of_getElem? hv) s (List.mem_of_getElem? hs);have h1 := YT_ (v := v) (Bt := Bt) (bt := bt) (Bs := Bs) (bs := bs) (A0 := A0) (d0 := d0) (A1 := A1) (d1 := d1) hr (by omega) (Zr_ HF.out.segs HF.out.vols k m) h2.1 h2.2;rw [← ko_ hv hs] at h1;exact h1))
    have HW2 := hD (HB5.out.next hw2);have HT2 := hD (show qR_ (fun k m _ s => XJ_ g k m s) g = rr from HRT.out.symm);rw [HT2.out] at HE2;clear h0 hs1 hb0 hw2 hsz2 hTM;go_wp2_with fail
    refine HE2.out.mono ?_;rintro e w6 ⟨he, ho6, _⟩;subst he;have HB6 := hD (HW2.out.trans (ho6.below HW2.out.size (fun q hq => by have e : q = w5.heap.size := hq; have := HB5.out.size; omega)));clear ho6 HE2;unfold zU_;go_wp2_with fail
    go_ret2
    exact ⟨rfl, HB6.out⟩
   ·have q : (r1.2 != 0) = true := by simp [h0]
    have HRT := hD (show rr = r1 by rw [← HRR.out, HR1.out, if_neg h0]);clear h0;go_wp2_with fail
    go_ret2
    exact ⟨by rw [HRT.out]; rfl, HB5.out⟩
end Go.Proofs.YtdkcfgahdcpkkaaDoor
