/- The reference's Each and Places (printed by genPlaces.py). -/
import Derived.Test.YtdkcfgahdcpkkaaDoorBRng3
import Derived.Test.YtdkcfgahdcpkkaaDoorBOverP
import Derived.Test.YtdkcfgahdcpkkaaDoorBAwake
set_option linter.all false
namespace Go.Proofs.YtdkcfgahdcpkkaaDoor
open Go.RowKit
set_option maxRecDepth 100000
set_option maxHeartbeats 4000000 in
theorem YL_ (w : World) (s : Sg) {A0 A1 : Option Addr} {d0 d1 : Nat} (hl : 1 ≤ s.len ∧ s.len ≤ 32768) :
  Calls Tryd.prog 42 #[.agg (sgA s (.slice A0 s.areas.length d0) (.slice A1 s.stale.length d1))] w (Ret (.int .i64 (zM_ s)) w) := by
 have HB := hD (fun o : Obj => show Bel w (w.alloc o) from (Below.refl _ _).al _)
 unfold sgA
 by_cases hk : s.kind = 2
 ·have qk : (s.kind == 2) = true := by rw [hk]; rfl
  by_cases h0 : 0 < s.areas.length
  ·have HK := hD (show zM_ s = s.len.tdiv s.areas.length by unfold zM_; rw [if_pos ⟨hk, h0⟩])
   have z0 : (0 : Int) < (s.areas.length : Int) := by omega
   have hne : ¬ (s.areas.length : Int) = 0 := by omega
   have hnn : ¬ s.areas.length = 0 := by omega
   have wm : IntKind.i64.wrap (s.len.tdiv (s.areas.length : Int)) = s.len.tdiv (s.areas.length : Int) := IntWalk.i64_in _ (Yp_ hl.1 hl.2 (by omega));obtain ⟨z, hz⟩ : ∃ z, s.len.tdiv (s.areas.length : Int) = z := ⟨_, rfl⟩;rw [hz] at wm HK;clear hk;go_enter Tryd.func42, Tryd.ntmps42
   go_wp2_with fail
   go_ret
   exact ⟨by rw [HK.out]; rfl, HB.out _⟩
  ·have HK := hD (show zM_ s = s.len by unfold zM_; rw [if_neg (fun h => h0 h.2)])
   have z0 : ¬ (0 : Int) < (s.areas.length : Int) := by omega
   clear hk;go_enter Tryd.func42, Tryd.ntmps42
   go_wp2_with fail
   go_ret
   exact ⟨by rw [HK.out]; rfl, HB.out _⟩
 ·have qk : (s.kind == 2) = false := beq_eq_false_iff_ne.2 hk
  have HK := hD (show zM_ s = s.len by unfold zM_; rw [if_neg (fun h => hk h.1)]);clear hk;go_enter Tryd.func42, Tryd.ntmps42
  go_wp2_with fail
  go_ret
  exact ⟨by rw [HK.out]; rfl, HB.out _⟩
structure Pq where
 vol : ByteArray
 disk : ByteArray
 start : Int
 len : Int
def pqOf (v : Vo) (s : Sg) (a : Ar) : Pq := ⟨v.name, a.on, a.start, zM_ s⟩
def xW_ (k : Int) : Bool := decide (k = 1) || decide (k = 2) || decide (k = 8)
def pqK (v : Vo) (s : Sg) (j : Nat) : List Pq := ((s.areas.take j).filter (fun a => !a.vol)).map (pqOf v s)
def pqS (v : Vo) (s : Sg) : List Pq := if xW_ s.kind then pqK v s s.areas.length else []
def pqV (v : Vo) : List Pq := v.segs.flatMap (pqS v)
def z6_ (g : Gr) : List Pq := g.vols.flatMap pqV
def jh_ (g : Gr) (k : Nat) : Vo := (g.vols[k]?).getD zVo
def pqTo (g : Gr) (k m : Nat) : List Pq := (g.vols.take k).flatMap pqV ++ ((jh_ g k).segs.take m).flatMap (pqS (jh_ g k))
theorem x0_ {g : Gr} {k : Nat} {v : Vo} (hv : g.vols[k]? = some v) : jh_ g k = v := by unfold jh_; rw [hv]; rfl
theorem YO_ {g : Gr} {k m : Nat} {v : Vo} {s : Sg} (hv : g.vols[k]? = some v) (hs : v.segs[m]? = some s) : pqTo g k (m + 1) = pqTo g k m ++ pqS v s := by
 obtain ⟨h1, e1⟩ := List.getElem?_eq_some_iff.1 hs
 unfold pqTo
 rw [x0_ hv, List.take_succ_eq_append_getElem h1, e1, List.flatMap_append, List.append_assoc]
 simp
theorem YN_ {g : Gr} {k : Nat} {v : Vo} (hv : g.vols[k]? = some v) : pqTo g k v.segs.length = pqTo g (k + 1) 0 := by
 obtain ⟨h1, e1⟩ := List.getElem?_eq_some_iff.1 hv
 unfold pqTo
 rw [x0_ hv, List.take_length, List.take_succ_eq_append_getElem h1, e1, List.flatMap_append]
 simp [pqV]
theorem j3_ (g : Gr) : pqTo g 0 0 = [] := by simp [pqTo]
theorem k4_ (g : Gr) : pqTo g g.vols.length 0 = z6_ g := by simp [pqTo, z6_]
theorem Jf_ {v : Vo} {s : Sg} {k : Nat} {x : Ar} (h : s.areas[k]? = some x) (hv : x.vol = true) : pqK v s (k + 1) = pqK v s k := by
 obtain ⟨h1, e1⟩ := List.getElem?_eq_some_iff.1 h
 unfold pqK
 rw [List.take_succ_eq_append_getElem h1, e1, List.filter_append]
 simp [hv]
theorem pqK_on {v : Vo} {s : Sg} {k : Nat} {x : Ar} (h : s.areas[k]? = some x) (hv : x.vol = false) : pqK v s (k + 1) = pqK v s k ++ [pqOf v s x] := by
 obtain ⟨h1, e1⟩ := List.getElem?_eq_some_iff.1 h
 unfold pqK
 rw [List.take_succ_eq_append_getElem h1, e1, List.filter_append]
 simp [hv]
theorem YQ_ (v : Vo) (s : Sg) (j : Nat) : (pqK v s j).length ≤ s.areas.length := by
 unfold pqK
 rw [List.length_map]
 exact Nat.le_trans (List.length_filter_le _ _) (by rw [List.length_take]; omega)
theorem YP_ (v : Vo) (s : Sg) : (pqS v s).length ≤ s.areas.length := by
 unfold pqS
 split
 ·exact YQ_ v s _
 ·simp
theorem xw_ {α β : Type} (f : α → List β) (c : Nat) : ∀ l : List α, (∀ x ∈ l, (f x).length ≤ c) → (l.flatMap f).length ≤ l.length * c
 | [], _ => by simp
 | x :: l, h => by
  have h1 := xw_ f c l (fun y hy => h y (by simp [hy]));have h2 := h x (by simp);rw [List.flatMap_cons, List.length_append, List.length_cons, Nat.succ_mul];omega
structure FitP (g : Gr) : Prop where
 vols : g.vols.length ≤ 32
 segs : ∀ v ∈ g.vols, v.segs.length ≤ 64
 areas : ∀ v ∈ g.vols, ∀ s ∈ v.segs, s.areas.length ≤ 6
 len : ∀ v ∈ g.vols, ∀ s ∈ v.segs, 1 ≤ s.len ∧ s.len ≤ 32768
theorem Je_ {v : Vo} (h : v.segs.length ≤ 64) (ha : ∀ s ∈ v.segs, s.areas.length ≤ 6) : (pqV v).length ≤ 384 := by
 have h1 := xw_ (pqS v) 6 v.segs (fun s hs => Nat.le_trans (YP_ v s) (ha s hs))
 unfold pqV
 omega
theorem k3_ {g : Gr} (h : FitP g) (k m : Nat) : (pqTo g k m).length ≤ 12672 := by
 unfold pqTo
 have h1 := xw_ pqV 384 (g.vols.take k) (fun v hv => Je_ (h.segs v (List.mem_of_mem_take hv)) (h.areas v (List.mem_of_mem_take hv)))
 have h2 : (((jh_ g k).segs.take m).flatMap (pqS (jh_ g k))).length ≤ 384 := by
  cases hq : g.vols[k]? with
  | none =>
   unfold jh_;rw [hq];simp [zVo]
  | some v =>
   rw [x0_ hq];have hv := List.mem_of_getElem? hq;have h3 := xw_ (pqS v) 6 (v.segs.take m) (fun s hs => Nat.le_trans (YP_ v s) (h.areas v hv s (List.mem_of_mem_take hs)));have h4 := h.segs v hv;rw [List.length_take] at h3;omega
 have h5 := h.vols
 rw [List.length_take] at h1
 rw [List.length_append]
 omega
theorem infoPq : (Tryd.prog.info? 44).map (fun i => (i.zero, i.size, i.bytes)) = some (some (.agg #[.string ⟨#[]⟩, .string ⟨#[]⟩, .int .i64 0, .int .i64 0]), 4, 48) := by kernel_rfl
def pqC (l : List Pq) : List Value := l.flatMap fun p => [Value.string p.vol, Value.string p.disk, Value.int .i64 p.start, Value.int .i64 p.len]
theorem ZJ_ (a b : List Pq) : pqC (a ++ b) = pqC a ++ pqC b := by simp [pqC]
theorem Qw_ : ∀ (l : List Pq) (k : Nat) (r : Pq), l[k]? = some r → (pqC l)[k * 4]? = some (.string r.vol) ∧ (pqC l)[k * 4 + 1]? = some (.string r.disk) ∧ (pqC l)[k * 4 + 2]? = some (.int .i64 r.start) ∧ (pqC l)[k * 4 + 3]? = some (.int .i64 r.len)
 | [], k, r, h => by simp at h
 | x :: l, 0, r, h => by
  simp at h;subst h;exact ⟨rfl, rfl, rfl, rfl⟩
 | x :: l, k + 1, r, h => by
  have := Qw_ l k r (by simpa using h);have e : pqC (x :: l) = .string x.vol :: .string x.disk :: .int .i64 x.start :: .int .i64 x.len :: pqC l := rfl;rw [e, show (k + 1) * 4 = k * 4 + 1 + 1 + 1 + 1 by omega];simpa using this
structure PqC (w : World) (p : Addr) (x : Pq) : Prop where
 c0 : w.cell? p = some (.string x.vol)
 c1 : w.cell? ⟨p.block, p.off + 1, none⟩ = some (.string x.disk)
 c2 : w.cell? ⟨p.block, p.off + 2, none⟩ = some (.int .i64 x.start)
 c3 : w.cell? ⟨p.block, p.off + 3, none⟩ = some (.int .i64 x.len)
abbrev PL (w : World) (S : Nat → Prop) : Value → List Pq → Prop := LR w S 4 (PqC w)
theorem YU_ {w : World} {base n : Nat} {v : Value} {l : List Pq} (h : w.ownsRow base 44 4 v n (pqC l)) (hn : n = l.length) {S : Nat → Prop} (hS : ∀ k, base ≤ k → S k) : PL w S v l := by
 subst hn
 rcases id h.2 with ⟨rfl, h0⟩ | ⟨g, cap, cur, rfl, _, _, hc, _⟩
 ·have : l = [] := List.eq_nil_of_length_eq_zero h0
  subst this;exact LR.nil
 ·refine ⟨_, cap, rfl, hc, fun _ => ⟨_, rfl, hS _ (World.ownsRow.lt h g rfl).1, (World.ownsRow.lt h g rfl).2, fun k x hx => ?_⟩⟩
  have hk := (List.getElem?_eq_some_iff.1 hx).1;have h2 := Qw_ l k x hx;rw [addT_zero];exact ⟨by rw [World.ownsRow.cellAt h _ (by omega)]; exact h2.1, by show w.cell? ⟨g, k * 4 + 1, none⟩ = _; rw [World.ownsRow.cellAt h _ (by omega)]; exact h2.2.1, by show w.cell? ⟨g, k * 4 + 2, none⟩ = _; rw [World.ownsRow.cellAt h _ (by omega)]; exact h2.2.2.1, by show w.cell? ⟨g, k * 4 + 3, none⟩ = _; rw [World.ownsRow.cellAt h _ (by omega)]; exact h2.2.2.2⟩
def PlRet (l : List Pq) (w : World) (e : Ending) (w' : World) : Prop := ∃ A c, e = .returned (.slice A l.length c) ∧ PL w' (fun g => w.heap.size ≤ g) (.slice A l.length c) l ∧ Bel w w'
set_option maxHeartbeats 16000000 in
theorem ZL_ {w : World} {S : Nat → Prop} {g : Gr} {B0 B1 B2 B3 : Option Addr} {c0 c1 c2 c3 : Nat} (h : VL w S (.slice B2 g.vols.length c2) g.vols) (hf : FitP g) :
  Calls Tryd.prog 12 #[.agg (grA g (.slice B0 g.tags.length c0) (.slice B1 g.disks.length c1) (.slice B2 g.vols.length c2) (.slice B3 g.hist.length c3))] w (PlRet (z6_ g) w) := by
 obtain ⟨i0, hi0, hz0, hz1, hz2⟩ := info_parts infoPq
 have HW1 := hD (show Bel w (w.alloc (.cells (grX g B0 c0 B1 c1 B2 c2 B3 c3) 31)) from (Below.refl _ _).al _)
 have HGB := hD (show ∀ X, Bel (w.alloc (.cells (grX g B0 c0 B1 c1 B2 c2 B3 c3) 31)) X → X.cell? ⟨w.heap.size, 7, none⟩ = some (.slice B2 g.vols.length c2) from fun X hX => by
  rw [((Blk.new w 31 (grX g B0 c0 B1 c1 B2 c2 B3 c3)).below hX (Blk.new w _ _).lt).cell]; rfl)
 have HV := hD (show ∀ X, Bel (w.alloc (.cells (grX g B0 c0 B1 c1 B2 c2 B3 c3) 31)) X → VL X S (.slice B2 g.vols.length c2) g.vols from fun X hX => (VL.up (VL.up h ((Below.refl _ _).al _)) hX))
 have HF := hD hf
 have hvl := hf.vols
 clear h hf
 unfold grA
 go_enter Tryd.func12, Tryd.ntmps12
 go_wp2_with fail
 go_loopw [3, 4] (fun o i wx => ∃ (k : Nat) (A : Option Addr) (c : Nat), k ≤ g.vols.length ∧ i = .int .i64 (k : Int) ∧ o = .slice A (pqTo g k 0).length c ∧ wx.ownsRow (w.alloc (.cells (grX g B0 c0 B1 c1 B2 c2 B3 c3) 31)).heap.size 44 4 (.slice A (pqTo g k 0).length c) (pqTo g k 0).length (pqC (pqTo g k 0)) ∧ Bel (w.alloc (.cells (grX g B0 c0 B1 c1 B2 c2 B3 c3) 31)) wx) (fun _ i _ => g.vols.length - (intOf i).toNat)
 case atStart => exact ⟨0, none, 0, Nat.zero_le _, rfl, by rw [j3_]; rfl, by rw [j3_]; exact World.ownsRow_nil _ _ _ _, Below.refl _ _⟩
 case round =>
  obtain ⟨k, A, c, hk, rfl, rfl, ho, hb⟩ := hrel;have HO := hD ho;have HB := hD hb;obtain ⟨wo, hwo⟩ : ∃ wo, wo = wr := ⟨_, rfl⟩;subst hwo;have k7 := HGB.out _ hb;clear ho hb;by_cases hlt : k < g.vols.length
  ·have z0 : (k : Int) < (g.vols.length : Int) := by omega
   have z1 : (0 : Int) ≤ (k : Int) := by omega
   go_wp2_with fail
   go_loopw [3, 5] (fun o i wx => ∃ (m : Nat) (A : Option Addr) (c : Nat), m ≤ (jh_ g k).segs.length ∧ i = .int .i64 (m : Int) ∧ o = .slice A (pqTo g k m).length c ∧ wx.ownsRow (w.alloc (.cells (grX g B0 c0 B1 c1 B2 c2 B3 c3) 31)).heap.size 44 4 (.slice A (pqTo g k m).length c) (pqTo g k m).length (pqC (pqTo g k m)) ∧ Bel (w.alloc (.cells (grX g B0 c0 B1 c1 B2 c2 B3 c3) 31)) wx) (fun _ i _ => (jh_ g k).segs.length - (intOf i).toNat)
   case atStart => exact ⟨0, A, c, Nat.zero_le _, rfl, rfl, HO.out, HB.out⟩
   case round =>
    obtain ⟨m, A9, c9, hm, rfl, rfl, ho2, hb2⟩ := hrel;have HO2 := hD ho2;have HB2 := hD hb2;obtain ⟨wi, hwi⟩ : ∃ wi, wi = wr := ⟨_, rfl⟩;subst hwi;have k8 := HGB.out _ hb2;obtain ⟨ad, v, rfl, hx, _, had, v0, v1, h6, htl, hsl⟩ := (HV.out _ (Below.refl _ _)).at_ hlt;obtain ⟨a0, a1, a2, a3, a4, a5⟩ := h6;obtain ⟨Bt, bt, rfl⟩ := htl.form;obtain ⟨Bs, bs, rfl⟩ := hsl.form;have HX := hD hx;have HSL := hD hsl;have hvm := List.mem_of_getElem? hx;have hn64 := HF.out.segs v hvm;have HVE := hD (x0_ hx);rw [HVE.out] at hm ⊢;have HNM := hD (show ∀ X, Bel (w.alloc (.cells (grX g B0 c0 B1 c1 (some ad) c2 B3 c3) 31)) X → X.cell? (ad.add (k * 6)) = some (.string v.name) from fun X hX => (hX.cell (zq_ a0)).trans a0);have a5' := (hb2.cell (p := ⟨(ad.add (k * 6)).block, (ad.add (k * 6)).off + 5, none⟩) (zq_ a5)).trans a5;clear ho2 hb2 hx htl hsl;by_cases hlt2 : m < v.segs.length
    ·have z2 : (m : Int) < (v.segs.length : Int) := by omega
     have z3 : (0 : Int) ≤ (m : Int) := by omega
     obtain ⟨ad2, s, rfl, hs, _, had2, s0, s1, h11, har, hst⟩ := HSL.out.at_ hlt2;obtain ⟨f0, f1, f2, f3, f4, f5, f6, f7, f8, f9, f10⟩ := h11.keep (Kept.of_below HB2.out) (S := fun q => q < (w.alloc (.cells (grX g B0 c0 B1 c1 (some ad) c2 B3 c3) 31)).heap.size) (by rw [zk_]; exact had2) (by rw [zk_]; exact had2);obtain ⟨A0, d0, rfl⟩ := har.form;obtain ⟨A1, d1, rfl⟩ := hst.form;have HS := hD hs;have hsm := List.mem_of_getElem? hs;have hln := HF.out.len v hvm s hsm;have hal := HF.out.areas v hvm s hsm;have HAR := hD (show ∀ X, Bel (w.alloc (.cells (grX g B0 c0 B1 c1 (some ad) c2 B3 c3) 31)) X → AL X S (.slice A0 s.areas.length d0) s.areas from fun X hX => AL.up har hX);have HXT := hD (show ∀ w', Calls Tryd.prog 42 #[.agg (sgX s A0 d0 A1 d1)] w' (Ret (.int .i64 (zM_ s)) w') from fun w' => YL_ w' s hln);have HSB := hD (Blk.new wi 58 (sgX s A0 d0 A1 d1));have HBS := hD (HB2.out.al (.cells (sgX s A0 d0 A1 d1) 58));have HOS := hD (HO2.out.alloc (.cells (sgX s A0 d0 A1 d1) 58));have HPN := hD (YO_ HX.out hs);have hpl := k3_ HF.out k m;clear hs har hst;obtain ⟨od, hod⟩ : ∃ od, xW_ s.kind = od := ⟨_, rfl⟩;go_upto_region 9 with fail
     cases od with
     | false =>
      have hk1 : s.kind ≠ 1 ∧ s.kind ≠ 2 ∧ s.kind ≠ 8 := by
       unfold xW_ at hod;simp at hod;omega
      have q1 : (s.kind != 1) = true := by simp [hk1.1]
      have q2 : (s.kind != 2) = true := by simp [hk1.2.1]
      have q8 : (s.kind != 8) = true := by simp [hk1.2.2]
      have HPE := hD (show pqTo g k (m + 1) = pqTo g k m by rw [HPN.out]; unfold pqS; rw [hod]; simp);clear hk1 hod;go_wp2_with fail
      go_roundw
      case rel => exact ⟨m + 1, A9, c9, by omega, by go_num, by rw [HPE.out], by rw [HPE.out]; exact HOS.out, HBS.out⟩
      case measure => simp [intOf]; omega
     | true =>
      have HPE := hD (show pqTo g k (m + 1) = pqTo g k m ++ pqK v s s.areas.length by rw [HPN.out]; unfold pqS; rw [hod]; rfl)
      have hk3 : s.kind = 1 ∨ s.kind = 2 ∨ s.kind = 8 := by
       unfold xW_ at hod;simp at hod;omega
      clear hod;go_cut [47] (fun u wx => u = .bool false ∧ wx = (wi.alloc (.cells (sgX s A0 d0 A1 d1) 58)))
      case first =>
       rcases hk3 with hk | hk | hk
       ·have q1 : (s.kind != 1) = false := by rw [hk]; rfl
        clear hk;go_wp2_with fail
        go_meet
        case rel => exact ⟨rfl, rfl⟩
       ·have q1 : (s.kind != 1) = true := by rw [hk]; rfl
        have q2 : (s.kind != 2) = false := by rw [hk]; rfl
        clear hk;go_wp2_with fail
        go_meet
        case rel => exact ⟨rfl, rfl⟩
       ·have q1 : (s.kind != 1) = true := by rw [hk]; rfl
        have q2 : (s.kind != 2) = true := by rw [hk]; rfl
        have q8 : (s.kind != 8) = false := by rw [hk]; rfl
        clear hk;go_wp2_with fail
        go_meet
        case rel => exact ⟨rfl, rfl⟩
      case rest =>
       obtain ⟨rfl, rfl⟩ := hcut;clear f0 f1 f2 f3 f4 f5 f6 f7 f8 f9 f10 a5' hk3;go_wp2_with fail
       go_loopw [3, 7] (fun o i wx => ∃ (j : Nat) (A : Option Addr) (c : Nat), j ≤ s.areas.length ∧ i = .int .i64 (j : Int) ∧ o = .slice A (pqTo g k m ++ pqK v s j).length c ∧ wx.ownsRow (w.alloc (.cells (grX g B0 c0 B1 c1 (some ad) c2 B3 c3) 31)).heap.size 44 4 (.slice A (pqTo g k m ++ pqK v s j).length c) (pqTo g k m ++ pqK v s j).length (pqC (pqTo g k m ++ pqK v s j)) ∧ Blk wx wi.heap.size 58 (sgX s A0 d0 A1 d1) ∧ Bel (w.alloc (.cells (grX g B0 c0 B1 c1 (some ad) c2 B3 c3) 31)) wx) (fun _ i _ => s.areas.length - (intOf i).toNat)
       case atStart => exact ⟨0, A9, c9, Nat.zero_le _, rfl, by rw [show pqK v s 0 = [] from rfl, List.append_nil], by rw [show pqK v s 0 = [] from rfl, List.append_nil]; exact HOS.out, HSB.out, HBS.out⟩
       case round =>
        obtain ⟨j, A8, c8, hj, rfl, rfl, ho3, hsb, hb3⟩ := hrel;have HO3 := hD ho3;have HS3 := hD hsb;have HB3 := hD hb3;obtain ⟨wj, hwj⟩ : ∃ wj, wj = wr := ⟨_, rfl⟩;subst hwj;have kj := HGB.out _ hb3;have hjl := YQ_ v s j;obtain ⟨j0, j1, j2, j3, j4, j5, j6, j7, j8, j9, j10⟩ := elev hsb;clear ho3 hsb hb3;by_cases hlt3 : j < s.areas.length
        ·have y0 : (j : Int) < (s.areas.length : Int) := by omega
         have y1 : (0 : Int) ≤ (j : Int) := by omega
         obtain ⟨ad3, x, rfl, hxx, _, had3, b0, b1, b2⟩ := (HAR.out _ HB3.out).at_ hlt3;have HXX := hD hxx;cases hv : x.vol with
         | true =>
          rw [hv] at b0;have HNK := hD (Jf_ (v := v) hxx hv);clear hxx hv;go_wp2_with fail
          go_roundw
          case rel => exact ⟨j + 1, A8, c8, by omega, by go_num, by rw [HNK.out], by rw [HNK.out]; exact HO3.out, HS3.out, HB3.out⟩
          case measure => simp [intOf]; omega
         | false =>
          rw [hv] at b0;have HNK := hD (show pqTo g k m ++ pqK v s (j + 1) = (pqTo g k m ++ pqK v s j) ++ [pqOf v s x] by rw [pqK_on hxx hv, List.append_assoc]);obtain ⟨L, hL⟩ : ∃ L, pqTo g k m ++ pqK v s j = L := ⟨_, rfl⟩;have hLl : L.length ≤ 13000 := by rw [← hL, List.length_append]; omega
          rw [hL] at HO3 HNK ⊢;clear hL hxx hv;go_upto_region 14 with fail
          have HSX := hD (show ∀ X, Bel (w.alloc (.cells (grX g B0 c0 B1 c1 (some ad) c2 B3 c3) 31)) X → Blk X wi.heap.size 58 (sgX s (some ad3) d0 A1 d1) → (X.cell? ⟨w.heap.size, 7, none⟩ = some (.slice (some ad) g.vols.length c2) ∧ X.cell? (ad.add (k * 6)) = some (.string v.name) ∧ X.cell? ⟨wi.heap.size, 0, none⟩ = some (.int .i64 s.start) ∧ X.cell? ⟨wi.heap.size, 1, none⟩ = some (.int .i64 s.len) ∧ X.cell? ⟨wi.heap.size, 2, none⟩ = some (.int .i64 s.kind) ∧ X.cell? ⟨wi.heap.size, 3, none⟩ = some (.slice (some ad3) s.areas.length d0) ∧ X.cell? ⟨wi.heap.size, 4, none⟩ = some (.int .i64 s.chunk) ∧ X.cell? ⟨wi.heap.size, 5, none⟩ = some (.slice A1 s.stale.length d1) ∧ X.cell? ⟨wi.heap.size, 6, none⟩ = some (.string s.log) ∧ X.cell? ⟨wi.heap.size, 7, none⟩ = some (.string s.pool) ∧ X.cell? ⟨wi.heap.size, 8, none⟩ = some (.int .i64 s.dev) ∧ X.cell? ⟨wi.heap.size, 9, none⟩ = some (.int .i64 s.mode) ∧ X.cell? ⟨wi.heap.size, 10, none⟩ = some (.int .i64 s.done) ∧ X.cell? ⟨(ad3.add (j * 3)).block, (ad3.add (j * 3)).off + 1, none⟩ = some (.string x.on) ∧ X.cell? ⟨(ad3.add (j * 3)).block, (ad3.add (j * 3)).off + 2, none⟩ = some (.int .i64 x.start)) from fun X hX hS => by
           obtain ⟨g0, g1, g2, g3, g4, g5, g6, g7, g8, g9, g10⟩ := elev hS;obtain ⟨ad3', x', e3, hx', _, _, hc⟩ := (HAR.out _ hX).at_ hlt3;injection e3 with e3;subst e3;rw [HXX.out] at hx';injection hx' with hx';subst hx';exact ⟨HGB.out _ hX, HNM.out _ hX, g0, g1, g2, g3, g4, g5, g6, g7, g8, g9, g10, hc.c1, hc.c2⟩)
          have hd0 : Bel wj wj.drew := (Below.refl _ _).drew;have HBD := hD (HB3.out.trans (hd0.mono HB3.out.size));have HSD := hD (HS3.out.below hd0 HS3.out.lt);have HOD := hD (HO3.out.drew);refine wp_region_held_drew (S := fun w' : World => (w'.cell? ⟨w.heap.size, 7, none⟩ = some (.slice (some ad) g.vols.length c2) ∧ w'.cell? (ad.add (k * 6)) = some (.string v.name) ∧ w'.cell? ⟨wi.heap.size, 0, none⟩ = some (.int .i64 s.start) ∧ w'.cell? ⟨wi.heap.size, 1, none⟩ = some (.int .i64 s.len) ∧ w'.cell? ⟨wi.heap.size, 2, none⟩ = some (.int .i64 s.kind) ∧ w'.cell? ⟨wi.heap.size, 3, none⟩ = some (.slice (some ad3) s.areas.length d0) ∧ w'.cell? ⟨wi.heap.size, 4, none⟩ = some (.int .i64 s.chunk) ∧ w'.cell? ⟨wi.heap.size, 5, none⟩ = some (.slice A1 s.stale.length d1) ∧ w'.cell? ⟨wi.heap.size, 6, none⟩ = some (.string s.log) ∧ w'.cell? ⟨wi.heap.size, 7, none⟩ = some (.string s.pool) ∧ w'.cell? ⟨wi.heap.size, 8, none⟩ = some (.int .i64 s.dev) ∧ w'.cell? ⟨wi.heap.size, 9, none⟩ = some (.int .i64 s.mode) ∧ w'.cell? ⟨wi.heap.size, 10, none⟩ = some (.int .i64 s.done) ∧ w'.cell? ⟨(ad3.add (j * 3)).block, (ad3.add (j * 3)).off + 1, none⟩ = some (.string x.on) ∧ w'.cell? ⟨(ad3.add (j * 3)).block, (ad3.add (j * 3)).off + 2, none⟩ = some (.int .i64 x.start))) (by kernel_rfl) (HSX.out _ HBD.out HSD.out) (fun _ => ?_);refine tkB [0, 1, 2, 3, 4, 5, 6, 7, 8, 9, 10, 11, 12, 13, 14, 15, 16, 17, 18, 19] ?_
          iterate 20
           refine tk (oi := ⟨some _, _, _, _, _, _⟩) (v := ?_) rfl (by kernel_rfl) (by kernel_rfl) (by kernel_rfl) (fun _ _ _ _ _ h => h) rfl (Or.inl ⟨by rfl, ?_⟩) (by assumption) ?_;rotate_left 1
           ·(intro w hSw; (try dsimp only at hSw); go_simp; try with_reducible rfl)
           simp only [Act.put, tS]
          refine tkE ?_;refine wpAnyH_all (rs := [20]) (by kernel_rfl) (by simp) (fun i hi => ?_);obtain rfl : i = 20 := by simpa using hi
          refine wpOp_step (o := ⟨some 82, _, _, _, _, _⟩) rfl (fun K1 hK1 => ?_);go_simp;go_at_call 42
          refine (HXT.out _).mono ?_;rintro e w5 ⟨rfl, hb5⟩;have HB5 := hD (HBD.out.trans (hb5.mono HBD.out.size));have HS5 := hD (HSD.out.below hb5 HSD.out.lt);have HO5 := hD (zb_ HOD.out (Only.of_below (fun _ => False) hb5) (fun _ _ h => h));clear hb5;have hsb5 := HSX.out _ HB5.out HS5.out;refine hK1 _ _ ⟨hsb5, ?_⟩;try simp only [Act.put, upd, Nat.reduceAdd, Nat.reduceBEq, tS]
          refine tkB [21, 22] ?_
          iterate 2
           refine tk (oi := ⟨some _, _, _, _, _, _⟩) (v := ?_) rfl (by kernel_rfl) (by kernel_rfl) (by kernel_rfl) (fun _ _ _ _ _ h => h) rfl (Or.inl ⟨by rfl, ?_⟩) (by assumption) ?_;rotate_left 1
           ·(intro w hSw; (try dsimp only at hSw); go_simp; try with_reducible rfl)
           simp only [Act.put, tS]
          refine tkE ?_;refine wpAnyH_all (rs := [23]) (by kernel_rfl) (by simp) (fun i hi => ?_);obtain rfl : i = 23 := by simpa using hi
          refine wpOp_step (o := ⟨some 85, _, _, _, _, _⟩) rfl (fun K2 hK2 => ?_);go_simp;have HB6 := hD (HB5.out.al (.cells #[.string v.name, .string x.on, .int .i64 x.start, .int .i64 (zM_ s)] 44));have HS6 := hD (HS5.out.alloc (.cells #[.string v.name, .string x.on, .int .i64 x.start, .int .i64 (zM_ s)] 44));have HO6 := hD (HO5.out.alloc (.cells #[.string v.name, .string x.on, .int .i64 x.start, .int .i64 (zM_ s)] 44));have HG6 := hD (Blk.new w5 44 #[.string v.name, .string x.on, .int .i64 x.start, .int .i64 (zM_ s)]);refine hK2 _ _ ⟨HSX.out _ HB6.out HS6.out, ?_⟩;try simp only [Act.put, upd, Nat.reduceAdd, Nat.reduceBEq, tS]
          refine wpAnyH_all (rs := [24]) (by kernel_rfl) (by simp) (fun i hi => ?_);obtain rfl : i = 24 := by simpa using hi
          refine wpOp_step (o := ⟨some 86, _, _, _, _, _⟩) rfl (fun K3 hK3 => ?_);refine zc_ (o := ⟨some 86, _, _, _, _, _⟩) _ rfl (.tmp 62) (.tmp 85) 38 rfl (w.alloc (.cells (grX g B0 c0 B1 c1 (some ad) c2 B3 c3) 31)).heap.size 44 i0 _ 4 48 Tryd.underlying38 hi0 hz0 hz1 hz2 rfl (by decide) (.slice A8 L.length c8) L.length (pqC L) rfl HO6.out _ (some ⟨w5.heap.size, 0, none⟩) 1 1 (pqC [pqOf v s x]) rfl (zZ_ HG6.out rfl) (by intro u hu; simp [pqC] at hu; rcases hu with rfl | rfl | rfl | rfl <;> rfl) (by unfold maxLen; omega) (by omega) HB6.out.size ?_;intro v7 w7 h7 hg7 _;have HB7 := hD (zo_ HB6.out HO6.out hg7 HB6.out.size);have HS7 := hD (HS6.out.only ((Only.refl (fun q => (Value.slice A8 L.length c8).ownBlock = some q) _).grown hg7 (fun q e => .inl e)) (fun e => kG_ HO6.out e HS6.out (by decide)));have H7 := hD (show w7.ownsRow (w.alloc (.cells (grX g B0 c0 B1 c1 (some ad) c2 B3 c3) 31)).heap.size 44 4 v7 (L.length + 1) (pqC (L ++ [pqOf v s x])) by rw [ZJ_]; exact h7);clear h7 hg7;refine hK3 _ _ ⟨HSX.out _ HB7.out HS7.out, ?_⟩;try simp only [Act.put, upd, Nat.reduceAdd, Nat.reduceBEq, tS]
          refine wpAnyH_all (rs := [25]) (by kernel_rfl) (by simp) (fun i hi => ?_);obtain rfl : i = 25 := by simpa using hi
          refine wpOp_step (o := ⟨some 3, _, _, _, _, _⟩) rfl (fun K4 hK4 => ?_);go_simp;refine hK4 _ _ ⟨HSX.out _ HB7.out HS7.out, ?_⟩;try simp only [Act.put, upd, Nat.reduceAdd, Nat.reduceBEq, tS]
          refine wpAnyH_done (by kernel_rfl) ?_ _;obtain ⟨A12, c12, e12, _⟩ := zQ_ H7.out;subst e12;have HLN := hD (show (pqTo g k m ++ pqK v s (j + 1)).length = L.length + 1 by rw [HNK.out]; simp);go_wp2_with fail
          go_roundw
          case rel => exact ⟨j + 1, A12, c12, by omega, by go_num, by rw [HLN.out], by rw [HLN.out, HNK.out]; exact H7.out, HS7.out, HB7.out⟩
          case measure => simp [intOf]; omega
        ·obtain rfl : j = s.areas.length := by omega
         go_wp2_with fail
         go_roundw
         case rel => exact ⟨m + 1, A8, c8, by omega, by go_num, by rw [HPE.out], by rw [HPE.out]; exact HO3.out, HB3.out⟩
         case measure => simp [intOf]; omega
    ·obtain rfl : m = v.segs.length := by omega
     have HR := hD (YN_ HX.out);go_wp2_with fail
     go_roundw
     case rel => exact ⟨k + 1, A9, c9, by omega, by go_num, by rw [HR.out], by rw [← HR.out]; exact HO2.out, HB2.out⟩
     case measure => simp [intOf]; omega
  ·obtain rfl : k = g.vols.length := by omega
   have HE := hD (k4_ g);have HP := hD (YU_ HO.out rfl (S := fun q => w.heap.size ≤ q) (fun q hq => Nat.le_trans HW1.out.size hq));go_wp2_with fail
   go_ret
   exact ⟨A, c, by rw [HE.out]; rfl, by rw [← HE.out]; exact HP.out, HW1.out.next HB.out⟩
end Go.Proofs.YtdkcfgahdcpkkaaDoor
