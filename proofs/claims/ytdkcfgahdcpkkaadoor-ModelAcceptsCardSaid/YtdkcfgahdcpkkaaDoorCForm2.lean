/- The chunk and the stale legs of a segment (printed by genForm2.py). -/
import Derived.Test.YtdkcfgahdcpkkaaDoorCForm1
set_option linter.all false
namespace Go.Proofs.YtdkcfgahdcpkkaaDoor
open Go.RowKit
set_option maxRecDepth 100000
theorem QI_ {a b : Int} (h0 : 1 ≤ a) (h1 : a ≤ 1024) (_h2 : 1 ≤ b) : -9223372036854775808 ≤ a.tmod b ∧ a.tmod b ≤ 9223372036854775807 := by
 have h3 : 0 ≤ a.tmod b := Int.tmod_nonneg b (by omega)
 have h4 : a.tmod b ≤ a := by
  rw [Int.tmod_eq_emod_of_nonneg (by omega), Int.emod_def];have := Int.mul_nonneg (show 0 ≤ b by omega) (Int.ediv_nonneg (show 0 ≤ a by omega) (show 0 ≤ b by omega));omega
 omega
set_option maxHeartbeats 4000000 in
theorem kG_ {w : World} {gc : Nat} {g : Gr} {At Ad Av Ah : Option Addr} {ct cd cv ch : Nat} {vm : Value} (h : Ck w gc g At Ad Av Ah ct cd cv ch vm) (he : 1 ≤ g.extent ∧ g.extent ≤ 1024) (s : Sg) (x : Sh) {A0 A1 : Option Addr} {c0 c1 : Nat} :
  Calls Tryd.prog 108 #[.pointer (some ⟨gc, 0, none⟩), .agg (sgA s (.slice A0 s.areas.length c0) (.slice A1 s.stale.length c1)), shV x] w (Ret (.bool (chunkedB g.extent s x)) w) := by
 have hba : ∀ o1 o2 : Obj, Bel w ((w.alloc o1).alloc o2) := fun o1 o2 => ((Below.refl _ _).al _).al _
 have HBA := hD hba
 obtain ⟨e0, e1, e2, e3, e4, e5, e6, e7, e8, e9⟩ := nine (h.up (show Bel w ((w.alloc (.cells (sgX s A0 c0 A1 c1) 58)).alloc (.cells #[.int .i64 x.least, .int .i64 x.greatest, .bool x.volumes, .bool x.several, .int .i64 x.chunk, .bool x.stale, .bool x.pool, .bool x.log, .bool x.mode, .bool x.done] 114)) from hba _ _)).blk
 obtain ⟨i0, i1, i2, i3, i4, i5, i6, i7, i8, i9⟩ := nine (show Blk ((w.alloc (.cells (sgX s A0 c0 A1 c1) 58)).alloc (.cells #[.int .i64 x.least, .int .i64 x.greatest, .bool x.volumes, .bool x.several, .int .i64 x.chunk, .bool x.stale, .bool x.pool, .bool x.log, .bool x.mode, .bool x.done] 114)) (w.heap.size + 1) 114 #[.int .i64 x.least, .int .i64 x.greatest, .bool x.volumes, .bool x.several, .int .i64 x.chunk, .bool x.stale, .bool x.pool, .bool x.log, .bool x.mode, .bool x.done] from by
  have hby := Blk.new (w.alloc (.cells (sgX s A0 c0 A1 c1) 58)) 114 #[.int .i64 x.least, .int .i64 x.greatest, .bool x.volumes, .bool x.several, .int .i64 x.chunk, .bool x.stale, .bool x.pool, .bool x.log, .bool x.mode, .bool x.done];rw [show (w.alloc (.cells (sgX s A0 c0 A1 c1) 58)).heap.size = w.heap.size + 1 by simp] at hby
  exact hby)
 obtain ⟨f0, f1, f2, f3, f4, f5, f6, f7, f8, f9, f10⟩ := elev ((Blk.new w 58 (sgX s A0 c0 A1 c1)).alloc (.cells #[.int .i64 x.least, .int .i64 x.greatest, .bool x.volumes, .bool x.several, .int .i64 x.chunk, .bool x.stale, .bool x.pool, .bool x.log, .bool x.mode, .bool x.done] 114))
 have H := hD (chunkedB.eq_1 g.extent s x)
 clear h hba
 unfold sgA shV
 by_cases k0 : x.chunk = 0
 ·have HE := hD (show chunkedB g.extent s x = (s.chunk == 0) by rw [H.out, if_pos k0]; rfl)
  have q : (x.chunk == 0) = true := by rw [k0]; rfl
  clear k0;go_enter Tryd.func108, Tryd.ntmps108
  go_wp2_with fail
  go_ret
  exact ⟨by rw [HE.out]; rfl, HBA.out _ _⟩
 have q0 : (x.chunk == 0) = false := beq_eq_false_iff_ne.2 k0
 by_cases k1 : x.chunk = 1
 ·have q1 : (x.chunk == 1) = true := by rw [k1]; rfl
  by_cases hc : 1 ≤ s.chunk
  ·have HE := hD (show chunkedB g.extent s x = (g.extent.tmod s.chunk == 0) by rw [H.out, if_neg k0, if_pos k1, decide_eq_true hc]; rfl)
   have g1 : decide (1 ≤ s.chunk) = true := decide_eq_true hc;have hz : (s.chunk == 0) = false := beq_eq_false_iff_ne.2 (by omega);have hz2 : s.chunk ≠ 0 := by omega
   have wm : IntKind.i64.wrap (g.extent.tmod s.chunk) = g.extent.tmod s.chunk := IntWalk.i64_in _ (QI_ he.1 he.2 hc);obtain ⟨z, hzz⟩ : ∃ z, g.extent.tmod s.chunk = z := ⟨_, rfl⟩;rw [hzz] at wm HE;clear k0 k1;go_enter Tryd.func108, Tryd.ntmps108
   go_wp2_with fail
   go_quiet (fail)
   go_wp2_with fail
   go_ret
   exact ⟨by rw [HE.out]; rfl, zg_ (HBA.out _ _) _⟩
  ·have HE := hD (show chunkedB g.extent s x = false by rw [H.out, if_neg k0, if_pos k1, decide_eq_false hc]; rfl)
   have g1 : decide (1 ≤ s.chunk) = false := decide_eq_false hc;clear k0 k1;go_enter Tryd.func108, Tryd.ntmps108
   go_wp2_with fail
   go_quiet (fail)
   go_wp2_with fail
   go_ret
   exact ⟨by rw [HE.out]; rfl, zg_ (HBA.out _ _) _⟩
 ·have q1 : (x.chunk == 1) = false := beq_eq_false_iff_ne.2 k1
  by_cases hc : 1 ≤ s.chunk
  ·have HE := hD (show chunkedB g.extent s x = decide (s.chunk ≤ x.chunk) by rw [H.out, if_neg k0, if_neg k1, decide_eq_true hc]; rfl)
   clear k0 k1;go_enter Tryd.func108, Tryd.ntmps108
   go_wp2_with fail
   go_ret
   exact ⟨by rw [HE.out]; rfl, HBA.out _ _⟩
  ·have HE := hD (show chunkedB g.extent s x = false by rw [H.out, if_neg k0, if_neg k1, decide_eq_false hc]; rfl)
   clear k0 k1;go_enter Tryd.func108, Tryd.ntmps108
   go_wp2_with fail
   go_ret
   exact ⟨by rw [HE.out]; rfl, HBA.out _ _⟩
theorem zH_ {s : ByteArray} (h : s.toList.isEmpty = true) : s = ⟨#[]⟩ := by
 have h2 := List.isEmpty_iff.1 h
 rw [ByteArray.toList_eq] at h2
 obtain ⟨⟨l⟩⟩ := s
 simp only at h2
 rw [h2]
theorem zw_ {l : List Int} {hi : Int} {st : Bool} {t : Int} : ∀ (r : List Int) (k j : Nat), r[j]? = some t → staleAt l hi st (k + j) t = false → staleFrom l hi st k r = false
 | [], k, j, h, _ => by simp at h
 | u :: r, k, 0, h, hb => by
  simp at h;subst h;rw [staleFrom, show staleAt l hi st k u = false from hb];rfl
 | u :: r, k, j + 1, h, hb => by
  rw [staleFrom, zw_ r (k + 1) j (by simpa using h) (by rw [show k + 1 + j = k + (j + 1) by omega]; exact hb), Bool.and_false]
theorem yX_ {l : List Int} {hi : Int} {st : Bool} : ∀ (r : List Int) (k : Nat), (∀ j t, r[j]? = some t → staleAt l hi st (k + j) t = true) → staleFrom l hi st k r = true
 | [], k, _ => rfl
 | u :: r, k, h => by
  rw [staleFrom, show staleAt l hi st k u = true from h 0 u rfl, yX_ r (k + 1) (fun j t hj => by rw [show k + 1 + j = k + (j + 1) by omega]; exact h (j + 1) t (by simpa using hj))];rfl
set_option maxHeartbeats 8000000 in
theorem ZK_ {w : World} {S : Nat → Prop} (s : Sg) (x : Sh) {A0 A1 : Option Addr} {c0 c1 : Nat} (hs : IL w S (.slice A1 s.stale.length c1) s.stale) (hl : s.areas.length ≤ 6) (hl2 : s.stale.length ≤ 4611686018427387904) :
  Calls Tryd.prog 109 #[.agg (sgA s (.slice A0 s.areas.length c0) (.slice A1 s.stale.length c1)), shV x] w (Ret (.bool (markedB s x)) w) := by
 have HS := hD hs
 have HBA := hD (fun o1 o2 : Obj => show Bel w ((w.alloc o1).alloc o2) from ((Below.refl _ _).al _).al _)
 have HXS := hD (show ∀ w', Bel ((w.alloc (.cells (sgX s A0 c0 A1 c1) 58)).alloc (.cells #[.int .i64 x.least, .int .i64 x.greatest, .bool x.volumes, .bool x.several, .int .i64 x.chunk, .bool x.stale, .bool x.pool, .bool x.log, .bool x.mode, .bool x.done] 114)) w' → Blk w' w.heap.size 58 (sgX s A0 c0 A1 c1) from fun w' hb => ((Blk.new w 58 (sgX s A0 c0 A1 c1)).alloc (.cells #[.int .i64 x.least, .int .i64 x.greatest, .bool x.volumes, .bool x.several, .int .i64 x.chunk, .bool x.stale, .bool x.pool, .bool x.log, .bool x.mode, .bool x.done] 114)).below hb ((Blk.new w 58 (sgX s A0 c0 A1 c1)).alloc (.cells #[.int .i64 x.least, .int .i64 x.greatest, .bool x.volumes, .bool x.several, .int .i64 x.chunk, .bool x.stale, .bool x.pool, .bool x.log, .bool x.mode, .bool x.done] 114)).lt)
 have hby := Blk.new (w.alloc (.cells (sgX s A0 c0 A1 c1) 58)) 114 #[.int .i64 x.least, .int .i64 x.greatest, .bool x.volumes, .bool x.several, .int .i64 x.chunk, .bool x.stale, .bool x.pool, .bool x.log, .bool x.mode, .bool x.done]
 rw [show (w.alloc (.cells (sgX s A0 c0 A1 c1) 58)).heap.size = w.heap.size + 1 by simp] at hby
 have HXX := hD (show ∀ w', Bel ((w.alloc (.cells (sgX s A0 c0 A1 c1) 58)).alloc (.cells #[.int .i64 x.least, .int .i64 x.greatest, .bool x.volumes, .bool x.several, .int .i64 x.chunk, .bool x.stale, .bool x.pool, .bool x.log, .bool x.mode, .bool x.done] 114)) w' → Blk w' (w.heap.size + 1) 114 #[.int .i64 x.least, .int .i64 x.greatest, .bool x.volumes, .bool x.several, .int .i64 x.chunk, .bool x.stale, .bool x.pool, .bool x.log, .bool x.mode, .bool x.done] from fun w' hb => hby.below hb hby.lt)
 obtain ⟨r, hr⟩ : ∃ r, markedB s x = r := ⟨_, rfl⟩
 obtain ⟨e, he⟩ : ∃ e : Int, (s.areas.length : Int) + (if s.log = ⟨#[]⟩ then 0 else 1) = e := ⟨_, rfl⟩
 have HR := hD (show staleFrom s.stale e x.stale 0 s.stale = r by rw [← he, ← hr]; rfl)
 rw [hr]
 clear hs hby hr
 unfold sgA shV
 have hcut : ∃ b : Bool, s.log.toList.isEmpty = b ∧ ((b = true ∧ e = (s.areas.length : Int)) ∨ (b = false ∧ e = (s.areas.length : Int) + 1)) := by
  by_cases hlog : s.log = ⟨#[]⟩
  ·refine ⟨true, by rw [hlog]; simp, Or.inl ⟨rfl, by rw [← he, if_pos hlog]; omega⟩⟩
  ·refine ⟨false, ?_, Or.inr ⟨rfl, by rw [← he, if_neg hlog]⟩⟩
   exact Bool.eq_false_iff.2 (fun h => hlog (zH_ h))
 clear he
 obtain ⟨b, hb, hbe⟩ := hcut
 have he2 : (s.areas.length : Int) ≤ e ∧ e ≤ 7 := by omega
 rcases hbe with ⟨rfl, h1⟩ | ⟨rfl, h1⟩
 ·subst h1
  go_enter Tryd.func109, Tryd.ntmps109
  go_wp2_with fail
  go_loopw [19] (fun i wx => ∃ k : Nat, k ≤ s.stale.length ∧ i = .int .i64 (k : Int) ∧ (∀ j t, j < k → s.stale[j]? = some t → staleAt s.stale (s.areas.length : Int) x.stale j t = true) ∧ Bel ((w.alloc (.cells (sgX s A0 c0 A1 c1) 58)).alloc (.cells #[.int .i64 x.least, .int .i64 x.greatest, .bool x.volumes, .bool x.several, .int .i64 x.chunk, .bool x.stale, .bool x.pool, .bool x.log, .bool x.mode, .bool x.done] 114)) wx) (fun i _ => s.stale.length - (intOf i).toNat)
  case atStart => exact ⟨0, Nat.zero_le _, rfl, fun j t h => absurd h (Nat.not_lt_zero _), Below.refl _ _⟩
  case round =>
   obtain ⟨k, hk, rfl, hall, hbw⟩ := hrel;have HA := hD hall;have HB := hD hbw;clear hall hbw;obtain ⟨f0, f1, f2, f3, f4, f5, f6, f7, f8, f9, f10⟩ := elev (HXS.out _ HB.out);obtain ⟨t0, t1, t2, t3, t4, t5, t6, t7, t8, t9⟩ := nine (HXX.out _ HB.out);clear f0 f1 f2 f3 f4 f6 f7 f8 f9 f10 t0 t1 t2 t3 t4 t6 t7 t8 t9;by_cases hlt : k < s.stale.length
   ·have z0 : (k : Int) < (s.stale.length : Int) := by omega
    have z1 : (0 : Int) ≤ (k : Int) := by omega
    obtain ⟨ad, z, rfl, hz, _, had, hc⟩ := (IL.up HS.out ((HBA.out _ _).next HB.out)).cell hlt;have HZ := hD hz;clear hz;obtain ⟨st, hst⟩ : ∃ st, x.stale = st := ⟨_, rfl⟩;cases st with
    | false =>
     have HF := hD (show r = false by rw [← HR.out]; exact zw_ s.stale 0 k HZ.out (by rw [Nat.zero_add]; unfold staleAt; rw [hst]; rfl));rw [hst] at t5;clear hst;go_wp2_with fail
     go_ret
     exact ⟨by rw [HF.out]; rfl, (HBA.out _ _).next HB.out⟩
    | true =>
     rw [hst] at t5;have HAT := hD (show staleAt s.stale (s.areas.length : Int) x.stale k z = (decide (0 ≤ z) && decide (z < (s.areas.length : Int)) && (decide (k = 0) || decide (s.stale.getD (k - 1) 0 < z))) by unfold staleAt; rw [hst]; rfl);clear hst;by_cases a0 : z < 0
     ·have HF := hD (show r = false by rw [← HR.out]; exact zw_ s.stale 0 k HZ.out (by rw [Nat.zero_add, HAT.out, decide_eq_false (by omega : ¬ 0 ≤ z)]; rfl))
      go_wp2_with fail
      go_ret
      exact ⟨by rw [HF.out]; rfl, (HBA.out _ _).next HB.out⟩
     by_cases a1 : (s.areas.length : Int) ≤ z
     ·have HF := hD (show r = false by rw [← HR.out]; exact zw_ s.stale 0 k HZ.out (by rw [Nat.zero_add, HAT.out, decide_eq_false (by omega : ¬ z < (s.areas.length : Int)), Bool.and_false]; rfl))
      go_wp2_with fail
      go_ret
      exact ⟨by rw [HF.out]; rfl, (HBA.out _ _).next HB.out⟩
     rcases Nat.eq_zero_or_pos k with hk0 | hk0
     ·have g2 : ¬ (0 : Int) < (k : Int) := by omega
      have HN := hD (show ∀ j u, j < k + 1 → s.stale[j]? = some u → staleAt s.stale (s.areas.length : Int) x.stale j u = true from fun j u hj hu => by
       obtain rfl : j = k := by omega
       have hz := HZ.out;rw [hz] at hu; injection hu with hu; subst hu;rw [HAT.out, decide_eq_true (by omega : 0 ≤ z), decide_eq_true (by omega : z < (s.areas.length : Int)), decide_eq_true hk0]; rfl)
      clear hk0;go_wp2_with fail
      go_roundw
      case rel => exact ⟨k + 1, by omega, by go_num, HN.out, HB.out⟩
      case measure => simp [intOf]; omega
     ·obtain ⟨m, hkm⟩ : ∃ m, k = m + 1 := ⟨k - 1, by omega⟩
      have g3 : (0 : Int) < (k : Int) := by omega
      obtain ⟨ad', u, hee, hu, _, _, hcu⟩ := (IL.up HS.out ((HBA.out _ _).next HB.out)).cell (show m < s.stale.length by omega);injection hee with hee;subst hee;have hm : (k : Int) - 1 = (m : Int) := by omega
      have z2 : (0 : Int) ≤ (m : Int) := by omega
      have z3 : (m : Int) < (s.stale.length : Int) := by omega
      have HG := hD (show s.stale.getD (k - 1) 0 = u by rw [List.getD_eq_getElem?_getD, hkm, Nat.add_sub_cancel, hu]; rfl);by_cases a2 : z ≤ u
      ·have HF := hD (show r = false by rw [← HR.out]; exact zw_ s.stale 0 k HZ.out (by rw [Nat.zero_add, HAT.out, HG.out, decide_eq_false (by omega : ¬ k = 0), decide_eq_false (by omega : ¬ u < z), Bool.or_false, Bool.and_false]))
       clear hu hkm hk0;go_wp2_with fail
       go_ret
       exact ⟨by rw [HF.out]; rfl, (HBA.out _ _).next HB.out⟩
      ·have HN := hD (show ∀ j v, j < k + 1 → s.stale[j]? = some v → staleAt s.stale (s.areas.length : Int) x.stale j v = true from fun j v hj hv => by
        rcases Nat.lt_or_ge j k with h | h
        ·exact HA.out j v h hv
        ·obtain rfl : j = k := by omega
         have hz := HZ.out;rw [hz] at hv; injection hv with hv; subst hv;rw [HAT.out, HG.out, decide_eq_true (by omega : 0 ≤ z), decide_eq_true (by omega : z < (s.areas.length : Int)), decide_eq_true (by omega : u < z), Bool.or_true]; rfl)
       clear hu hkm hk0;go_wp2_with fail
       go_roundw
       case rel => exact ⟨k + 1, by omega, by go_num, HN.out, HB.out⟩
       case measure => simp [intOf]; omega
   ·obtain rfl : k = s.stale.length := by omega
    have HF := hD (show r = true by rw [← HR.out]; exact yX_ s.stale 0 (fun j t h => by rw [Nat.zero_add]; exact HA.out j t (List.getElem?_eq_some_iff.1 h).1 h));go_wp2_with fail
    go_ret
    exact ⟨by rw [HF.out]; rfl, (HBA.out _ _).next HB.out⟩
 ·have wm : IntKind.i64.wrap ((s.areas.length : Int) + 1) = e := by rw [← h1]; exact IntWalk.i64_in _ (by omega)
  clear h1;go_enter Tryd.func109, Tryd.ntmps109
  go_wp2_with fail
  go_loopw [19] (fun i wx => ∃ k : Nat, k ≤ s.stale.length ∧ i = .int .i64 (k : Int) ∧ (∀ j t, j < k → s.stale[j]? = some t → staleAt s.stale e x.stale j t = true) ∧ Bel ((w.alloc (.cells (sgX s A0 c0 A1 c1) 58)).alloc (.cells #[.int .i64 x.least, .int .i64 x.greatest, .bool x.volumes, .bool x.several, .int .i64 x.chunk, .bool x.stale, .bool x.pool, .bool x.log, .bool x.mode, .bool x.done] 114)) wx) (fun i _ => s.stale.length - (intOf i).toNat)
  case atStart => exact ⟨0, Nat.zero_le _, rfl, fun j t h => absurd h (Nat.not_lt_zero _), Below.refl _ _⟩
  case round =>
   obtain ⟨k, hk, rfl, hall, hbw⟩ := hrel;have HA := hD hall;have HB := hD hbw;clear hall hbw;obtain ⟨f0, f1, f2, f3, f4, f5, f6, f7, f8, f9, f10⟩ := elev (HXS.out _ HB.out);obtain ⟨t0, t1, t2, t3, t4, t5, t6, t7, t8, t9⟩ := nine (HXX.out _ HB.out);clear f0 f1 f2 f3 f4 f6 f7 f8 f9 f10 t0 t1 t2 t3 t4 t6 t7 t8 t9;by_cases hlt : k < s.stale.length
   ·have z0 : (k : Int) < (s.stale.length : Int) := by omega
    have z1 : (0 : Int) ≤ (k : Int) := by omega
    obtain ⟨ad, z, rfl, hz, _, had, hc⟩ := (IL.up HS.out ((HBA.out _ _).next HB.out)).cell hlt;have HZ := hD hz;clear hz;obtain ⟨st, hst⟩ : ∃ st, x.stale = st := ⟨_, rfl⟩;cases st with
    | false =>
     have HF := hD (show r = false by rw [← HR.out]; exact zw_ s.stale 0 k HZ.out (by rw [Nat.zero_add]; unfold staleAt; rw [hst]; rfl));rw [hst] at t5;clear hst;go_wp2_with fail
     go_ret
     exact ⟨by rw [HF.out]; rfl, (HBA.out _ _).next HB.out⟩
    | true =>
     rw [hst] at t5;have HAT := hD (show staleAt s.stale e x.stale k z = (decide (0 ≤ z) && decide (z < e) && (decide (k = 0) || decide (s.stale.getD (k - 1) 0 < z))) by unfold staleAt; rw [hst]; rfl);clear hst;by_cases a0 : z < 0
     ·have HF := hD (show r = false by rw [← HR.out]; exact zw_ s.stale 0 k HZ.out (by rw [Nat.zero_add, HAT.out, decide_eq_false (by omega : ¬ 0 ≤ z)]; rfl))
      go_wp2_with fail
      go_ret
      exact ⟨by rw [HF.out]; rfl, (HBA.out _ _).next HB.out⟩
     by_cases a1 : e ≤ z
     ·have HF := hD (show r = false by rw [← HR.out]; exact zw_ s.stale 0 k HZ.out (by rw [Nat.zero_add, HAT.out, decide_eq_false (by omega : ¬ z < e), Bool.and_false]; rfl))
      go_wp2_with fail
      go_ret
      exact ⟨by rw [HF.out]; rfl, (HBA.out _ _).next HB.out⟩
     rcases Nat.eq_zero_or_pos k with hk0 | hk0
     ·have g2 : ¬ (0 : Int) < (k : Int) := by omega
      have HN := hD (show ∀ j u, j < k + 1 → s.stale[j]? = some u → staleAt s.stale e x.stale j u = true from fun j u hj hu => by
       obtain rfl : j = k := by omega
       have hz := HZ.out;rw [hz] at hu; injection hu with hu; subst hu;rw [HAT.out, decide_eq_true (by omega : 0 ≤ z), decide_eq_true (by omega : z < e), decide_eq_true hk0]; rfl)
      clear hk0;go_wp2_with fail
      go_roundw
      case rel => exact ⟨k + 1, by omega, by go_num, HN.out, HB.out⟩
      case measure => simp [intOf]; omega
     ·obtain ⟨m, hkm⟩ : ∃ m, k = m + 1 := ⟨k - 1, by omega⟩
      have g3 : (0 : Int) < (k : Int) := by omega
      obtain ⟨ad', u, hee, hu, _, _, hcu⟩ := (IL.up HS.out ((HBA.out _ _).next HB.out)).cell (show m < s.stale.length by omega);injection hee with hee;subst hee;have hm : (k : Int) - 1 = (m : Int) := by omega
      have z2 : (0 : Int) ≤ (m : Int) := by omega
      have z3 : (m : Int) < (s.stale.length : Int) := by omega
      have HG := hD (show s.stale.getD (k - 1) 0 = u by rw [List.getD_eq_getElem?_getD, hkm, Nat.add_sub_cancel, hu]; rfl);by_cases a2 : z ≤ u
      ·have HF := hD (show r = false by rw [← HR.out]; exact zw_ s.stale 0 k HZ.out (by rw [Nat.zero_add, HAT.out, HG.out, decide_eq_false (by omega : ¬ k = 0), decide_eq_false (by omega : ¬ u < z), Bool.or_false, Bool.and_false]))
       clear hu hkm hk0;go_wp2_with fail
       go_ret
       exact ⟨by rw [HF.out]; rfl, (HBA.out _ _).next HB.out⟩
      ·have HN := hD (show ∀ j v, j < k + 1 → s.stale[j]? = some v → staleAt s.stale e x.stale j v = true from fun j v hj hv => by
        rcases Nat.lt_or_ge j k with h | h
        ·exact HA.out j v h hv
        ·obtain rfl : j = k := by omega
         have hz := HZ.out;rw [hz] at hv; injection hv with hv; subst hv;rw [HAT.out, HG.out, decide_eq_true (by omega : 0 ≤ z), decide_eq_true (by omega : z < e), decide_eq_true (by omega : u < z), Bool.or_true]; rfl)
       clear hu hkm hk0;go_wp2_with fail
       go_roundw
       case rel => exact ⟨k + 1, by omega, by go_num, HN.out, HB.out⟩
       case measure => simp [intOf]; omega
   ·obtain rfl : k = s.stale.length := by omega
    have HF := hD (show r = true by rw [← HR.out]; exact yX_ s.stale 0 (fun j t h => by rw [Nat.zero_add]; exact HA.out j t (List.getElem?_eq_some_iff.1 h).1 h));go_wp2_with fail
    go_ret
    exact ⟨by rw [HF.out]; rfl, (HBA.out _ _).next HB.out⟩
end Go.Proofs.YtdkcfgahdcpkkaaDoor
