/- The reference's Cut finds the suffix that names.cut finds. -/
import Derived.Test.YtdkcfgahdcpkkaaDoorCSrc
import Derived.Lib.Strings
set_option linter.all false
namespace Go.Proofs.YtdkcfgahdcpkkaaDoor
open Go.RowKit
def hasS (s p : ByteArray) : Bool := Lib.hasSuffix s.data.toList p.data.toList
theorem k6_ (s p : ByteArray) : (decide (p.size ≤ s.size) && ((s.extract (s.size - p.size) s.size).toList == p.toList)) = hasS s p := Lib.hasSuffix_raw s p
theorem xA_ {s p : ByteArray} (h : ¬ p.size ≤ s.size) : hasS s p = false := by rw [← k6_]; simp [h]
theorem Jn_ {s p : ByteArray} (h : p.size ≤ s.size) : ((s.extract (s.size - p.size) s.size).toList == p.toList) = hasS s p := by rw [← k6_]; simp [h]
set_option maxHeartbeats 1000000 in
theorem ju_ (s p : ByteArray) (w : World) (hs : s.size ≤ 9223372036854775807) :
  Calls Tryd.prog 125 #[.string s, .string p] w (fun e w' => e = .returned (.bool (hasS s p)) ∧ w = w') := by
 by_cases h : p.size ≤ s.size
 ·have h1 : IntKind.i64.wrap ((s.size : Int) - (p.size : Int)) = ((s.size - p.size : Nat) : Int) := by rw [IntWalk.i64_in _ (by omega)]; omega
  have h2 := Jn_ h;have i1 : (p.size : Int) ≤ (s.size : Int) := by omega
  generalize hasS s p = b at h2;go_enter Tryd.func125, Tryd.ntmps125
  go_wp2_with fail
  go_ret
  exact ⟨rfl, rfl⟩
 ·have h2 := xA_ h
  have i1 : ¬ (p.size : Int) ≤ (s.size : Int) := by omega
  rw [h2];clear h2;go_enter Tryd.func125, Tryd.ntmps125
  go_wp2_with fail
  go_ret
  exact ⟨rfl, rfl⟩
def xs_ (s p : ByteArray) : ByteArray := s.extract 0 (s.size - p.size)
def cutV (s p : ByteArray) : ByteArray := if hasS s p = true then xs_ s p else s
set_option maxHeartbeats 1000000 in
theorem qS_ (s p : ByteArray) (w : World) (hs : s.size ≤ 9223372036854775807) :
  Calls Tryd.prog 123 #[.string s, .string p] w (fun e w' => e = .returned (.tuple #[.string (cutV s p), .bool (hasS s p)]) ∧ w = w') := by
 have H := hD (ju_ s p w hs)
 cases h : hasS s p with
 | true =>
  have hle : p.size ≤ s.size := by
   rcases Nat.lt_or_ge s.size p.size with h1 | h1
   ·rw [xA_ (by omega)] at h; cases h
   ·exact h1
  have h1 : IntKind.i64.wrap ((s.size : Int) - (p.size : Int)) = ((s.size - p.size : Nat) : Int) := by rw [IntWalk.i64_in _ (by omega)]; omega
  have hv : cutV s p = s.extract 0 (s.size - p.size) := by unfold cutV xs_; rw [if_pos h]
  rw [hv];rw [h] at H;clear hv h;go_enter Tryd.func123, Tryd.ntmps123
  go_wp2_with fail
  refine H.out.mono ?_;rintro e w1 ⟨rfl, rfl⟩;go_wp2_with fail
  go_ret2
  exact ⟨rfl, rfl⟩
 | false =>
  have hv : cutV s p = s := by unfold cutV; rw [if_neg (by rw [h]; exact Bool.false_ne_true)]
  rw [hv];rw [h] at H;clear hv h;go_enter Tryd.func123, Tryd.ntmps123
  go_wp2_with fail
  refine H.out.mono ?_;rintro e w1 ⟨rfl, rfl⟩;go_wp2_with fail
  go_ret2
  exact ⟨rfl, rfl⟩
theorem xD_ (s p : ByteArray) (w : World) (hs : s.size ≤ 9223372036854775807) :
  Calls Tryd.prog 119 #[.string s, .string p] w (fun e w' => e = .returned (.tuple #[.string (cutV s p), .bool (hasS s p)]) ∧ w = w') := by
 have H := hD (qS_ s p w hs)
 clear hs
 go_enter Tryd.func119, Tryd.ntmps119
 go_wp2_with fail
 refine H.out.mono ?_
 rintro e w1 ⟨rfl, rfl⟩
 go_wp2_with fail
 go_ret2
 exact ⟨rfl, rfl⟩
def sLog : ByteArray := ⟨#[95, 108, 111, 103]⟩
def sData : ByteArray := ⟨#[95, 100, 97, 116, 97]⟩
def sMeta : ByteArray := ⟨#[95, 109, 101, 116, 97]⟩
def yQ_ : ByteArray := ⟨#[95, 115, 112, 97, 114, 101]⟩
def sLeg : ByteArray := ⟨#[95, 108, 101, 103]⟩
def legD (d : UInt8) : ByteArray := ⟨#[95, 108, 101, 103, d]⟩
def parts4 : List ByteArray := [sLog, sData, sMeta, yQ_]
def legs8 : List ByteArray := [legD 48, legD 49, legD 50, legD 51, legD 52, legD 53, legD 54, legD 55]
def sufs : List ByteArray := parts4 ++ legs8
def cutF (s : ByteArray) : Option ByteArray := (sufs.find? (hasS s)).map (xs_ s)
structure Suf (w : World) : Prop where
 c1 : w.cell? ⟨0, 1, none⟩ = some (.string sLog)
 c2 : w.cell? ⟨0, 2, none⟩ = some (.string sData)
 c3 : w.cell? ⟨0, 3, none⟩ = some (.string sMeta)
 c4 : w.cell? ⟨0, 4, none⟩ = some (.string yQ_)
theorem Suf.pos {w : World} (h : Suf w) : 0 < w.heap.size := zD_ h.c1
theorem Suf.below {w w' : World} {B : Nat} (h : Suf w) (hb : Below B w w') (hB : 0 < B) : Suf w' :=
 ⟨(hb.cell (p := ⟨_, 1, none⟩) hB).trans h.c1, (hb.cell (p := ⟨_, 2, none⟩) hB).trans h.c2, (hb.cell (p := ⟨_, 3, none⟩) hB).trans h.c3, (hb.cell (p := ⟨_, 4, none⟩) hB).trans h.c4⟩
theorem find4 (s : ByteArray) (h0 : hasS s sLog = false) (h1 : hasS s sData = false) (h2 : hasS s sMeta = false) (h3 : hasS s yQ_ = false) : cutF s = (legs8.find? (hasS s)).map (xs_ s) := by
 unfold cutF sufs parts4
 simp [h0, h1, h2, h3]
theorem hit0 (s : ByteArray) (h : hasS s sLog = true) : cutF s = some (xs_ s sLog) := by
 unfold cutF sufs parts4
 simp [h]
theorem hit1 (s : ByteArray) (h0 : hasS s sLog = false) (h : hasS s sData = true) : cutF s = some (xs_ s sData) := by
 unfold cutF sufs parts4
 simp [h, h0]
theorem hit2 (s : ByteArray) (h0 : hasS s sLog = false) (h1 : hasS s sData = false) (h : hasS s sMeta = true) : cutF s = some (xs_ s sMeta) := by
 unfold cutF sufs parts4
 simp [h, h0, h1]
theorem hit3 (s : ByteArray) (h0 : hasS s sLog = false) (h1 : hasS s sData = false) (h2 : hasS s sMeta = false) (h : hasS s yQ_ = true) : cutF s = some (xs_ s yQ_) := by
 unfold cutF sufs parts4
 simp [h, h0, h1, h2]
theorem hasS_iff (s p : ByteArray) : hasS s p = true ↔ p.data.toList <:+ s.data.toList := by
 unfold hasS Lib.hasSuffix
 exact List.isSuffixOf_iff_suffix
theorem kq_ (p l : List UInt8) (d c : UInt8) : (p ++ [d]) <:+ (l ++ [c]) ↔ d = c ∧ p <:+ l := by
 constructor
 ·rintro ⟨t, ht⟩
  rw [← List.append_assoc] at ht;have := List.append_inj' ht rfl;exact ⟨by simpa using this.2, ⟨t, this.1⟩⟩
 ·rintro ⟨rfl, ⟨t, rfl⟩⟩
  exact ⟨t, by simp⟩
theorem Z6_ (s : ByteArray) (n : Nat) (h : s.size = n + 1) : s.data.toList = (s.extract 0 n).data.toList ++ [s[n]'(by omega)] := by
 rw [Lib.extract_data]
 obtain ⟨⟨l⟩⟩ := s
 have hl : l.length = n + 1 := h
 show l = (l.drop 0).take (n - 0) ++ [l[n]]
 rw [List.drop_zero, Nat.sub_zero, List.take_append_getElem (by omega), ← hl, List.take_length]
theorem x9_ (s : ByteArray) (n : Nat) (h : s.size = n + 1) (d : UInt8) : hasS s (legD d) = (d == s[n]'(by omega) && hasS (s.extract 0 n) sLeg) := by
 rw [Bool.eq_iff_iff, hasS_iff, Bool.and_eq_true, beq_iff_eq, hasS_iff, Z6_ s n h]
 exact kq_ [95, 108, 101, 103] _ d _
theorem ZS_ (s : ByteArray) (h : s.size = 0) (d : UInt8) : hasS s (legD d) = false := xA_ (by rw [h]; show ¬ 5 ≤ 0; omega)
theorem qu_ (s : ByteArray) (h : ∀ d, 48 ≤ d → d ≤ 55 → hasS s (legD d) = false) : legs8.find? (hasS s) = none := by
 unfold legs8
 simp [h 48 (by decide) (by decide), h 49 (by decide) (by decide), h 50 (by decide) (by decide), h 51 (by decide) (by decide), h 52 (by decide) (by decide), h 53 (by decide) (by decide), h 54 (by decide) (by decide), h 55 (by decide) (by decide)]
theorem X9_ (s : ByteArray) (c : UInt8) (h1 : 48 ≤ c) (h2 : c ≤ 55) (hc : hasS s (legD c) = true) (h : ∀ d, d ≠ c → hasS s (legD d) = false) : legs8.find? (hasS s) = some (legD c) := by
 have : c = 48 ∨ c = 49 ∨ c = 50 ∨ c = 51 ∨ c = 52 ∨ c = 53 ∨ c = 54 ∨ c = 55 := by
  have h1' : 48 ≤ c.toNat := UInt8.le_iff_toNat_le.1 h1;have h2' : c.toNat ≤ 55 := UInt8.le_iff_toNat_le.1 h2;have e : c.toNat = 48 ∨ c.toNat = 49 ∨ c.toNat = 50 ∨ c.toNat = 51 ∨ c.toNat = 52 ∨ c.toNat = 53 ∨ c.toNat = 54 ∨ c.toNat = 55 := by omega
  rcases e with e | e | e | e | e | e | e | e
  ·exact .inl (UInt8.toNat_inj.1 e)
  ·exact .inr (.inl (UInt8.toNat_inj.1 e))
  ·exact .inr (.inr (.inl (UInt8.toNat_inj.1 e)))
  ·exact .inr (.inr (.inr (.inl (UInt8.toNat_inj.1 e))))
  ·exact .inr (.inr (.inr (.inr (.inl (UInt8.toNat_inj.1 e)))))
  ·exact .inr (.inr (.inr (.inr (.inr (.inl (UInt8.toNat_inj.1 e))))))
  ·exact .inr (.inr (.inr (.inr (.inr (.inr (.inl (UInt8.toNat_inj.1 e)))))))
  ·exact .inr (.inr (.inr (.inr (.inr (.inr (.inr (UInt8.toNat_inj.1 e)))))))
 unfold legs8
 rcases this with rfl | rfl | rfl | rfl | rfl | rfl | rfl | rfl <;> simp [hc, h 48, h 49, h 50, h 51, h 52, h 53, h 54, h 55]
theorem XH_ (s : ByteArray) (n : Nat) (h : s.size = n + 1) (d : UInt8) : xs_ s (legD d) = xs_ (s.extract 0 n) sLeg := by
 unfold xs_
 rw [ByteArray.size_extract, h]
 show s.extract 0 (n + 1 - 5) = (s.extract 0 n).extract 0 (min n (n + 1) - 0 - 4)
 rw [Lib.extract_eq, Lib.extract_eq, Lib.extract_data]
 congr 2
 simp only [List.drop_zero, Nat.sub_zero, List.take_take]
 congr 1
 omega
theorem ZZ_ (s : ByteArray) (hn : s.size = 0) : legs8.find? (hasS s) = none := qu_ s fun d _ _ => ZS_ s hn d
theorem Za_ (s : ByteArray) (n : Nat) (h : s.size = n + 1) (hc : (s[n]'(by omega)).toNat < 48 ∨ 55 < (s[n]'(by omega)).toNat) : legs8.find? (hasS s) = none := by
 refine qu_ s fun d h1 h2 => ?_
 rw [x9_ s n h]
 have h1' : 48 ≤ d.toNat := UInt8.le_iff_toNat_le.1 h1
 have h2' : d.toNat ≤ 55 := UInt8.le_iff_toNat_le.1 h2
 have : d ≠ s[n]'(by omega) := fun e => by rw [← e] at hc; omega
 rw [beq_eq_false_iff_ne.2 this]
 rfl
theorem Qh_ (s : ByteArray) (n : Nat) (h : s.size = n + 1) (h1 : 48 ≤ (s[n]'(by omega)).toNat) (h2 : (s[n]'(by omega)).toNat ≤ 55) :
  (legs8.find? (hasS s)).map (xs_ s) = if hasS (s.extract 0 n) sLeg = true then some (xs_ (s.extract 0 n) sLeg) else none := by
 by_cases hl : hasS (s.extract 0 n) sLeg = true
 ·rw [if_pos hl, X9_ s (s[n]'(by omega)) (UInt8.le_iff_toNat_le.2 h1) (UInt8.le_iff_toNat_le.2 h2) (by rw [x9_ s n h, hl]; simp) (fun d hd => by rw [x9_ s n h, beq_eq_false_iff_ne.2 hd]; rfl)]
  show some _ = _
  rw [XH_ s n h]
 ·rw [if_neg hl, qu_ s (fun d _ _ => by rw [x9_ s n h]; simp [hl])]
  rfl
def CutRet (s : ByteArray) (w : World) (e : Ending) (w' : World) : Prop := ∃ r : ByteArray, e = .returned (.tuple #[.string r, .bool (cutF s).isSome]) ∧ (∀ x, cutF s = some x → r = x) ∧ w = w'
set_option maxRecDepth 100000 in
set_option maxHeartbeats 4000000 in
theorem Xm_ (s : ByteArray) (w : World) (hs : s.size ≤ 9223372036854775807) (hS : Suf w) :
  Calls Tryd.prog 101 #[.string s] w (CutRet s w) := by
 have c1 := hS.c1
 have c2 := hS.c2
 have c3 := hS.c3
 have c4 := hS.c4
 clear hS
 have H := hD (fun p => xD_ s p w hs)
 go_enter Tryd.func101, Tryd.ntmps101
 go_wp2_with fail
 go_loop [11] (fun i => ∃ k : Nat, k ≤ 4 ∧ i = .int .i64 k ∧ ∀ p ∈ parts4.take k, hasS s p = false) (fun i => 4 - (intOf i).toNat)
 case atStart => exact ⟨0, by omega, rfl, by simp⟩
 case round =>
  obtain ⟨k, hk, rfl, hno⟩ := hrel;rcases (show k = 0 ∨ k = 1 ∨ k = 2 ∨ k = 3 ∨ k = 4 by omega) with rfl | rfl | rfl | rfl | rfl
  ·have HP := hD (H.out sLog)
   have HNO := hD hno;clear hno;cases hb : hasS s sLog with
   | true =>
    rw [hb] at HP;have HX := hD hb;clear hb;go_wp2_with fail
    refine HP.out.mono ?_;rintro e w1 ⟨rfl, rfl⟩;go_wp2_with fail
    go_ret2
    have hno := HNO.out;have hc := hit0 s  HX.out;exact ⟨_, by rw [hc]; rfl, fun x hx => by rw [hc] at hx; injection hx with hx; rw [← hx]; unfold cutV; rw [if_pos HX.out], rfl⟩
   | false =>
    rw [hb] at HP;have HX := hD hb;clear hb;go_wp2_with fail
    refine HP.out.mono ?_;rintro e w1 ⟨rfl, rfl⟩;go_wp2_with fail
    go_round
    case rel => exact ⟨1, by omega, by go_num, fun p hp => by
     have hno := HNO.out;simp only [parts4, List.take_succ_cons, List.take_zero, List.mem_cons, List.not_mem_nil, or_false] at hno hp;rcases hp with rfl
     ·exact HX.out⟩
    case measure => simp [intOf]
  ·have HP := hD (H.out sData)
   have HNO := hD hno;clear hno;cases hb : hasS s sData with
   | true =>
    rw [hb] at HP;have HX := hD hb;clear hb;go_wp2_with fail
    refine HP.out.mono ?_;rintro e w1 ⟨rfl, rfl⟩;go_wp2_with fail
    go_ret2
    have hno := HNO.out;have hc := hit1 s (hno sLog (by simp [parts4])) HX.out;exact ⟨_, by rw [hc]; rfl, fun x hx => by rw [hc] at hx; injection hx with hx; rw [← hx]; unfold cutV; rw [if_pos HX.out], rfl⟩
   | false =>
    rw [hb] at HP;have HX := hD hb;clear hb;go_wp2_with fail
    refine HP.out.mono ?_;rintro e w1 ⟨rfl, rfl⟩;go_wp2_with fail
    go_round
    case rel => exact ⟨2, by omega, by go_num, fun p hp => by
     have hno := HNO.out;simp only [parts4, List.take_succ_cons, List.take_zero, List.mem_cons, List.not_mem_nil, or_false] at hno hp;rcases hp with rfl | rfl
     ·exact hno _ (by simp)
     ·exact HX.out⟩
    case measure => simp [intOf]
  ·have HP := hD (H.out sMeta)
   have HNO := hD hno;clear hno;cases hb : hasS s sMeta with
   | true =>
    rw [hb] at HP;have HX := hD hb;clear hb;go_wp2_with fail
    refine HP.out.mono ?_;rintro e w1 ⟨rfl, rfl⟩;go_wp2_with fail
    go_ret2
    have hno := HNO.out;have hc := hit2 s (hno sLog (by simp [parts4])) (hno sData (by simp [parts4])) HX.out;exact ⟨_, by rw [hc]; rfl, fun x hx => by rw [hc] at hx; injection hx with hx; rw [← hx]; unfold cutV; rw [if_pos HX.out], rfl⟩
   | false =>
    rw [hb] at HP;have HX := hD hb;clear hb;go_wp2_with fail
    refine HP.out.mono ?_;rintro e w1 ⟨rfl, rfl⟩;go_wp2_with fail
    go_round
    case rel => exact ⟨3, by omega, by go_num, fun p hp => by
     have hno := HNO.out;simp only [parts4, List.take_succ_cons, List.take_zero, List.mem_cons, List.not_mem_nil, or_false] at hno hp;rcases hp with rfl | rfl | rfl
     ·exact hno _ (by simp)
     ·exact hno _ (by simp)
     ·exact HX.out⟩
    case measure => simp [intOf]
  ·have HP := hD (H.out yQ_)
   have HNO := hD hno;clear hno;cases hb : hasS s yQ_ with
   | true =>
    rw [hb] at HP;have HX := hD hb;clear hb;go_wp2_with fail
    refine HP.out.mono ?_;rintro e w1 ⟨rfl, rfl⟩;go_wp2_with fail
    go_ret2
    have hno := HNO.out;have hc := hit3 s (hno sLog (by simp [parts4])) (hno sData (by simp [parts4])) (hno sMeta (by simp [parts4])) HX.out;exact ⟨_, by rw [hc]; rfl, fun x hx => by rw [hc] at hx; injection hx with hx; rw [← hx]; unfold cutV; rw [if_pos HX.out], rfl⟩
   | false =>
    rw [hb] at HP;have HX := hD hb;clear hb;go_wp2_with fail
    refine HP.out.mono ?_;rintro e w1 ⟨rfl, rfl⟩;go_wp2_with fail
    go_round
    case rel => exact ⟨4, by omega, by go_num, fun p hp => by
     have hno := HNO.out;simp only [parts4, List.take_succ_cons, List.take_zero, List.mem_cons, List.not_mem_nil, or_false] at hno hp;rcases hp with rfl | rfl | rfl | rfl
     ·exact hno _ (by simp)
     ·exact hno _ (by simp)
     ·exact hno _ (by simp)
     ·exact HX.out⟩
    case measure => simp [intOf]
  ·have HF := hD (find4 s (hno sLog (by simp [parts4])) (hno sData (by simp [parts4])) (hno sMeta (by simp [parts4])) (hno yQ_ (by simp [parts4])))
   clear hno;by_cases h0 : s.size = 0
   ·have HZ := hD (ZZ_ s h0)
    have i1 : (s.size : Int) = 0 := by omega
    clear h0;go_wp2_with fail
    go_ret2
    exact ⟨_, by rw [HF.out, HZ.out]; rfl, fun x hx => by (rw [HF.out, HZ.out] at hx; cases hx), rfl⟩
   ·obtain ⟨n, hn⟩ : ∃ n, s.size = n + 1 := ⟨s.size - 1, by omega⟩
    have i1 : (s.size : Int) = (n : Int) + 1 := by omega
    have i2 : IntKind.i64.wrap ((n : Int) + 1 - 1) = (n : Int) := by rw [IntWalk.i64_in _ (by omega)]; omega
    have i3 : n < s.size := by omega
    have HN := hD hn;clear hn h0;have i5 : ¬ (n : Int) < 0 := by omega
    by_cases h1 : (s[n]).toNat < 48
    ·have HZ := hD (Za_ s n HN.out (.inl h1))
     have i4 : ((s[n]).toNat : Int) < 48 := by omega
     clear h1;go_wp2_with fail
     go_ret2
     exact ⟨_, by rw [HF.out, HZ.out]; rfl, fun x hx => by (rw [HF.out, HZ.out] at hx; cases hx), rfl⟩
    ·by_cases h2 : 55 < (s[n]).toNat
     ·have HZ := hD (Za_ s n HN.out (.inr h2))
      have i4 : ¬ ((s[n]).toNat : Int) < 48 := by omega
      have i6 : 55 < ((s[n]).toNat : Int) := by omega
      clear h1 h2;go_wp2_with fail
      go_ret2
      exact ⟨_, by rw [HF.out, HZ.out]; rfl, fun x hx => by (rw [HF.out, HZ.out] at hx; cases hx), rfl⟩
     ·have HZ := hD (Qh_ s n HN.out (by omega) (by omega))
      have HL := hD (xD_ (s.extract 0 n) sLeg w (by rw [ByteArray.size_extract]; omega));have i4 : ¬ ((s[n]).toNat : Int) < 48 := by omega
      have i6 : ¬ 55 < ((s[n]).toNat : Int) := by omega
      clear h1 h2;go_wp2_with fail
      refine HL.out.mono ?_;rintro e w1 ⟨rfl, rfl⟩;go_wp2_with fail
      go_ret2
      refine ⟨cutV (s.extract 0 n) sLeg, ?_, ?_, rfl⟩
      ·rw [HF.out, HZ.out]
       cases hasS (s.extract 0 n) sLeg <;> rfl
      ·intro x hx
       rw [HF.out, HZ.out] at hx;unfold cutV;split at hx
       ·rename_i hh
        rw [if_pos hh];injection hx
       ·cases hx
def T (l : List ByteArray) : List Value := l.map Value.string
theorem add0 (g k : Nat) : (⟨g, 0, none⟩ : Addr).add k = ⟨g, k, none⟩ := by
 unfold Addr.add
 split
 ·rename_i h; rw [h]
 ·simp
end Go.Proofs.YtdkcfgahdcpkkaaDoor
