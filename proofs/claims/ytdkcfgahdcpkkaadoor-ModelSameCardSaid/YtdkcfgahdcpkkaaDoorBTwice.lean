/- An element with the name or the identity of another one is looked for (printed by genTwice.py). -/
import Derived.Test.YtdkcfgahdcpkkaaDoorBCk
set_option linter.all false
set_option linter.unusedVariables false
set_option linter.unusedSimpArgs false
namespace Go.Proofs.YtdkcfgahdcpkkaaDoor
open Go.RowKit
set_option maxRecDepth 100000
theorem bytes_beq (a b : ByteArray) : (a.toList == b.toList) = decide (a = b) := by
 rw [ByteArray.toList_eq, ByteArray.toList_eq]
 by_cases h : a = b
 ·subst h; simp
 ·rw [decide_eq_false h]
  refine beq_eq_false_iff_ne.2 fun e => h ?_
  obtain ⟨⟨l⟩⟩ := a
  obtain ⟨⟨m⟩⟩ := b
  simp only at e
  subst e
  rfl
theorem findIdx_at {α : Type} {p : α → Bool} {l : List α} {k : Nat} {t : α} (h : l[k]? = some t) (hn : ∀ x ∈ l.take k, p x = false) (hp : p t = true) : l.findIdx? p = some k := by
 obtain ⟨hk, e⟩ := List.getElem?_eq_some_iff.1 h
 rw [List.findIdx?_eq_some_iff_getElem]
 refine ⟨hk, by rw [e]; exact hp, fun j hj => ?_⟩
 rw [hn l[j] (List.mem_iff_getElem.2 ⟨j, by rw [List.length_take]; omega, by simp⟩)]
 exact Bool.false_ne_true
theorem none_next {α : Type} {p : α → Bool} {l : List α} {k : Nat} {t : α} (h : l[k]? = some t) (hn : ∀ x ∈ l.take k, p x = false) (hp : p t = false) : ∀ x ∈ l.take (k + 1), p x = false := by
 obtain ⟨hk, e⟩ := List.getElem?_eq_some_iff.1 h
 rw [List.take_succ_eq_append_getElem hk, e]
 intro x hx
 rcases List.mem_append.1 hx with h1 | h1
 ·exact hn x h1
 ·simp at h1; rw [h1]; exact hp
def optI : Option Nat → Int
 | some i => i
 | none => -1
theorem optI_any {α : Type} {p : α → Bool} {l : List α} : decide (0 ≤ optI (l.findIdx? p)) = l.any p := by
 cases h : l.findIdx? p with
 | none =>
  rw [List.findIdx?_eq_none_iff] at h
  rw [show optI none = -1 from rfl]
  have : l.any p = false := by rw [List.any_eq_false]; intro x hx; rw [h x hx]; decide
  rw [this]; rfl
 | some i =>
  obtain ⟨hi, hp, _⟩ := List.findIdx?_eq_some_iff_getElem.1 h
  rw [show optI (some i) = (i : Int) from rfl]
  have : l.any p = true := List.any_eq_true.2 ⟨l[i], List.getElem_mem hi, hp⟩
  rw [this]
  exact decide_eq_true (by omega)
def twDk (s : ByteArray) (id : Int) (x : Dk) : Bool := decide (x.name = s) || decide (x.id = id)
theorem tw1Dk_any {x : Dk} {v0 : Value} {gd : Nat} {s : ByteArray} {id : Int} {w : World} (hb : w.cell? ⟨gd, 0, none⟩ = some (.string s)) (hb1 : w.cell? ⟨gd, 1, none⟩ = some (.int .u64 id)) {q : Bool} (hq : twDk s id x = q) :
  Calls Tryd.prog 72 #[.agg (dkA x v0), .pointer (some ⟨gd, 0, none⟩)] w (Ret (.bool q) w) := by
 have hlt : gd < w.heap.size := block_lt_of_cell hb
 have hq' : ((x.name.toList == s.toList) || (x.id == id)) = q := by
  rw [bytes_beq, ← hq]
  unfold twDk
  by_cases h : x.id = id <;> simp [h]
 unfold dkA
 generalize x.name = nm at *
 generalize x.id = xi at *
 clear hq
 cases h1 : (nm.toList == s.toList) <;> cases h2 : (xi == id) <;> rw [h1, h2] at hq' <;> simp at hq' <;> subst hq'
 all_goals
  go_enter Tryd.func72, Tryd.ntmps72
  go_wp2_with fail
  go_ret
  exact ⟨rfl, (Below.refl _ _).al _⟩
set_option maxHeartbeats 4000000 in
theorem twiDk_any {A : Option Addr} {c gd : Nat} {n : Nat} {l : List Dk} {s : ByteArray} {id : Int} {S : Nat → Prop} {w : World} (hr : DL w S (.slice A l.length c) l) (hn : n ≤ l.length) (hl : l.length ≤ maxLen) (hb : w.cell? ⟨gd, 0, none⟩ = some (.string s)) (hb1 : w.cell? ⟨gd, 1, none⟩ = some (.int .u64 id)) {i : Int} (hi : optI ((l.take n).findIdx? (twDk s id)) = i) :
  Calls Tryd.prog 104 #[.slice A n c, .func (.func 72) #[] #[.pointer (some ⟨gd, 0, none⟩)]] w (Ret (.int .i64 i) w) := by
 have HR := Lib.hid hr
 have HI := Lib.hid hi
 have HCB := Lib.hid hb
 have HCB1 := Lib.hid hb1
 have hl2 := hl
 unfold maxLen at hl2
 have hlt0 : gd < w.heap.size := block_lt_of_cell hb
 clear hr hi hb hb1
 go_enter Tryd.func104, Tryd.ntmps104
 go_wp2_with fail
 go_loopw [8] (fun v wr => ∃ k : Nat, k ≤ n ∧ v = .int .i64 (k : Int) ∧ (∀ x ∈ l.take k, twDk s id x = false) ∧ Bel w wr) (fun v _ => n - (intOf v).toNat)
 case atStart => exact ⟨0, by omega, rfl, by simp, Below.refl _ _⟩
 case round =>
  obtain ⟨k, hk, rfl, hx, hbw⟩ := hrel
  have HX := Lib.hid hx
  have HB := Lib.hid hbw
  clear hx hbw
  by_cases hlt : k < n
  ·have j0 : (k : Int) < (n : Int) := by omega
   have j1 : (0 : Int) ≤ (k : Int) := by omega
   obtain ⟨ad, t, rfl, ht, _, had, h6⟩ := (HR.out.up HB.out).at_ (show k < l.length by omega)
   have HT := Lib.hid ht
   have HC1 := Lib.hid (show wr.cell? ⟨gd, 0, none⟩ = some (.string s) from (HB.out.cell (p := ⟨gd, 0, none⟩) hlt0).trans HCB.out)
   have HC2 := Lib.hid (show wr.cell? ⟨gd, 1, none⟩ = some (.int .u64 id) from (HB.out.cell (p := ⟨gd, 1, none⟩) hlt0).trans HCB1.out)
   obtain ⟨v0, h7, _⟩ := h6
   obtain ⟨a0, a1, a2, a3, a4, a5, a6⟩ := h7
   clear ht
   obtain ⟨q, hq⟩ : ∃ q, twDk s id t = q := ⟨_, rfl⟩
   have HQ := Lib.hid (tw1Dk_any (v0 := v0) HC1.out HC2.out hq)
   unfold dkA at HQ
   cases q with
   | false =>
    have HN := Lib.hid (none_next HT.out HX.out hq)
    clear hq
    go_wp2_with fail
    refine HQ.out.mono ?_
    rintro e w5 ⟨rfl, hb5⟩
    have HB5 := Lib.hid (HB.out.next hb5)
    clear hb5 a0 a1 a2 a3 a4 a5 a6
    go_wp2_with fail
    go_roundw
    case rel => exact ⟨k + 1, by omega, by go_num, HN.out, HB5.out⟩
    case measure => simp [intOf]; omega
   | true =>
    have HE := Lib.hid (show i = (k : Int) by
     rw [← HI.out, findIdx_at (k := k) (by rw [List.getElem?_take, if_pos hlt]; exact HT.out) (by rw [List.take_take, Nat.min_eq_left (by omega)]; exact HX.out) hq]; rfl)
    clear hq
    go_wp2_with fail
    refine HQ.out.mono ?_
    rintro e w5 ⟨rfl, hb5⟩
    have HB5 := Lib.hid (HB.out.next hb5)
    clear hb5 a0 a1 a2 a3 a4 a5 a6
    go_wp2_with fail
    go_ret
    exact ⟨by rw [HE.out]; rfl, HB5.out⟩
  ·obtain rfl : k = n := by omega
   have HE := Lib.hid (show i = -1 by rw [← HI.out, List.findIdx?_eq_none_iff.2 HX.out]; rfl)
   go_wp2_with fail
   go_ret
   exact ⟨by rw [HE.out]; rfl, HB.out⟩
theorem twcDk_any {A : Option Addr} {c gd : Nat} {n : Nat} {l : List Dk} {s : ByteArray} {id : Int} {S : Nat → Prop} {w : World} (hr : DL w S (.slice A l.length c) l) (hn : n ≤ l.length) (hl : l.length ≤ maxLen) (hb : w.cell? ⟨gd, 0, none⟩ = some (.string s)) (hb1 : w.cell? ⟨gd, 1, none⟩ = some (.int .u64 id)) {q : Bool} (hq : (l.take n).any (twDk s id) = q) :
  Calls Tryd.prog 71 #[.slice A n c, .func (.func 72) #[] #[.pointer (some ⟨gd, 0, none⟩)]] w (Ret (.bool q) w) := by
 have h := @optI_any _ (twDk s id) (l.take n)
 rw [hq] at h
 have HI := Lib.hid (twiDk_any hr hn hl hb hb1 rfl)
 generalize optI ((l.take n).findIdx? (twDk s id)) = i at *
 clear hr hb hq hb1
 go_enter Tryd.func71, Tryd.ntmps71
 go_wp2_with fail
 refine HI.out.mono ?_
 rintro e w5 ⟨rfl, hb5⟩
 go_wp2_with fail
 go_ret
 exact ⟨by first | rfl | (rw [h]), hb5⟩
def twVo (s : ByteArray) (id : Int) (x : Vo) : Bool := decide (x.name = s) || decide (x.id = id)
theorem tw1Vo_any {x : Vo} {v0 : Value} {v1 : Value} {gd : Nat} {s : ByteArray} {id : Int} {w : World} (hb : w.cell? ⟨gd, 0, none⟩ = some (.string s)) (hb1 : w.cell? ⟨gd, 1, none⟩ = some (.int .u64 id)) {q : Bool} (hq : twVo s id x = q) :
  Calls Tryd.prog 74 #[.agg (voA x v0 v1), .pointer (some ⟨gd, 0, none⟩)] w (Ret (.bool q) w) := by
 have hlt : gd < w.heap.size := block_lt_of_cell hb
 have hq' : ((x.name.toList == s.toList) || (x.id == id)) = q := by
  rw [bytes_beq, ← hq]
  unfold twVo
  by_cases h : x.id = id <;> simp [h]
 unfold voA
 generalize x.name = nm at *
 generalize x.id = xi at *
 clear hq
 cases h1 : (nm.toList == s.toList) <;> cases h2 : (xi == id) <;> rw [h1, h2] at hq' <;> simp at hq' <;> subst hq'
 all_goals
  go_enter Tryd.func74, Tryd.ntmps74
  go_wp2_with fail
  go_ret
  exact ⟨rfl, (Below.refl _ _).al _⟩
set_option maxHeartbeats 4000000 in
theorem twiVo_any {A : Option Addr} {c gd : Nat} {n : Nat} {l : List Vo} {s : ByteArray} {id : Int} {S : Nat → Prop} {w : World} (hr : VL w S (.slice A l.length c) l) (hn : n ≤ l.length) (hl : l.length ≤ maxLen) (hb : w.cell? ⟨gd, 0, none⟩ = some (.string s)) (hb1 : w.cell? ⟨gd, 1, none⟩ = some (.int .u64 id)) {i : Int} (hi : optI ((l.take n).findIdx? (twVo s id)) = i) :
  Calls Tryd.prog 105 #[.slice A n c, .func (.func 74) #[] #[.pointer (some ⟨gd, 0, none⟩)]] w (Ret (.int .i64 i) w) := by
 have HR := Lib.hid hr
 have HI := Lib.hid hi
 have HCB := Lib.hid hb
 have HCB1 := Lib.hid hb1
 have hl2 := hl
 unfold maxLen at hl2
 have hlt0 : gd < w.heap.size := block_lt_of_cell hb
 clear hr hi hb hb1
 go_enter Tryd.func105, Tryd.ntmps105
 go_wp2_with fail
 go_loopw [8] (fun v wr => ∃ k : Nat, k ≤ n ∧ v = .int .i64 (k : Int) ∧ (∀ x ∈ l.take k, twVo s id x = false) ∧ Bel w wr) (fun v _ => n - (intOf v).toNat)
 case atStart => exact ⟨0, by omega, rfl, by simp, Below.refl _ _⟩
 case round =>
  obtain ⟨k, hk, rfl, hx, hbw⟩ := hrel
  have HX := Lib.hid hx
  have HB := Lib.hid hbw
  clear hx hbw
  by_cases hlt : k < n
  ·have j0 : (k : Int) < (n : Int) := by omega
   have j1 : (0 : Int) ≤ (k : Int) := by omega
   obtain ⟨ad, t, rfl, ht, _, had, h6⟩ := (HR.out.up HB.out).at_ (show k < l.length by omega)
   have HT := Lib.hid ht
   have HC1 := Lib.hid (show wr.cell? ⟨gd, 0, none⟩ = some (.string s) from (HB.out.cell (p := ⟨gd, 0, none⟩) hlt0).trans HCB.out)
   have HC2 := Lib.hid (show wr.cell? ⟨gd, 1, none⟩ = some (.int .u64 id) from (HB.out.cell (p := ⟨gd, 1, none⟩) hlt0).trans HCB1.out)
   obtain ⟨v0, v1, h7, _⟩ := h6
   obtain ⟨a0, a1, a2, a3, a4, a5⟩ := h7
   clear ht
   obtain ⟨q, hq⟩ : ∃ q, twVo s id t = q := ⟨_, rfl⟩
   have HQ := Lib.hid (tw1Vo_any (v0 := v0) (v1 := v1) HC1.out HC2.out hq)
   unfold voA at HQ
   cases q with
   | false =>
    have HN := Lib.hid (none_next HT.out HX.out hq)
    clear hq
    go_wp2_with fail
    refine HQ.out.mono ?_
    rintro e w5 ⟨rfl, hb5⟩
    have HB5 := Lib.hid (HB.out.next hb5)
    clear hb5 a0 a1 a2 a3 a4 a5
    go_wp2_with fail
    go_roundw
    case rel => exact ⟨k + 1, by omega, by go_num, HN.out, HB5.out⟩
    case measure => simp [intOf]; omega
   | true =>
    have HE := Lib.hid (show i = (k : Int) by
     rw [← HI.out, findIdx_at (k := k) (by rw [List.getElem?_take, if_pos hlt]; exact HT.out) (by rw [List.take_take, Nat.min_eq_left (by omega)]; exact HX.out) hq]; rfl)
    clear hq
    go_wp2_with fail
    refine HQ.out.mono ?_
    rintro e w5 ⟨rfl, hb5⟩
    have HB5 := Lib.hid (HB.out.next hb5)
    clear hb5 a0 a1 a2 a3 a4 a5
    go_wp2_with fail
    go_ret
    exact ⟨by rw [HE.out]; rfl, HB5.out⟩
  ·obtain rfl : k = n := by omega
   have HE := Lib.hid (show i = -1 by rw [← HI.out, List.findIdx?_eq_none_iff.2 HX.out]; rfl)
   go_wp2_with fail
   go_ret
   exact ⟨by rw [HE.out]; rfl, HB.out⟩
theorem twcVo_any {A : Option Addr} {c gd : Nat} {n : Nat} {l : List Vo} {s : ByteArray} {id : Int} {S : Nat → Prop} {w : World} (hr : VL w S (.slice A l.length c) l) (hn : n ≤ l.length) (hl : l.length ≤ maxLen) (hb : w.cell? ⟨gd, 0, none⟩ = some (.string s)) (hb1 : w.cell? ⟨gd, 1, none⟩ = some (.int .u64 id)) {q : Bool} (hq : (l.take n).any (twVo s id) = q) :
  Calls Tryd.prog 73 #[.slice A n c, .func (.func 74) #[] #[.pointer (some ⟨gd, 0, none⟩)]] w (Ret (.bool q) w) := by
 have h := @optI_any _ (twVo s id) (l.take n)
 rw [hq] at h
 have HI := Lib.hid (twiVo_any hr hn hl hb hb1 rfl)
 generalize optI ((l.take n).findIdx? (twVo s id)) = i at *
 clear hr hb hq hb1
 go_enter Tryd.func73, Tryd.ntmps73
 go_wp2_with fail
 refine HI.out.mono ?_
 rintro e w5 ⟨rfl, hb5⟩
 go_wp2_with fail
 go_ret
 exact ⟨by first | rfl | (rw [h]), hb5⟩
end Go.Proofs.YtdkcfgahdcpkkaaDoor
