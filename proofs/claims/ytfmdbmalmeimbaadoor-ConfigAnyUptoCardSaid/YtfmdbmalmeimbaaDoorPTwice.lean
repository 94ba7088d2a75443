/- A name is looked for among nodes. -/
import Derived.Test.YtfmdbmalmeimbaaDoorPNode0
namespace Go.Proofs.YtfmdbmalmeimbaaDoor
open Go.RowKit
set_option maxRecDepth 100000

theorem bytes_beq (a b : ByteArray) : (a.toList == b.toList) = decide (a = b) := by
  rw [ByteArray.toList_eq, ByteArray.toList_eq]
  by_cases h : a = b
  · subst h; simp
  · rw [decide_eq_false h]
    refine beq_eq_false_iff_ne.2 fun e => h ?_
    obtain ⟨⟨l⟩⟩ := a
    obtain ⟨⟨m⟩⟩ := b
    simp only at e
    subst e
    rfl
theorem findIdx_at {α : Type} {p : α → Bool} {l : List α} {k : Nat} {t : α} (h : l[k]? = some t) (hn : ∀ x ∈ l.take k, p x = false) (hp : p t = true) : l.findIdx? p = some k := by
  obtain ⟨hk, e⟩ := List.getElem?_eq_some_iff.1 h
  rw [List.findIdx?_eq_some_iff_getElem]
  refine ⟨hk, by rw [e]; exact hp, fun j hj => ?_⟩
  rw [hn l[j] (List.mem_iff_getElem.2 ⟨j, by rw [List.length_take]; omega, by simp⟩)]
  exact Bool.false_ne_true
theorem none_next {α : Type} {p : α → Bool} {l : List α} {k : Nat} {t : α} (h : l[k]? = some t) (hn : ∀ x ∈ l.take k, p x = false) (hp : p t = false) : ∀ x ∈ l.take (k + 1), p x = false := by
  obtain ⟨hk, e⟩ := List.getElem?_eq_some_iff.1 h
  rw [List.take_succ_eq_append_getElem hk, e]
  intro x hx
  rcases List.mem_append.1 hx with h1 | h1
  · exact hn x h1
  · simp at h1; rw [h1]; exact hp
def optI : Option Nat → Int
  | some i => i
  | none => -1
def isN (s : ByteArray) (t : Nd) : Bool := decide (t.name = s)

theorem sect1_any {t : Nd} {vl vn : Value} {gt : Nat} {s : ByteArray} {w : World} (hb : w.cell? ⟨gt, 1, none⟩ = some (.string s)) {q : Bool} (hq : isN s t = q) :
    Calls Tryd.prog 64 #[.agg (ncA t vl vn), .pointer (some ⟨gt, 0, none⟩)] w (Ret (.bool q) w) := by
  have hlt : gt < w.heap.size := block_lt_of_cell hb
  have hq' : (t.name.toList == s.toList) = q := by rw [bytes_beq]; exact hq
  unfold ncA
  generalize t.name = nm at *
  clear hq
  go_enter Tryd.func64, Tryd.ntmps64
  go_wp2_with fail
  go_ret
  exact ⟨rfl, (Below.refl _ _).al _⟩

set_option maxHeartbeats 4000000 in
theorem index_name {A : Option Addr} {c gt : Nat} {l : List Nd} {s : ByteArray} {S : Nat → Prop} {w : World} (hr : NL w S (.slice A l.length c) l) (hl : l.length ≤ 1000000) (hb : w.cell? ⟨gt, 1, none⟩ = some (.string s)) {i : Int} (hi : optI (l.findIdx? (isN s)) = i) :
    Calls Tryd.prog 46 #[.slice A l.length c, .func (.func 64) #[] #[.pointer (some ⟨gt, 0, none⟩)]] w (Ret (.int .i64 i) w) := by
  have HR := Lib.hid hr
  have HI := Lib.hid hi
  have HCB := Lib.hid hb
  have hlt0 : gt < w.heap.size := block_lt_of_cell hb
  clear hr hi hb
  go_enter Tryd.func46, Tryd.ntmps46
  go_wp2_with fail
  go_loopw [8] (fun v wr => ∃ k : Nat, k ≤ l.length ∧ v = .int .i64 (k : Int) ∧ (∀ x ∈ l.take k, isN s x = false) ∧ Below w.heap.size w wr) (fun v _ => l.length - (intOf v).toNat)
  case atStart => exact ⟨0, by omega, rfl, by simp, Below.refl _ _⟩
  case round =>
    obtain ⟨k, hk, rfl, hx, hbw⟩ := hrel
    have HX := Lib.hid hx
    have HB := Lib.hid hbw
    clear hx hbw
    by_cases hlt : k < l.length
    · have j0 : (k : Int) < (l.length : Int) := by omega
      have j1 : (0 : Int) ≤ (k : Int) := by omega
      obtain ⟨ad, t, vl, vn, rfl, ht, _, had, h6, _, _⟩ := (HR.out.up HB.out).at_ hlt
      have HT := Lib.hid ht
      have HC1 := Lib.hid (show wr.cell? ⟨gt, 1, none⟩ = some (.string s) from (HB.out.cell (p := ⟨gt, 1, none⟩) hlt0).trans HCB.out)
      obtain ⟨a0, a1, a2, a3, a4, a5⟩ := h6
      clear ht
      obtain ⟨q, hq⟩ : ∃ q, isN s t = q := ⟨_, rfl⟩
      have HQ := Lib.hid (sect1_any (vl := vl) (vn := vn) HC1.out hq)
      unfold ncA at HQ
      cases q with
      | false =>
        have HN := Lib.hid (none_next HT.out HX.out hq)
        clear hq
        go_wp2_with fail
        refine HQ.out.mono ?_
        rintro e w5 ⟨rfl, hb5⟩
        have HB5 := Lib.hid (HB.out.next hb5)
        clear hb5 a0 a1 a2 a3 a4 a5
        go_wp2_with fail
        go_roundw
        case rel => exact ⟨k + 1, by omega, by go_num, HN.out, HB5.out⟩
        case measure => simp [intOf]; omega
      | true =>
        have HE := Lib.hid (show i = (k : Int) by rw [← HI.out, findIdx_at HT.out HX.out hq]; rfl)
        clear hq
        go_wp2_with fail
        refine HQ.out.mono ?_
        rintro e w5 ⟨rfl, hb5⟩
        have HB5 := Lib.hid (HB.out.next hb5)
        clear hb5 a0 a1 a2 a3 a4 a5
        go_wp2_with fail
        go_ret
        exact ⟨by rw [HE.out]; rfl, HB5.out⟩
    · obtain rfl : k = l.length := by omega
      have HE := Lib.hid (show i = -1 by rw [← HI.out, List.findIdx?_eq_none_iff.2 (by have := HX.out; rw [List.take_length] at this; exact this)]; rfl)
      go_wp2_with fail
      go_ret
      exact ⟨by rw [HE.out]; rfl, HB.out⟩

theorem optI_any {p : Nd → Bool} {l : List Nd} : decide (0 ≤ optI (l.findIdx? p)) = l.any p := by
  cases h : l.findIdx? p with
  | none =>
    rw [List.findIdx?_eq_none_iff] at h
    rw [show optI none = -1 from rfl]
    have : l.any p = false := by rw [List.any_eq_false]; intro x hx; rw [h x hx]; decide
    rw [this]; rfl
  | some i =>
    obtain ⟨hi, hp, _⟩ := List.findIdx?_eq_some_iff_getElem.1 h
    rw [show optI (some i) = (i : Int) from rfl]
    have : l.any p = true := List.any_eq_true.2 ⟨l[i], List.getElem_mem hi, hp⟩
    rw [this]
    exact decide_eq_true (by omega)
set_option maxHeartbeats 4000000 in
theorem contains_name {A : Option Addr} {c gt : Nat} {l : List Nd} {s : ByteArray} {S : Nat → Prop} {w : World} (hr : NL w S (.slice A l.length c) l) (hl : l.length ≤ 1000000) (hb : w.cell? ⟨gt, 1, none⟩ = some (.string s)) {q : Bool} (hq : l.any (isN s) = q) :
    Calls Tryd.prog 63 #[.slice A l.length c, .func (.func 64) #[] #[.pointer (some ⟨gt, 0, none⟩)]] w (Ret (.bool q) w) := by
  have h := @optI_any (isN s) l
  rw [hq] at h
  have HI := Lib.hid (index_name hr hl hb rfl)
  generalize optI (l.findIdx? (isN s)) = i at *
  clear hr hb hq
  go_enter Tryd.func63, Tryd.ntmps63
  go_wp2_with fail
  refine HI.out.mono ?_
  rintro e w5 ⟨rfl, hb5⟩
  go_wp2_with fail
  go_ret
  exact ⟨by first | rfl | (rw [h]), hb5⟩
end Go.Proofs.YtfmdbmalmeimbaaDoor
