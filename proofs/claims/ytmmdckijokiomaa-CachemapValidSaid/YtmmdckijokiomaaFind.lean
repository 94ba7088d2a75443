/- find and least. -/
import Derived.Test.YtmmdckijokiomaaRefV
namespace Go.Proofs.Ytmmdckijokiomaa
open Go.RowKit

/-- an index, or -1 -/
def optI : Option Nat → Int
  | some i => i
  | none => -1
def isB (b : Int) (t : Sl) : Bool := t.valid && decide (t.block = b)
def findI (l : List Sl) (b : Int) : Int := optI (l.findIdx? (isB b))
theorem findIdx_at {α : Type} {p : α → Bool} {l : List α} {k : Nat} {t : α} (h : l[k]? = some t) (hn : ∀ x ∈ l.take k, p x = false) (hp : p t = true) : l.findIdx? p = some k := by
  obtain ⟨hk, e⟩ := List.getElem?_eq_some_iff.1 h
  rw [List.findIdx?_eq_some_iff_getElem]
  refine ⟨hk, by rw [e]; exact hp, fun j hj => ?_⟩
  rw [hn l[j] (List.mem_iff_getElem.2 ⟨j, by rw [List.length_take]; omega, by simp⟩)]
  exact Bool.false_ne_true
theorem findIdx_none {α : Type} {p : α → Bool} {l : List α} (hn : ∀ x ∈ l, p x = false) : l.findIdx? p = none := by
  rw [List.findIdx?_eq_none_iff]
  exact hn
theorem none_next {α : Type} {p : α → Bool} {l : List α} {k : Nat} {t : α} (h : l[k]? = some t) (hn : ∀ x ∈ l.take k, p x = false) (hp : p t = false) : ∀ x ∈ l.take (k + 1), p x = false := by
  obtain ⟨hk, e⟩ := List.getElem?_eq_some_iff.1 h
  rw [List.take_succ_eq_append_getElem hk, e]
  intro x hx
  rcases List.mem_append.1 hx with h1 | h1
  · exact hn x h1
  · simp at h1; rw [h1]; exact hp

set_option maxRecDepth 100000 in
theorem find1_any {t : Sl} {gb : Nat} {b : Int} {w : World} (hb : w.cell? ⟨gb, 0, none⟩ = some (.int .i64 b)) {q : Bool} (hq : isB b t = q) :
    Calls Try.prog 56 #[.agg #[.bool t.valid, .bool t.dirty, .int .i64 t.block, .int .i64 t.stamp], .pointer (some ⟨gb, 0, none⟩)] w (Ret (.bool q) w) := by
  have hlt : gb < w.heap.size := block_lt_of_cell hb
  obtain ⟨va, di, bl, sp⟩ := t
  unfold isB at hq
  simp only at hq ⊢
  cases va with
  | false =>
    obtain rfl : q = false := by rw [← hq]; rfl
    clear hq
    go_enter Try.func56, Try.ntmps56
    go_wp2_with fail
    go_ret
    exact ⟨rfl, (Below.refl _ _).al _⟩
  | true =>
    by_cases h : bl = b
    · subst h
      obtain rfl : q = true := by rw [← hq]; simp
      clear hq
      go_enter Try.func56, Try.ntmps56
      go_wp2_with fail
      go_ret
      exact ⟨rfl, (Below.refl _ _).al _⟩
    · obtain rfl : q = false := by rw [← hq]; simp [h]
      have h1 : (bl == b) = false := beq_eq_false_iff_ne.2 h
      clear hq h
      go_enter Try.func56, Try.ntmps56
      go_wp2_with fail
      go_ret
      exact ⟨rfl, (Below.refl _ _).al _⟩

set_option maxRecDepth 100000 in
set_option maxHeartbeats 4000000 in
theorem index_find {A : Option Addr} {c gb : Nat} {l : List Sl} {b : Int} {w : World} (hr : SRow w w.heap.size A l) (hl : l.length ≤ 1000000) (hb : w.cell? ⟨gb, 0, none⟩ = some (.int .i64 b)) {i : Int} (hi : findI l b = i) :
    Calls Try.prog 43 #[.slice A l.length c, .func (.func 56) #[] #[.pointer (some ⟨gb, 0, none⟩)]] w (Ret (.int .i64 i) w) := by
  have HR := Lib.hid hr
  have HI := Lib.hid hi
  have HCB := Lib.hid hb
  have hlt0 : gb < w.heap.size := block_lt_of_cell hb
  clear hr hi hb
  go_enter Try.func43, Try.ntmps43
  go_wp2_with fail
  go_loopw [8] (fun v wr => ∃ k : Nat, k ≤ l.length ∧ v = .int .i64 (k : Int) ∧ (∀ x ∈ l.take k, isB b x = false) ∧ Below w.heap.size w wr) (fun v _ => l.length - (intOf v).toNat)
  case atStart => exact ⟨0, by omega, rfl, by simp, Below.refl _ _⟩
  case round =>
    obtain ⟨k, hk, rfl, hx, hbw⟩ := hrel
    have HX := Lib.hid hx
    have HB := Lib.hid hbw
    clear hx hbw
    by_cases hlt : k < l.length
    · have j0 : (k : Int) < (l.length : Int) := by omega
      obtain ⟨g, t, rfl, hg, ht, hf⟩ := (HR.out.below HB.out (Nat.le_refl _)).at_ hlt
      have HT := Lib.hid ht
      have HC1 := Lib.hid (show wr.cell? ⟨gb, 0, none⟩ = some (.int .i64 b) from (HB.out.cell (p := ⟨gb, 0, none⟩) hlt0).trans HCB.out)
      obtain ⟨a0, a1, a2, a3⟩ := hf
      clear ht
      cases hq : isB b t with
      | false =>
        have HQ := Lib.hid hq
        have HN := Lib.hid (none_next HT.out HX.out hq)
        clear hq
        go_wp2_with fail
        refine (find1_any HC1.out HQ.out).mono ?_
        rintro e w5 ⟨rfl, hb5⟩
        have HB5 := Lib.hid (HB.out.next hb5)
        clear hb5 a0 a1 a2 a3
        go_wp2_with fail
        go_roundw
        case rel => exact ⟨k + 1, by omega, by go_num, HN.out, HB5.out⟩
        case measure => simp [intOf]; omega
      | true =>
        have HQ := Lib.hid hq
        have HE := Lib.hid (show i = (k : Int) by rw [← HI.out]; unfold findI; rw [findIdx_at HT.out HX.out hq]; rfl)
        clear hq
        go_wp2_with fail
        refine (find1_any HC1.out HQ.out).mono ?_
        rintro e w5 ⟨rfl, hb5⟩
        have HB5 := Lib.hid (HB.out.next hb5)
        clear hb5 a0 a1 a2 a3
        go_wp2_with fail
        go_ret
        exact ⟨by rw [HE.out]; rfl, HB5.out⟩
    · obtain rfl : k = l.length := by omega
      have HE := Lib.hid (show i = -1 by rw [← HI.out]; unfold findI; rw [findIdx_none (by have := HX.out; rw [List.take_length] at this; exact this)]; rfl)
      go_wp2_with fail
      go_ret
      exact ⟨by rw [HE.out]; rfl, HB.out⟩

set_option maxRecDepth 100000 in
set_option maxHeartbeats 4000000 in
theorem pfind_any {st : St} {a bb : Value} {b : Int} {w : World} (h : SV w w.heap.size st a bb) (hl : st.slots.length ≤ 1000000) {i : Int} (hi : findI st.slots b = i) :
    Calls Try.prog 39 #[.agg #[a, .int .i64 st.clock, bb], .int .i64 b] w (Ret (.int .i64 i) w) := by
  obtain ⟨slots, clock, missed⟩ := st
  obtain ⟨⟨A1, c1, e1, hs1, _⟩, ⟨A2, c2, e2, hr2, _⟩⟩ := h
  subst e1 e2
  simp only at hs1 hr2 hi hl ⊢
  have hb2 := ((Below.refl w.heap.size w).al (.cells #[.slice A1 slots.length c1, .int .i64 clock, .slice A2 missed.length c2] 25)).al (.cells #[.int .i64 b] 3)
  have HS := Lib.hid (hs1.up hb2)
  have HI := Lib.hid hi
  have HB := Lib.hid hb2
  have HC := Lib.hid (show (((w.alloc (.cells #[.slice A1 slots.length c1, .int .i64 clock, .slice A2 missed.length c2] 25)).alloc (.cells #[.int .i64 b] 3))).cell? ⟨w.heap.size + 1, 0, none⟩ = some (.int .i64 b) by
    have h := Blk.new (w.alloc (.cells #[.slice A1 slots.length c1, .int .i64 clock, .slice A2 missed.length c2] 25)) 3 #[.int .i64 b]
    rw [show (w.alloc (.cells #[.slice A1 slots.length c1, .int .i64 clock, .slice A2 missed.length c2] 25)).heap.size = w.heap.size + 1 by simp] at h
    rw [h.cell]; rfl)
  clear hs1 hr2 hi hb2
  go_enter Try.func39, Try.ntmps39
  go_wp2_with fail
  refine (index_find HS.out hl HC.out HI.out).mono ?_
  rintro e w5 ⟨rfl, hb5⟩
  have HB5 := Lib.hid (HB.out.next hb5)
  clear hb5
  go_wp2_with fail
  go_ret
  exact ⟨rfl, HB5.out⟩

theorem valid_head2 {st : St} (h : validB st = true) : headB st = true := by
  unfold validB at h
  rw [Bool.and_eq_true] at h
  exact h.1
theorem valid_len {st : St} (h : validB st = true) : st.slots.length ≤ 1000000 := by
  have := head_iff.1 (valid_head2 h)
  omega
set_option maxRecDepth 100000 in
set_option maxHeartbeats 4000000 in
theorem find_any {st : St} {a bb : Value} {b : Int} {w : World} (h : SV w w.heap.size st a bb) :
    Calls Try.prog 18 #[.agg #[a, .int .i64 st.clock, bb], .int .i64 b] w (Ret (.int .i64 (if validB st = true then findI st.slots b else -1)) w) := by
  have hbx := (Below.refl w.heap.size w).al (.cells #[a, .int .i64 st.clock, bb] 25)
  have hval := valid_any (h.up hbx)
  have hu := h.up hbx
  have HU := Lib.hid hu
  have HB0 := Lib.hid hbx
  unfold validE at hval
  cases hv : validB st with
  | false =>
    rw [hv] at hval
    have HV := Lib.hid (show Calls Try.prog 13 _ _ (Ret (.int .i64 2) _) from hval)
    obtain ⟨slots, clock, missed⟩ := st
    obtain ⟨⟨A1, c1, e1, hs1, _⟩, ⟨A2, c2, e2, hr2, _⟩⟩ := h
    subst e1 e2
    clear hval hv hbx hu hs1 hr2
    go_enter Try.func18, Try.ntmps18
    go_wp2_with fail
    refine HV.out.mono ?_
    rintro e w5 ⟨rfl, hb5⟩
    have HB5 := Lib.hid (HB0.out.next hb5)
    clear hb5
    go_wp2_with fail
    go_ret
    exact ⟨rfl, HB5.out⟩
  | true =>
    rw [hv] at hval
    have HV := Lib.hid (show Calls Try.prog 13 _ _ (Ret (.int .i64 0) _) from hval)
    have hlen := valid_len hv
    obtain ⟨slots, clock, missed⟩ := st
    obtain ⟨⟨A1, c1, e1, hs1, _⟩, ⟨A2, c2, e2, hr2, _⟩⟩ := h
    subst e1 e2
    have HBK := Lib.hid (Blk.new w 25 #[.slice A1 slots.length c1, .int .i64 clock, .slice A2 missed.length c2])
    clear hval hv hbx hu hs1 hr2
    go_enter Try.func18, Try.ntmps18
    go_wp2_with fail
    refine HV.out.mono ?_
    rintro e w5 ⟨rfl, hb5⟩
    have HB5 := Lib.hid (HB0.out.next hb5)
    have hk5 := HBK.out.below hb5 (by simp)
    have d0 : w5.cell? ⟨w.heap.size, 0, none⟩ = some (.slice A1 slots.length c1) := by rw [hk5.cell]; rfl
    have d1 : w5.cell? ⟨w.heap.size, 1, none⟩ = some (.int .i64 clock) := by rw [hk5.cell]; rfl
    have d2 : w5.cell? ⟨w.heap.size, 2, none⟩ = some (.slice A2 missed.length c2) := by rw [hk5.cell]; rfl
    have HU5 := Lib.hid (HU.out.up hb5)
    clear hb5 hk5
    go_wp2_with fail
    refine (pfind_any (b := b) HU5.out (by exact hlen) rfl).mono ?_
    rintro e w6 ⟨rfl, hb6⟩
    have HB6 := Lib.hid (HB5.out.next hb6)
    clear hb6
    go_wp2_with fail
    go_ret
    exact ⟨rfl, HB6.out⟩
end Go.Proofs.Ytmmdckijokiomaa
