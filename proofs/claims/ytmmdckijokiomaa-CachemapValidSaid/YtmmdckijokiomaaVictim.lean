/- Victim, Oldest and Find of both packages: plain, and the walks. -/
import Derived.Test.YtmmdckijokiomaaLeastR
import Derived.Test.YtmmdckijokiomaaSlotE
namespace Go.Proofs.Ytmmdckijokiomaa
open Go.RowKit

def isV (t : Sl) : Bool := !t.valid
def vIdx (l : List Sl) : Int := match l.findIdx? isV with
  | some i => (i : Int)
  | none => if 0 ≤ leastI pClean l then leastI pClean l else leastI pAll l
def victimV (st : St) : Value := if validB st = true then .tuple #[.int .i64 (vIdx st.slots), .int .i64 0] else .tuple #[.int .i64 0, .int .i64 2]
def oldestI (st : St) : Int := if validB st = true then leastI pDirty st.slots else -1
def findB (st : St) (b : Int) : Int := if validB st = true then findI st.slots b else -1
theorem least_isSome {p : Sl → Bool} {l : List Sl} {t : Sl} {j : Nat} (h : l[j]? = some t) (hp : p t = true) : ∀ i, j < i → leastK p l i ≠ none := by
  intro i
  induction i with
  | zero => intro h; omega
  | succ i ih =>
    intro hj
    by_cases hji : j = i
    · subst hji
      cases hk : leastK p l j with
      | none => rw [least_take h (by rw [hp, hk]; rfl)]; simp
      | some k =>
        cases hc : (p t && lessB l (leastK p l j) t) with
        | true => rw [least_take h hc]; simp
        | false => rw [least_keep h hc, hk]; simp
    · have := ih (by omega)
      cases ht : l[i]? with
      | none =>
        conv => lhs; unfold leastK
        rw [ht]; exact this
      | some u =>
        cases hc : (p u && lessB l (leastK p l i) u) with
        | true => rw [least_take ht hc]; simp
        | false => rw [least_keep ht hc]; exact this
theorem leastI_neg {p : Sl → Bool} {l : List Sl} (h : leastI p l < 0) : ∀ t ∈ l, p t = false := by
  intro t ht
  obtain ⟨j, hj, e⟩ := List.mem_iff_getElem.1 ht
  cases hp : p t with
  | false => rfl
  | true =>
    exfalso
    have := least_isSome (l := l) (j := j) (t := t) (by rw [List.getElem?_eq_getElem hj, e]) hp l.length hj
    unfold leastI at h
    cases hk : leastK p l l.length with
    | none => exact this hk
    | some k => rw [hk] at h; simp [optI] at h; omega
/-- the slots of a valid state -/
theorem slotsV_mem {clock : Int} : ∀ {l : List Sl} {acc acc' : List Int}, slotsV clock l acc = some acc' → ∀ t ∈ l, t.valid = true ∨ t = sz := by
  intro l
  induction l with
  | nil => intro acc acc' _ t ht; simp at ht
  | cons x l ih =>
    intro acc acc' h t ht
    unfold slotsV at h
    split at h
    · rename_i hv
      split at h
      · rcases List.mem_cons.1 ht with rfl | ht
        · exact .inl hv
        · exact ih h t ht
      · cases h
    · split at h
      · rename_i hz
        rcases List.mem_cons.1 ht with rfl | ht
        · exact .inr hz
        · exact ih h t ht
      · cases h
theorem valid_slots {st : St} (h : validB st = true) : ∀ t ∈ st.slots, t.valid = true ∨ t = sz := by
  unfold validB at h
  rw [Bool.and_eq_true] at h
  cases hs : slotsV st.clock st.slots [] with
  | none => rw [hs] at h; simp at h
  | some acc => exact slotsV_mem hs
theorem dirty_valid {st : St} (h : validB st = true) : ∀ t ∈ st.slots, rDirty true t = pDirty t := by
  intro t ht
  rcases valid_slots h t ht with hv | rfl
  · unfold rDirty pDirty; rw [hv]; simp
  · rfl

set_option maxRecDepth 100000 in
theorem vkind_any {t : Sl} {w : World} {q : Bool} (hq : isV t = q) :
    Calls Try.prog 44 #[.agg #[.bool t.valid, .bool t.dirty, .int .i64 t.block, .int .i64 t.stamp]] w (Ret (.bool q) w) := by
  subst hq
  obtain ⟨va, di, bl, sp⟩ := t
  cases va with
  | false =>
    go_enter Try.func44, Try.ntmps44
    go_wp2_with fail
    go_ret
    exact ⟨rfl, (Below.refl _ _).al _⟩
  | true =>
    go_enter Try.func44, Try.ntmps44
    go_wp2_with fail
    go_ret
    exact ⟨rfl, (Below.refl _ _).al _⟩
set_option maxRecDepth 100000 in
set_option maxHeartbeats 4000000 in
theorem index_v {A : Option Addr} {c : Nat} {l : List Sl} {w : World} (hr : SRow w w.heap.size A l) (hl : l.length ≤ 1000000) {i : Int} (hi : optI (l.findIdx? isV) = i) :
    Calls Try.prog 43 #[.slice A l.length c, .func (.func 44) #[] #[]] w (Ret (.int .i64 i) w) := by
  have HR := Lib.hid hr
  have HI := Lib.hid hi
  clear hr hi
  go_enter Try.func43, Try.ntmps43
  go_wp2_with fail
  go_loopw [8] (fun v wr => ∃ k : Nat, k ≤ l.length ∧ v = .int .i64 (k : Int) ∧ (∀ x ∈ l.take k, isV x = false) ∧ Below w.heap.size w wr) (fun v _ => l.length - (intOf v).toNat)
  case atStart => exact ⟨0, by omega, rfl, by simp, Below.refl _ _⟩
  case round =>
    obtain ⟨k, hk, rfl, hx, hbw⟩ := hrel
    have HX := Lib.hid hx
    have HB := Lib.hid hbw
    clear hx hbw
    by_cases hlt : k < l.length
    · have j0 : (k : Int) < (l.length : Int) := by omega
      obtain ⟨g, t, rfl, hg, ht, hf⟩ := (HR.out.below HB.out (Nat.le_refl _)).at_ hlt
      have HT := Lib.hid ht
      obtain ⟨a0, a1, a2, a3⟩ := hf
      clear ht
      cases hq : isV t with
      | false =>
        have HQ := Lib.hid hq
        have HN := Lib.hid (none_next HT.out HX.out hq)
        clear hq
        go_wp2_with fail
        refine (vkind_any HQ.out).mono ?_
        rintro e w5 ⟨rfl, hb5⟩
        have HB5 := Lib.hid (HB.out.next hb5)
        clear hb5 a0 a1 a2 a3
        go_wp2_with fail
        go_roundw
        case rel => exact ⟨k + 1, by omega, by go_num, HN.out, HB5.out⟩
        case measure => simp [intOf]; omega
      | true =>
        have HQ := Lib.hid hq
        have HE := Lib.hid (show i = (k : Int) by rw [← HI.out, findIdx_at HT.out HX.out hq]; rfl)
        clear hq
        go_wp2_with fail
        refine (vkind_any HQ.out).mono ?_
        rintro e w5 ⟨rfl, hb5⟩
        have HB5 := Lib.hid (HB.out.next hb5)
        clear hb5 a0 a1 a2 a3
        go_wp2_with fail
        go_ret
        exact ⟨by rw [HE.out]; rfl, HB5.out⟩
    · obtain rfl : k = l.length := by omega
      have HE := Lib.hid (show i = -1 by rw [← HI.out, findIdx_none (by have := HX.out; rw [List.take_length] at this; exact this)]; rfl)
      go_wp2_with fail
      go_ret
      exact ⟨by rw [HE.out]; rfl, HB.out⟩
/-- a state that came in, boxed -/
structure E1 (w wx : World) (v0 v1 v2 : Value) : Prop where
  b0 : Blk wx w.heap.size 25 #[v0, v1, v2]
  bel : Below w.heap.size w wx
theorem E1.mk_ (w : World) (v0 v1 v2 : Value) : E1 w (w.alloc (.cells #[v0, v1, v2] 25)) v0 v1 v2 := ⟨Blk.new _ _ _, (Below.refl _ _).al _⟩
theorem E1.up {w wx wy : World} {v0 v1 v2 : Value} (h : E1 w wx v0 v1 v2) (hb : Below wx.heap.size wx wy) : E1 w wy v0 v1 v2 := ⟨h.b0.below hb h.b0.lt, h.bel.next hb⟩
theorem E1.c {w wx : World} {v0 v1 v2 : Value} (h : E1 w wx v0 v1 v2) : wx.cell? ⟨w.heap.size, 0, none⟩ = some v0 ∧ wx.cell? ⟨w.heap.size, 1, none⟩ = some v1 ∧ wx.cell? ⟨w.heap.size, 2, none⟩ = some v2 :=
  ⟨by rw [h.b0.cell]; rfl, by rw [h.b0.cell]; rfl, by rw [h.b0.cell]; rfl⟩

set_option maxRecDepth 100000 in
set_option maxHeartbeats 4000000 in
theorem oldest_any {st : St} {a bb : Value} {w : World} (h : SV w w.heap.size st a bb) :
    Calls Try.prog 20 #[.agg #[a, .int .i64 st.clock, bb]] w (Ret (.int .i64 (oldestI st)) w) := by
  have he := E1.mk_ w a (.int .i64 st.clock) bb
  have hu := h.up he.bel
  have HV := Lib.hid (valid_any hu)
  have HE := Lib.hid he
  have HU := Lib.hid hu
  cases hv : validB st with
  | false =>
    rw [valid2 hv] at HV
    rw [show oldestI st = -1 by unfold oldestI; rw [hv]; rfl]
    obtain ⟨slots, clock, missed⟩ := st
    obtain ⟨⟨A1, c1, e1, hs1, _⟩, ⟨A2, c2, e2, hr2, _⟩⟩ := h
    subst e1 e2
    clear he hu hv hs1 hr2
    go_enter Try.func20, Try.ntmps20
    go_wp2_with fail
    refine HV.out.mono ?_
    rintro e w5 ⟨rfl, hb5⟩
    have HE5 := Lib.hid (HE.out.up hb5)
    clear hb5
    go_wp2_with fail
    go_ret
    exact ⟨rfl, HE5.out.bel⟩
  | true =>
    rw [valid0 hv] at HV
    rw [show oldestI st = leastI pDirty st.slots by unfold oldestI; rw [if_pos hv]]
    have hlen := valid_len hv
    obtain ⟨slots, clock, missed⟩ := st
    obtain ⟨⟨A1, c1, e1, hs1, _⟩, ⟨A2, c2, e2, hr2, _⟩⟩ := h
    subst e1 e2
    clear he hu hv hs1 hr2
    go_enter Try.func20, Try.ntmps20
    go_wp2_with fail
    refine HV.out.mono ?_
    rintro e w5 ⟨rfl, hb5⟩
    have HE5 := Lib.hid (HE.out.up hb5)
    have HU5 := Lib.hid (HU.out.up hb5)
    obtain ⟨x0, x1, x2⟩ := HE5.out.c
    clear hb5
    go_wp2_with fail
    refine (least_dirty HU5.out hlen rfl).mono ?_
    rintro e w6 ⟨rfl, hb6⟩
    have HE6 := Lib.hid (HE5.out.up hb6)
    clear hb6
    go_wp2_with fail
    go_ret
    exact ⟨rfl, HE6.out.bel⟩
set_option maxRecDepth 100000 in
set_option maxHeartbeats 4000000 in
theorem roldest_any {st : St} {a bb : Value} {w : World} (h : SV w w.heap.size st a bb) :
    Calls Try.prog 21 #[.agg #[a, .int .i64 st.clock, bb]] w (Ret (.int .i64 (oldestI st)) w) := by
  have he := E1.mk_ w a (.int .i64 st.clock) bb
  have hu := h.up he.bel
  have HV := Lib.hid (rvalid_any hu)
  have HE := Lib.hid he
  have HU := Lib.hid hu
  cases hv : validB st with
  | false =>
    rw [valid2 hv] at HV
    rw [show oldestI st = -1 by unfold oldestI; rw [hv]; rfl]
    obtain ⟨slots, clock, missed⟩ := st
    obtain ⟨⟨A1, c1, e1, hs1, _⟩, ⟨A2, c2, e2, hr2, _⟩⟩ := h
    subst e1 e2
    clear he hu hv hs1 hr2
    go_enter Try.func21, Try.ntmps21
    go_wp2_with fail
    refine HV.out.mono ?_
    rintro e w5 ⟨rfl, hb5⟩
    have HE5 := Lib.hid (HE.out.up hb5)
    clear hb5
    go_wp2_with fail
    go_ret
    exact ⟨rfl, HE5.out.bel⟩
  | true =>
    rw [valid0 hv] at HV
    rw [show oldestI st = leastI (rDirty true) st.slots by unfold oldestI; rw [if_pos hv]; exact (leastI_congr (dirty_valid hv)).symm]
    have hlen := valid_len hv
    obtain ⟨slots, clock, missed⟩ := st
    obtain ⟨⟨A1, c1, e1, hs1, _⟩, ⟨A2, c2, e2, hr2, _⟩⟩ := h
    subst e1 e2
    clear he hu hv hs1 hr2
    go_enter Try.func21, Try.ntmps21
    go_wp2_with fail
    refine HV.out.mono ?_
    rintro e w5 ⟨rfl, hb5⟩
    have HE5 := Lib.hid (HE.out.up hb5)
    have HU5 := Lib.hid (HU.out.up hb5)
    obtain ⟨x0, x1, x2⟩ := HE5.out.c
    clear hb5
    go_wp2_with fail
    refine (rleast_any (d := true) HU5.out hlen rfl).mono ?_
    rintro e w6 ⟨rfl, hb6⟩
    have HE6 := Lib.hid (HE5.out.up hb6)
    clear hb6
    go_wp2_with fail
    go_ret
    exact ⟨rfl, HE6.out.bel⟩
end Go.Proofs.Ytmmdckijokiomaa
