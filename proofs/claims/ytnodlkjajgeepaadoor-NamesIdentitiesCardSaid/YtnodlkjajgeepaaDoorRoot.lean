/- Parent and Root of the program and of the reference. -/
import Derived.Test.YtnodlkjajgeepaaDoorLeg2
namespace Go.Proofs.YtnodlkjajgeepaaDoor
open Go.RowKit

def parV (s : ByteArray) : Value := if hidB s = true then rcutV s else .tuple #[.string ⟨#[]⟩, .bool false]
def baseN : Nat → ByteArray → ByteArray
  | 0, s => s
  | f + 1, s => match cutF s with
    | none => s
    | some x => baseN f x
def baseF (s : ByteArray) : ByteArray := baseN s.size s
def rootF (s : ByteArray) : ByteArray := if hidB s = true then baseF s else s
theorem base_strips {s b : ByteArray} {n : Nat} (h : Strips s n b) (hb : cutF b = none) : ∀ f, n ≤ f → baseN f s = b := by
  induction h with
  | none_ s =>
    intro f _
    cases f with
    | zero => rfl
    | succ f => show (match cutF s with | none => s | some x => baseN f x) = s; rw [hb]
  | @more s x t n hc _ ih =>
    intro f hf
    cases f with
    | zero => omega
    | succ f => show (match cutF s with | none => s | some x => baseN f x) = t; rw [hc]; exact ih hb f (by omega)
theorem base_is {s b : ByteArray} {n : Nat} (h : Strips s n b) (hb : cutF b = none) : baseF s = b := base_strips h hb s.size (by have := h.size; omega)
theorem hid_has {s : ByteArray} (h : hidB s = true) : ∃ x, cutF s = some x := by
  cases hc : cutF s with
  | none => rw [hid_none hc] at h; cases h
  | some x => exact ⟨x, rfl⟩

set_option maxHeartbeats 4000000 in
theorem parent_any (s : ByteArray) (w : World) (hs : s.size ≤ 1000000) (hS : Suf w) :
    Calls Tryd.prog 17 #[.string s] w (Ret (parV s) w) := by
  have HH := Lib.hid (hid_any s w (by omega) hS)
  have HS := Lib.hid hS
  clear hS
  go_enter Tryd.func17, Tryd.ntmps17
  go_wp2_with fail
  refine HH.out.mono ?_
  rintro e w1 ⟨rfl, hb1⟩
  have HB1 := Lib.hid hb1
  have HC := Lib.hid (cut_any s w1 (by omega) (HS.out.below hb1 HS.out.pos))
  clear hb1
  cases hh : hidB s with
  | false =>
    have HV := Lib.hid (show parV s = .tuple #[.string ⟨#[]⟩, .bool false] by unfold parV; rw [if_neg (by rw [hh]; exact Bool.false_ne_true)])
    clear hh
    go_wp2_with fail
    go_ret2
    exact ⟨by rw [HV.out]; rfl, HB1.out⟩
  | true =>
    obtain ⟨x, hx⟩ := hid_has hh
    have HV := Lib.hid (show parV s = .tuple #[.string x, .bool true] by unfold parV; rw [if_pos hh, rcutV_some hx])
    have HX := Lib.hid hx
    clear hh hx
    go_wp2_with fail
    refine HC.out.mono ?_
    rintro e w2 ⟨r, rfl, hr, rfl⟩
    obtain rfl := hr x HX.out
    rw [HX.out]
    clear hr
    go_wp2_with fail
    go_ret2
    exact ⟨by rw [HV.out]; rfl, HB1.out⟩

set_option maxHeartbeats 4000000 in
theorem rparent_any (s : ByteArray) (w : World) (hs : s.size ≤ 1000000) :
    Calls Tryd.prog 35 #[.string s] w (Ret (parV s) w) := by
  have HH := Lib.hid (rhid_any s w (by omega))
  go_enter Tryd.func35, Tryd.ntmps35
  go_wp2_with fail
  refine HH.out.mono ?_
  rintro e w1 ⟨rfl, hb1⟩
  have HB1 := Lib.hid hb1
  have HC := Lib.hid (rcut_any s w1 (by omega))
  clear hb1
  cases hh : hidB s with
  | false =>
    have HV := Lib.hid (show parV s = .tuple #[.string ⟨#[]⟩, .bool false] by unfold parV; rw [if_neg (by rw [hh]; exact Bool.false_ne_true)])
    clear hh
    go_wp2_with fail
    go_ret2
    exact ⟨by rw [HV.out]; rfl, HB1.out⟩
  | true =>
    obtain ⟨x, hx⟩ := hid_has hh
    have HV := Lib.hid (show parV s = .tuple #[.string x, .bool true] by unfold parV; rw [if_pos hh, rcutV_some hx])
    rw [rcutV_some hx] at HC
    clear hh hx
    go_wp2_with fail
    refine HC.out.mono ?_
    rintro e w2 ⟨rfl, hb2⟩
    have HB2 := Lib.hid (HB1.out.next hb2)
    clear hb2
    go_wp2_with fail
    go_ret2
    exact ⟨by rw [HV.out]; rfl, HB2.out⟩

set_option maxHeartbeats 4000000 in
theorem root_any (s : ByteArray) (w : World) (hs : s.size ≤ 1000000) (hS : Suf w) :
    Calls Tryd.prog 18 #[.string s] w (Ret (.string (rootF s)) w) := by
  have HH := Lib.hid (hid_any s w (by omega) hS)
  have HS := Lib.hid hS
  clear hS
  go_enter Tryd.func18, Tryd.ntmps18
  go_wp2_with fail
  refine HH.out.mono ?_
  rintro e w1 ⟨rfl, hb1⟩
  have HB1 := Lib.hid hb1
  have HC := Lib.hid (base_any s w1 (by omega) (HS.out.below hb1 HS.out.pos))
  clear hb1
  cases hh : hidB s with
  | false =>
    have HV := Lib.hid (show rootF s = s by unfold rootF; rw [if_neg (by rw [hh]; exact Bool.false_ne_true)])
    clear hh
    go_wp2_with fail
    go_ret
    exact ⟨by rw [HV.out]; rfl, HB1.out⟩
  | true =>
    have HV := Lib.hid (show rootF s = baseF s by unfold rootF; rw [if_pos hh])
    clear hh
    go_wp2_with fail
    refine HC.out.mono ?_
    rintro e w2 ⟨b, n, rfl, hst, hcn, rfl⟩
    have HE := Lib.hid (base_is hst hcn)
    clear hst hcn
    go_wp2_with fail
    go_ret
    exact ⟨by rw [HV.out, HE.out]; rfl, HB1.out⟩

theorem root_end {s t : ByteArray} {n : Nat} (h : Strips s n t) (hn : n = 0 ∨ (hidB s = true ∧ (visB t = true ∨ hidB t = true))) (ht : hidB t = false) : rootF s = t := by
  cases h with
  | none_ _ => unfold rootF; rw [if_neg (by rw [ht]; exact Bool.false_ne_true)]
  | more hc hst =>
    rcases hn with hn | ⟨h1, h2⟩
    · cases hn
    · have hv : visB t = true := by
        rcases h2 with h2 | h2
        · exact h2
        · rw [ht] at h2; cases h2
      have hcn : cutF t = none := by
        cases hx : cutF t with
        | none => rfl
        | some y => rw [vis_cut hx] at hv; cases hv
      unfold rootF
      rw [if_pos h1]
      exact base_is (.more hc hst) hcn

set_option maxRecDepth 100000 in
set_option maxHeartbeats 4000000 in
theorem rroot_any (s : ByteArray) (w : World) (hs : s.size ≤ 1000000) :
    Calls Tryd.prog 42 #[.string s] w (Ret (.string (rootF s)) w) := by
  go_enter Tryd.func42, Tryd.ntmps42
  go_wp2_with fail
  go_loopw [0] (fun t wr => ∃ (b : ByteArray) (n : Nat), t = .string b ∧ Strips s n b ∧ (n = 0 ∨ (hidB s = true ∧ (visB b = true ∨ hidB b = true))) ∧ Below w.heap.size w wr) (fun t _ => match t with | .string b => b.size | _ => 0)
  case atStart => exact ⟨s, 0, rfl, .none_ s, .inl rfl, Below.refl _ _⟩
  case round =>
    obtain ⟨b, n, rfl, hst, hor, hb⟩ := hrel
    have hz := hst.size
    have HST := Lib.hid hst
    have HOR := Lib.hid hor
    have HB := Lib.hid hb
    have HC := Lib.hid (rhid_any b wr (by omega))
    clear hst hor hb
    go_wp2_with fail
    refine HC.out.mono ?_
    rintro e w1 ⟨rfl, hb1⟩
    have HB1 := Lib.hid (HB.out.trans (hb1.mono HB.out.size))
    clear hb1
    cases hh : hidB b with
    | false =>
      have HV := Lib.hid (root_end HST.out HOR.out hh)
      clear hh
      go_wp2_with fail
      go_ret
      exact ⟨by rw [HV.out]; rfl, HB1.out⟩
    | true =>
      obtain ⟨x, hx⟩ := hid_has hh
      have HX := Lib.hid (rcut_any b w1 (by omega))
      rw [rcutV_some hx] at HX
      have HLT := Lib.hid (cutF_lt hx)
      have HL := Lib.hid (HST.out.last hx)
      have HO : Hid (hidB s = true ∧ (visB x = true ∨ hidB x = true)) := Lib.hid ⟨by
        rcases HOR.out with h | h
        · subst h
          have := HST.out
          cases this
          exact hh
        · exact h.1, by
        rw [hid_some hx] at hh
        rw [Bool.and_eq_true, Bool.or_eq_true] at hh
        exact hh.2⟩
      clear hh hx
      go_wp2_with fail
      refine HX.out.mono ?_
      rintro e w2 ⟨rfl, hb2⟩
      have HB2 := Lib.hid (HB1.out.trans (hb2.mono HB1.out.size))
      clear hb2
      go_wp2_with fail
      go_roundw
      case rel => exact ⟨x, n + 1, rfl, HL.out, .inr HO.out, HB2.out⟩
      case measure => have := HLT.out; simp; omega
end Go.Proofs.YtnodlkjajgeepaaDoor
