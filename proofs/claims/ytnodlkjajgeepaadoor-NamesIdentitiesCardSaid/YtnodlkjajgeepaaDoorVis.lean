/- Visible, base and Hidden of the program and of the reference. -/
import Derived.Test.YtnodlkjajgeepaaDoorName2
namespace Go.Proofs.YtnodlkjajgeepaaDoor
open Go.RowKit

def visB (s : ByteArray) : Bool := nameB s && decide (s.size ≤ 24) && !(cutF s).isSome
theorem rcutV_some {s x : ByteArray} (h : cutF s = some x) : rcutV s = .tuple #[.string x, .bool true] := by unfold rcutV; rw [h]
theorem rcutV_none {s : ByteArray} (h : cutF s = none) : rcutV s = .tuple #[.string ⟨#[]⟩, .bool false] := by unfold rcutV; rw [h]
theorem cutF_lt {s x : ByteArray} (h : cutF s = some x) : x.size + 4 ≤ s.size := by
  unfold cutF at h
  cases hf : sufs.find? (hasS s) with
  | none => rw [hf] at h; cases h
  | some p =>
    rw [hf] at h
    injection h with h
    have hp := List.find?_some hf
    have hm := List.mem_of_find?_eq_some hf
    have hsz : 4 ≤ p.size := by
      simp [sufs, parts4, legs8] at hm
      rcases hm with rfl | rfl | rfl | rfl | rfl | rfl | rfl | rfl | rfl | rfl | rfl | rfl <;> decide
    have hle : p.size ≤ s.size := by
      rcases Nat.lt_or_ge s.size p.size with h1 | h1
      · rw [hasS_long (by omega)] at hp; cases hp
      · exact h1
    rw [← h]
    unfold trimS
    rw [ByteArray.size_extract]
    omega

theorem bool_pick (a b : Bool) : (if a = true then b else false) = (a && b) := by cases a <;> rfl

theorem vis_1 {s : ByteArray} (h : nameB s = false) : visB s = false := by unfold visB; rw [h]; rfl
theorem vis_2 {s : ByteArray} (h : ¬ s.size ≤ 24) : visB s = false := by unfold visB; simp [h]
theorem vis_3 {s : ByteArray} (h1 : nameB s = true) (h2 : s.size ≤ 24) : visB s = (cutF s).isNone := by unfold visB; rw [h1]; cases cutF s <;> simp [h2]

set_option maxHeartbeats 4000000 in
theorem vis_any (s : ByteArray) (w : World) (hs : s.size ≤ 9223372036854775807) (hS : Suf w) :
    Calls Tryd.prog 14 #[.string s] w (Ret (.bool (visB s)) w) := by
  have HC := Lib.hid (cut_any s w hs hS)
  have HN := Lib.hid (name_any s w)
  clear hs hS
  go_enter Tryd.func14, Tryd.ntmps14
  go_wp2_with fail
  refine HC.out.mono ?_
  rintro e w1 ⟨r, rfl, _, rfl⟩
  go_wp2_with fail
  refine HN.out.mono ?_
  rintro e w2 ⟨rfl, hb2⟩
  have HB2 := Lib.hid hb2
  clear hb2 HC HN
  cases hn : nameB s with
  | false =>
    have HV := Lib.hid (vis_1 hn)
    clear hn
    go_wp2_with fail
    go_ret
    exact ⟨by rw [HV.out]; rfl, HB2.out⟩
  | true =>
    by_cases hz : s.size ≤ 24
    · have HV := Lib.hid (vis_3 hn hz)
      have i0 : (s.size : Int) ≤ 24 := by omega
      clear hn
      go_wp2_with fail
      go_ret
      exact ⟨by rw [HV.out]; rfl, HB2.out⟩
    · have HV := Lib.hid (vis_2 hz)
      have i0 : ¬ (s.size : Int) ≤ 24 := by omega
      clear hn
      go_wp2_with fail
      go_ret
      exact ⟨by rw [HV.out]; rfl, HB2.out⟩

theorem rcut_form (s : ByteArray) : ∃ r, rcutV s = .tuple #[.string r, .bool (cutF s).isSome] ∧ (∀ x, cutF s = some x → r = x) ∧ r.size ≤ s.size := by
  cases h : cutF s with
  | none => exact ⟨⟨#[]⟩, by rw [rcutV_none h]; rfl, fun x hx => (by cases hx), Nat.zero_le _⟩
  | some x => exact ⟨x, by rw [rcutV_some h]; rfl, fun y hy => (by injection hy), by have := cutF_lt h; omega⟩

set_option maxHeartbeats 4000000 in
theorem rvis_any (s : ByteArray) (w : World) (hs : s.size ≤ 9223372036854775807) :
    Calls Tryd.prog 38 #[.string s] w (Ret (.bool (visB s)) w) := by
  have HC := Lib.hid (rcut_any s w hs)
  obtain ⟨r, hr, _, _⟩ := rcut_form s
  rw [hr] at HC
  clear hr
  go_enter Tryd.func38, Tryd.ntmps38
  go_wp2_with fail
  refine HC.out.mono ?_
  rintro e w1 ⟨rfl, hb1⟩
  have HB2 := Lib.hid hb1
  have HN := Lib.hid (rname_any s w1 hs)
  clear hb1
  go_wp2_with fail
  refine HN.out.mono ?_
  rintro e w2 ⟨rfl, rfl⟩
  clear HC HN
  cases hn : nameB s with
  | false =>
    have HV := Lib.hid (vis_1 hn)
    clear hn
    go_wp2_with fail
    go_ret
    exact ⟨by rw [HV.out]; rfl, HB2.out⟩
  | true =>
    by_cases hz : s.size ≤ 24
    · have HV := Lib.hid (vis_3 hn hz)
      have i0 : (s.size : Int) ≤ 24 := by omega
      clear hn
      go_wp2_with fail
      go_ret
      exact ⟨by rw [HV.out]; rfl, HB2.out⟩
    · have HV := Lib.hid (vis_2 hz)
      have i0 : ¬ (s.size : Int) ≤ 24 := by omega
      clear hn
      go_wp2_with fail
      go_ret
      exact ⟨by rw [HV.out]; rfl, HB2.out⟩

/-- n suffixes behind one another have been cut from s; t is left -/
inductive Strips : ByteArray → Nat → ByteArray → Prop
  | none_ (s : ByteArray) : Strips s 0 s
  | more {s x t : ByteArray} {n : Nat} : cutF s = some x → Strips x n t → Strips s (n + 1) t
theorem Strips.last {s t x : ByteArray} {n : Nat} (h : Strips s n t) (hx : cutF t = some x) : Strips s (n + 1) x := by
  induction h with
  | none_ s => exact .more hx (.none_ x)
  | more hc _ ih => exact .more hc (ih hx)
theorem Strips.size {s t : ByteArray} {n : Nat} (h : Strips s n t) : t.size + 4 * n ≤ s.size := by
  induction h with
  | none_ s => omega
  | more hc _ ih => have := cutF_lt hc; omega

def hidN : Nat → ByteArray → Bool
  | 0, _ => false
  | f + 1, s => match cutF s with
    | none => false
    | some x => decide (s.size ≤ 40) && (visB x || hidN f x)
def hidB (s : ByteArray) : Bool := hidN s.size s
theorem hidN_more : ∀ (f : Nat) (s : ByteArray), s.size ≤ f → hidN f s = hidN s.size s := by
  intro f
  induction f using Nat.strongRecOn with
  | _ f ih =>
    intro s hs
    cases f with
    | zero => rw [show s.size = 0 by omega]
    | succ f =>
      cases hz : s.size with
      | zero =>
        show (match cutF s with | none => false | some x => decide (s.size ≤ 40) && (visB x || hidN f x)) = _
        cases hc : cutF s with
        | none => rfl
        | some x => have := cutF_lt hc; omega
      | succ m =>
        show (match cutF s with | none => false | some x => decide (s.size ≤ 40) && (visB x || hidN f x)) = (match cutF s with | none => false | some x => decide (s.size ≤ 40) && (visB x || hidN m x))
        cases hc : cutF s with
        | none => rfl
        | some x =>
          have := cutF_lt hc
          show (decide (s.size ≤ 40) && (visB x || hidN f x)) = (decide (s.size ≤ 40) && (visB x || hidN m x))
          rw [ih f (by omega) x (by omega), ih m (by omega) x (by omega)]
theorem hid_none {s : ByteArray} (h : cutF s = none) : hidB s = false := by
  unfold hidB
  cases s.size with
  | zero => rfl
  | succ m => show (match cutF s with | none => false | some x => decide (s.size ≤ 40) && (visB x || hidN m x)) = _; rw [h]
theorem hid_some {s x : ByteArray} (h : cutF s = some x) : hidB s = (decide (s.size ≤ 40) && (visB x || hidB x)) := by
  have hl := cutF_lt h
  unfold hidB
  cases hz : s.size with
  | zero => omega
  | succ m =>
    show (match cutF s with | none => false | some x => decide (s.size ≤ 40) && (visB x || hidN m x)) = _
    rw [h]
    show (decide (s.size ≤ 40) && (visB x || hidN m x)) = _
    rw [hidN_more m x (by omega), hz]
theorem vis_cut {s x : ByteArray} (h : cutF s = some x) : visB s = false := by unfold visB; rw [h]; simp
theorem hid_strips {s b : ByteArray} {n : Nat} (h : Strips s n b) (hb : cutF b = none) : hidB s = (decide (0 < n) && decide (s.size ≤ 40) && visB b) := by
  induction h with
  | none_ s => rw [hid_none hb]; rfl
  | @more s x t n hc hst ih =>
    have hl := cutF_lt hc
    rw [hid_some hc, ih hb]
    cases hst with
    | none_ _ => simp
    | more hc2 _ =>
      rw [vis_cut hc2]
      by_cases h40 : s.size ≤ 40
      · simp [h40, show x.size ≤ 40 by omega]
      · simp [h40]
theorem strips_unique {s : ByteArray} {n m : Nat} {a b : ByteArray} (h1 : Strips s n a) (ha : cutF a = none) (h2 : Strips s m b) (hb : cutF b = none) : n = m ∧ a = b := by
  induction h1 generalizing m b with
  | none_ s =>
    cases h2 with
    | none_ _ => exact ⟨rfl, rfl⟩
    | more hc _ => rw [ha] at hc; cases hc
  | more hc _ ih =>
    cases h2 with
    | none_ _ => rw [hb] at hc; cases hc
    | more hc2 h2 =>
      rw [hc] at hc2
      injection hc2 with e
      subst e
      obtain ⟨rfl, rfl⟩ := ih ha h2 hb
      exact ⟨rfl, rfl⟩

/-- the answer of base -/
def BaseRet (s : ByteArray) (w : World) (e : Ending) (w' : World) : Prop := ∃ (b : ByteArray) (n : Nat), e = .returned (.tuple #[.string b, .int .i64 n]) ∧ Strips s n b ∧ cutF b = none ∧ w = w'

set_option maxRecDepth 100000 in
set_option maxHeartbeats 4000000 in
theorem base_any (s : ByteArray) (w : World) (hs : s.size ≤ 9223372036854775807) (hS : Suf w) :
    Calls Tryd.prog 30 #[.string s] w (BaseRet s w) := by
  have H := Lib.hid (fun (t : ByteArray) (ht : t.size ≤ 9223372036854775807) => cut_any t w ht hS)
  clear hS
  go_enter Tryd.func30, Tryd.ntmps30
  go_wp2_with fail
  go_loop [0, 4] (fun t c => ∃ (b : ByteArray) (n : Nat), t = .string b ∧ c = .int .i64 (n : Int) ∧ Strips s n b) (fun t _ => match t with | .string b => b.size | _ => 0)
  case atStart => exact ⟨s, 0, rfl, rfl, .none_ s⟩
  case round =>
    obtain ⟨b, n, rfl, rfl, hst⟩ := hrel
    have hz := hst.size
    have HST := Lib.hid hst
    have HC := Lib.hid (H.out b (by omega))
    clear hst
    go_wp2_with fail
    refine HC.out.mono ?_
    rintro e w1 ⟨r, rfl, hr, rfl⟩
    have HR := Lib.hid hr
    clear hr
    cases hc : cutF b with
    | none =>
      have HCN := Lib.hid hc
      clear hc
      go_wp2_with fail
      go_ret2
      exact ⟨b, n, rfl, HST.out, HCN.out, rfl⟩
    | some x =>
      have HRX := Lib.hid (HR.out x hc)
      have HL := Lib.hid (HST.out.last hc)
      have HLT := Lib.hid (cutF_lt hc)
      clear hc
      have i0 : (n : Int) + 1 ≤ 9223372036854775807 := by omega
      go_wp2_with fail
      go_round
      case rel => exact ⟨r, n + 1, rfl, by go_num, by rw [HRX.out]; exact HL.out⟩
      case measure => have := HLT.out; rw [HRX.out]; simp; omega

set_option maxHeartbeats 4000000 in
theorem hid_any (s : ByteArray) (w : World) (hs : s.size ≤ 9223372036854775807) (hS : Suf w) :
    Calls Tryd.prog 15 #[.string s] w (Ret (.bool (hidB s)) w) := by
  have HB := Lib.hid (base_any s w hs hS)
  have HS := Lib.hid hS
  clear hS
  go_enter Tryd.func15, Tryd.ntmps15
  go_wp2_with fail
  refine HB.out.mono ?_
  rintro e w1 ⟨b, n, rfl, hst, hcn, rfl⟩
  have HV := Lib.hid (hid_strips hst hcn)
  have hz := hst.size
  have HC := Lib.hid (vis_any b w (by omega) HS.out)
  clear hst hcn HB
  by_cases h0 : n = 0
  · subst h0
    go_wp2_with fail
    go_ret
    exact ⟨by rw [HV.out]; rfl, Below.refl _ _⟩
  · have i0 : 0 < (n : Int) := by omega
    by_cases h40 : s.size ≤ 40
    · have i1 : (s.size : Int) ≤ 40 := by omega
      have HE := Lib.hid (show hidB s = visB b by rw [HV.out]; simp [h40, show 0 < n by omega])
      clear h0
      go_wp2_with fail
      refine HC.out.mono ?_
      rintro e w2 ⟨rfl, hb2⟩
      have HB2 := Lib.hid hb2
      clear hb2
      go_wp2_with fail
      go_ret
      exact ⟨by rw [HE.out]; rfl, HB2.out⟩
    · have i1 : ¬ (s.size : Int) ≤ 40 := by omega
      have HE := Lib.hid (show hidB s = false by rw [HV.out]; simp [h40])
      clear h0
      go_wp2_with fail
      go_ret
      exact ⟨by rw [HE.out]; rfl, Below.refl _ _⟩

set_option maxHeartbeats 4000000 in
theorem rhid_all (z : Nat) : ∀ (s : ByteArray) (w : World), s.size ≤ z → s.size ≤ 9223372036854775807 →
    Calls Tryd.prog 39 #[.string s] w (Ret (.bool (hidB s)) w) := by
  induction z using Nat.strongRecOn with
  | _ z ih =>
    intro s w hz hs
    have HI := Lib.hid ih
    clear ih
    have HC := Lib.hid (rcut_any s w hs)
    cases hc : cutF s with
    | none =>
      rw [rcutV_none hc] at HC
      have HV := Lib.hid (hid_none hc)
      clear hc
      go_enter Tryd.func39, Tryd.ntmps39
      go_wp2_with fail
      refine HC.out.mono ?_
      rintro e w1 ⟨rfl, hb1⟩
      have HB1 := Lib.hid hb1
      clear hb1
      go_wp2_with fail
      go_ret
      exact ⟨by rw [HV.out]; rfl, HB1.out⟩
    | some x =>
      rw [rcutV_some hc] at HC
      have HV := Lib.hid (hid_some hc)
      have hl := cutF_lt hc
      clear hc
      go_enter Tryd.func39, Tryd.ntmps39
      go_wp2_with fail
      refine HC.out.mono ?_
      rintro e w1 ⟨rfl, hb1⟩
      have HB1 := Lib.hid hb1
      clear hb1
      by_cases h40 : s.size ≤ 40
      · have i1 : (s.size : Int) ≤ 40 := by omega
        have HW := Lib.hid (rvis_any x w1 (by omega))
        go_wp2_with fail
        refine HW.out.mono ?_
        rintro e w2 ⟨rfl, hb2⟩
        have HB2 := Lib.hid (HB1.out.next hb2)
        have HX := Lib.hid (HI.out x.size (by omega) x w2 (Nat.le_refl _) (by omega))
        clear hb2
        cases hv : visB x with
        | true =>
          have HE := Lib.hid (show hidB s = true by rw [HV.out, hv]; simp [h40])
          clear hv
          go_wp2_with fail
          go_ret
          exact ⟨by rw [HE.out]; rfl, HB2.out⟩
        | false =>
          have HE := Lib.hid (show hidB s = hidB x by rw [HV.out, hv]; simp [h40])
          clear hv
          go_wp2_with fail
          refine HX.out.mono ?_
          rintro e w3 ⟨rfl, hb3⟩
          have HB3 := Lib.hid (HB2.out.next hb3)
          clear hb3
          go_wp2_with fail
          go_ret
          exact ⟨by rw [HE.out]; rfl, HB3.out⟩
      · have i1 : ¬ (s.size : Int) ≤ 40 := by omega
        have HE := Lib.hid (show hidB s = false by rw [HV.out]; simp [h40])
        go_wp2_with fail
        go_ret
        exact ⟨by rw [HE.out]; rfl, HB1.out⟩
theorem rhid_any (s : ByteArray) (w : World) (hs : s.size ≤ 9223372036854775807) :
    Calls Tryd.prog 39 #[.string s] w (Ret (.bool (hidB s)) w) := rhid_all s.size s w (Nat.le_refl _) hs
end Go.Proofs.YtnodlkjajgeepaaDoor
