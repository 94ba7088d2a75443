/- Leg, Part, Parent and Root of the program and of the reference. -/
import Derived.Test.YtnodlkjajgeepaaDoorVis
namespace Go.Proofs.YtnodlkjajgeepaaDoor
open Go.RowKit

/-- a name with a suffix, or why not -/
def addR (s suf : ByteArray) (ok : Bool) : ByteArray × Int :=
  if visB s = false ∧ hidB s = false then (⟨#[]⟩, 10) else if ok = false then (⟨#[]⟩, 1) else if 40 < s.size + suf.size then (⟨#[]⟩, 4) else (s ++ suf, 0)
def V2 (r : ByteArray × Int) : Value := .tuple #[.string r.1, .int .i64 r.2]
theorem add_name {s suf : ByteArray} {ok : Bool} (h1 : visB s = false) (h2 : hidB s = false) : addR s suf ok = (⟨#[]⟩, 10) := by unfold addR; rw [if_pos ⟨h1, h2⟩]
theorem add_range {s suf : ByteArray} (h : visB s = true ∨ hidB s = true) : addR s suf false = (⟨#[]⟩, 1) := by
  unfold addR
  rw [if_neg (by rintro ⟨a, b⟩; rcases h with h | h <;> simp_all), if_pos rfl]
theorem add_limit {s suf : ByteArray} (h : visB s = true ∨ hidB s = true) (hz : 40 < s.size + suf.size) : addR s suf true = (⟨#[]⟩, 4) := by
  unfold addR
  rw [if_neg (by rintro ⟨a, b⟩; rcases h with h | h <;> simp_all), if_neg (by simp), if_pos hz]
theorem add_ok {s suf : ByteArray} (h : visB s = true ∨ hidB s = true) (hz : ¬ 40 < s.size + suf.size) : addR s suf true = (s ++ suf, 0) := by
  unfold addR
  rw [if_neg (by rintro ⟨a, b⟩; rcases h with h | h <;> simp_all), if_neg (by simp), if_neg hz]

set_option maxRecDepth 100000 in
set_option maxHeartbeats 4000000 in
theorem with_any (s suf : ByteArray) (w : World) (hs : s.size ≤ 1000000) (hsf : suf.size ≤ 100) (hS : Suf w) :
    Calls Tryd.prog 27 #[.string s, .string suf] w (Ret (V2 (addR s suf (decide (suf.size ≠ 0)))) w) := by
  have iw : IntKind.i64.wrap ((s.size : Int) + (suf.size : Int)) = (s.size : Int) + (suf.size : Int) := IntWalk.i64_in _ (by omega)
  have HV := Lib.hid (vis_any s w (by omega) hS)
  have HS := Lib.hid hS
  clear hS
  go_enter Tryd.func27, Tryd.ntmps27
  go_wp2_with fail
  refine HV.out.mono ?_
  rintro e w1 ⟨rfl, hb1⟩
  have HB1 := Lib.hid hb1
  have HH := Lib.hid (hid_any s w1 (by omega) (HS.out.below HB1.out HS.out.pos))
  clear hb1 HV
  cases hv : visB s with
  | true =>
    have HG : Hid (visB s = true ∨ hidB s = true) := Lib.hid (.inl hv)
    have HB := Lib.hid HB1.out
    clear hv HB1 HH
    by_cases he : suf.size = 0
    · have e0 : (suf.toList == []) = true := by rw [nil_iff]; simp [he]
      have HE := Lib.hid (show addR s suf (decide (suf.size ≠ 0)) = (⟨#[]⟩, 1) by rw [show decide (suf.size ≠ 0) = false by simp [he]]; exact add_range HG.out)
      clear he
      go_wp2_with fail
      go_ret2
      exact ⟨by rw [HE.out]; rfl, HB.out⟩
    · have e0 : (suf.toList == []) = false := by rw [nil_iff]; simp [he]
      have HD := Lib.hid (show decide (suf.size ≠ 0) = true by simp [he])
      clear he
      by_cases hz : 40 < s.size + suf.size
      · have HE := Lib.hid (show addR s suf (decide (suf.size ≠ 0)) = (⟨#[]⟩, 4) by rw [HD.out]; exact add_limit HG.out hz)
        have i1 : 40 < (s.size : Int) + (suf.size : Int) := by omega
        go_wp2_with fail
        go_ret2
        exact ⟨by rw [HE.out]; rfl, HB.out⟩
      · have HE := Lib.hid (show addR s suf (decide (suf.size ≠ 0)) = (s ++ suf, 0) by rw [HD.out]; exact add_ok HG.out hz)
        have i1 : ¬ 40 < (s.size : Int) + (suf.size : Int) := by omega
        go_wp2_with fail
        go_ret2
        exact ⟨by rw [HE.out]; rfl, HB.out⟩
  | false =>
    have HVF := Lib.hid hv
    clear hv
    go_wp2_with fail
    refine HH.out.mono ?_
    rintro e w2 ⟨rfl, hb2⟩
    have HB := Lib.hid (HB1.out.next hb2)
    clear hb2 HB1
    cases hh : hidB s with
    | true =>
      have HG : Hid (visB s = true ∨ hidB s = true) := Lib.hid (.inr hh)
      clear hh HH
      by_cases he : suf.size = 0
      · have e0 : (suf.toList == []) = true := by rw [nil_iff]; simp [he]
        have HE := Lib.hid (show addR s suf (decide (suf.size ≠ 0)) = (⟨#[]⟩, 1) by rw [show decide (suf.size ≠ 0) = false by simp [he]]; exact add_range HG.out)
        clear he
        go_wp2_with fail
        go_ret2
        exact ⟨by rw [HE.out]; rfl, HB.out⟩
      · have e0 : (suf.toList == []) = false := by rw [nil_iff]; simp [he]
        have HD := Lib.hid (show decide (suf.size ≠ 0) = true by simp [he])
        clear he
        by_cases hz : 40 < s.size + suf.size
        · have HE := Lib.hid (show addR s suf (decide (suf.size ≠ 0)) = (⟨#[]⟩, 4) by rw [HD.out]; exact add_limit HG.out hz)
          have i1 : 40 < (s.size : Int) + (suf.size : Int) := by omega
          go_wp2_with fail
          go_ret2
          exact ⟨by rw [HE.out]; rfl, HB.out⟩
        · have HE := Lib.hid (show addR s suf (decide (suf.size ≠ 0)) = (s ++ suf, 0) by rw [HD.out]; exact add_ok HG.out hz)
          have i1 : ¬ 40 < (s.size : Int) + (suf.size : Int) := by omega
          go_wp2_with fail
          go_ret2
          exact ⟨by rw [HE.out]; rfl, HB.out⟩
    | false =>
      have HE := Lib.hid (add_name (suf := suf) (ok := decide (suf.size ≠ 0)) HVF.out hh)
      clear hh HH
      go_wp2_with fail
      go_ret2
      exact ⟨by rw [HE.out]; rfl, HB.out⟩

set_option maxRecDepth 100000 in
set_option maxHeartbeats 4000000 in
theorem add_any (s suf : ByteArray) (ok : Bool) (w : World) (hs : s.size ≤ 1000000) (hsf : suf.size ≤ 100) :
    Calls Tryd.prog 46 #[.string s, .string suf, .bool ok] w (Ret (V2 (addR s suf (ok))) w) := by
  have iw : IntKind.i64.wrap ((s.size : Int) + (suf.size : Int)) = (s.size : Int) + (suf.size : Int) := IntWalk.i64_in _ (by omega)
  have HV := Lib.hid (rvis_any s w (by omega))
  go_enter Tryd.func46, Tryd.ntmps46
  go_wp2_with fail
  refine HV.out.mono ?_
  rintro e w1 ⟨rfl, hb1⟩
  have HB1 := Lib.hid hb1
  have HH := Lib.hid (rhid_any s w1 (by omega))
  clear hb1 HV
  cases hv : visB s with
  | true =>
    have HG : Hid (visB s = true ∨ hidB s = true) := Lib.hid (.inl hv)
    have HB := Lib.hid HB1.out
    clear hv HB1 HH
    cases ok with
    | false =>
      have HE := Lib.hid (add_range (suf := suf) HG.out)
      go_wp2_with fail
      go_ret2
      exact ⟨by rw [HE.out]; rfl, HB.out⟩
    | true =>
      by_cases hz : 40 < s.size + suf.size
      · have HE := Lib.hid (add_limit HG.out hz)
        have i1 : 40 < (s.size : Int) + (suf.size : Int) := by omega
        go_wp2_with fail
        go_ret2
        exact ⟨by rw [HE.out]; rfl, HB.out⟩
      · have HE := Lib.hid (add_ok HG.out hz)
        have i1 : ¬ 40 < (s.size : Int) + (suf.size : Int) := by omega
        go_wp2_with fail
        go_ret2
        exact ⟨by rw [HE.out]; rfl, HB.out⟩
  | false =>
    have HVF := Lib.hid hv
    clear hv
    go_wp2_with fail
    refine HH.out.mono ?_
    rintro e w2 ⟨rfl, hb2⟩
    have HB := Lib.hid (HB1.out.next hb2)
    clear hb2 HB1
    cases hh : hidB s with
    | true =>
      have HG : Hid (visB s = true ∨ hidB s = true) := Lib.hid (.inr hh)
      clear hh HH
      cases ok with
      | false =>
        have HE := Lib.hid (add_range (suf := suf) HG.out)
        go_wp2_with fail
        go_ret2
        exact ⟨by rw [HE.out]; rfl, HB.out⟩
      | true =>
        by_cases hz : 40 < s.size + suf.size
        · have HE := Lib.hid (add_limit HG.out hz)
          have i1 : 40 < (s.size : Int) + (suf.size : Int) := by omega
          go_wp2_with fail
          go_ret2
          exact ⟨by rw [HE.out]; rfl, HB.out⟩
        · have HE := Lib.hid (add_ok HG.out hz)
          have i1 : ¬ 40 < (s.size : Int) + (suf.size : Int) := by omega
          go_wp2_with fail
          go_ret2
          exact ⟨by rw [HE.out]; rfl, HB.out⟩
    | false =>
      have HE := Lib.hid (add_name (suf := suf) (ok := ok) HVF.out hh)
      clear hh HH
      go_wp2_with fail
      go_ret2
      exact ⟨by rw [HE.out]; rfl, HB.out⟩

end Go.Proofs.YtnodlkjajgeepaaDoor
