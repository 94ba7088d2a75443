/- letter; the scanner moves. -/
import Derived.Test.YtfmdbmalmeimbaaDoorNum
import Derived.Test.YtfmdbmalmeimbaaDoorWord
import Derived.Test.YtfmdbmalmeimbaaDoorCell
import Derived.Lib.Bytealg
import Derived.Lib.Walk
namespace Go.Proofs.YtfmdbmalmeimbaaDoor
open Go.RowKit
set_option maxRecDepth 100000

def fourS : ByteArray := ⟨#[95, 46, 43, 45]⟩
def fourI (n : Nat) : Int := if n = 95 then 0 else if n = 46 then 1 else if n = 43 then 2 else if n = 45 then 3 else -1
theorem index_four : ∀ n : Fin 256, Lib.indexByte fourS.data.toList ((n.1 : Int).toNat.toUInt8) = fourI n.1 := by decide +kernel
/-- IndexByte of any text -/
theorem indexL_any (s : ByteArray) (n : Nat) (x : Int) (w : World) (hx : Lib.indexByte s.data.toList ((n : Int).toNat.toUInt8) = x) :
    Calls Tryd.prog 109 #[.string s, .int .u8 n] w (fun e w' => e = .returned (.int .i64 x) ∧ w = w') := by
  have HE := Lib.hid hx
  clear hx
  go_enter Tryd.func109, Tryd.ntmps109
  go_wp2_with fail
  rw [run_callFunc_extern Tryd.func116 (by kernel_rfl) (by kernel_rfl) (by kernel_rfl) (e := Extern.BytealgIndexByte.indexByte) (by kernel_rfl), Lib.run_indexByteString]
  simp only [Result.andThen]
  rw [Oper.upon_value]
  rw [show Lib.indexByte s.data.toList ((n : Int).toNat.toUInt8) = x from HE.out]
  go_wp2_with fail
  go_ret
  exact ⟨rfl, rfl⟩
theorem index_any (s : ByteArray) (n : Nat) (x : Int) (w : World) (hx : Lib.indexByte s.data.toList ((n : Int).toNat.toUInt8) = x) :
    Calls Tryd.prog 97 #[.string s, .int .u8 n] w (fun e w' => e = .returned (.int .i64 x) ∧ w = w') := by
  have H := Lib.hid (indexL_any s n x w hx)
  clear hx
  go_enter Tryd.func97, Tryd.ntmps97
  go_wp2_with fail
  refine H.out.mono ?_
  rintro e w1 ⟨rfl, rfl⟩
  go_wp2_with fail
  go_ret
  exact ⟨rfl, rfl⟩

set_option maxHeartbeats 2000000 in
theorem letter_any (n : Nat) (w : World) (hn : n < 256) {b : Bool} (hb : letterN n = b) :
    Calls Tryd.prog 80 #[.int .u8 n] w (fun e w' => e = .returned (.bool b) ∧ w = w') := by
  have HB := Lib.hid hb
  clear hb
  by_cases h1 : 97 ≤ n ∧ n ≤ 122
  · have HE := Lib.hid (show b = true by rw [← HB.out]; simp [letterN, h1])
    obtain ⟨h1, h2⟩ := h1
    have i1 : 97 ≤ (n : Int) := by omega
    have i2 : (n : Int) ≤ 122 := by omega
    go_enter Tryd.func80, Tryd.ntmps80
    go_wp2_with fail
    go_ret
    exact ⟨by rw [HE.out]; rfl, rfl⟩
  by_cases h2 : 65 ≤ n ∧ n ≤ 90
  · have HE := Lib.hid (show b = true by rw [← HB.out]; simp [letterN, h2])
    obtain ⟨h3, h4⟩ := h2
    have i1 : 65 ≤ (n : Int) := by omega
    have i2 : (n : Int) ≤ 90 := by omega
    have i3 : ¬ 97 ≤ (n : Int) := by omega
    clear h1
    go_enter Tryd.func80, Tryd.ntmps80
    go_wp2_with fail
    go_ret
    exact ⟨by rw [HE.out]; rfl, rfl⟩
  by_cases h3 : 48 ≤ n ∧ n ≤ 57
  · have HE := Lib.hid (show b = true by rw [← HB.out]; simp [letterN, h3])
    obtain ⟨h4, h5⟩ := h3
    have i1 : 48 ≤ (n : Int) := by omega
    have i2 : (n : Int) ≤ 57 := by omega
    have i3 : ¬ 97 ≤ (n : Int) := by omega
    have i4 : ¬ 65 ≤ (n : Int) := by omega
    clear h1 h2
    go_enter Tryd.func80, Tryd.ntmps80
    go_wp2_with fail
    go_ret
    exact ⟨by rw [HE.out]; rfl, rfl⟩
  have HE := Lib.hid (show b = decide (0 ≤ fourI n) by
    rw [← HB.out]
    unfold letterN fourI
    have d1 : (decide (97 ≤ n) && decide (n ≤ 122)) = false := by simpa using h1
    have d2 : (decide (65 ≤ n) && decide (n ≤ 90)) = false := by simpa using h2
    have d3 : (decide (48 ≤ n) && decide (n ≤ 57)) = false := by simpa using h3
    rw [d1, d2, d3]
    by_cases q1 : n = 95
    · simp [q1]
    by_cases q2 : n = 46
    · simp [q2]
    by_cases q3 : n = 43
    · simp [q3]
    by_cases q4 : n = 45
    · simp [q4]
    simp [q1, q2, q3, q4])
  have HI := Lib.hid (index_any fourS n _ w (index_four ⟨n, hn⟩))
  unfold fourS at HI
  simp only at HI
  have hf : fourI n = -1 ∨ 0 ≤ fourI n := by unfold fourI; repeat (split; omega); omega
  generalize fourI n = x at HI HE hf
  have hk : n < 48 ∨ (57 < n ∧ n < 65) ∨ (90 < n ∧ n < 97) ∨ 122 < n := by omega
  clear h1 h2 h3
  rcases hf with rfl | hf
  · rcases hk with hk | hk | hk | hk
    all_goals
      (try have e1 := decide_eq_false (show ¬ ((n : Int) ≤ 122) by omega))
      (try have e2 := decide_eq_false (show ¬ ((n : Int) ≤ 90) by omega))
      (try have e3 := decide_eq_false (show ¬ ((n : Int) ≤ 57) by omega))
      go_enter Tryd.func80, Tryd.ntmps80
      go_wp2_with fail
      refine HI.out.mono ?_
      rintro e w1 ⟨rfl, rfl⟩
      go_wp2_with fail
      go_ret
      exact ⟨by rw [HE.out]; rfl, rfl⟩
  · have HE2 := Lib.hid (show b = true by rw [HE.out]; exact decide_eq_true hf)
    rcases hk with hk | hk | hk | hk
    all_goals
      (try have e1 := decide_eq_false (show ¬ ((n : Int) ≤ 122) by omega))
      (try have e2 := decide_eq_false (show ¬ ((n : Int) ≤ 90) by omega))
      (try have e3 := decide_eq_false (show ¬ ((n : Int) ≤ 57) by omega))
      go_enter Tryd.func80, Tryd.ntmps80
      go_wp2_with fail
      refine HI.out.mono ?_
      rintro e w1 ⟨rfl, rfl⟩
      go_wp2_with fail
      go_ret
      exact ⟨by rw [HE2.out]; rfl, rfl⟩

/-- the scanner's cells when it stands at byte i -/
def scb (s : ByteArray) (i : Nat) (v : Value) : Array Value := #[.string s, .int .i64 (i : Int), .int .i64 ((posAt s.data.toList i).1 : Int), .int .i64 ((posAt s.data.toList i).2 : Int), v]
def MoveRet (g : Nat) (s : ByteArray) (j : Nat) (v : Value) (w : World) (e : Ending) (w' : World) : Prop := e = .returned (.tuple #[]) ∧ Blk w' g 102 (scb s j v) ∧ Only (· = g) w w'

set_option maxRecDepth 100000 in
set_option maxHeartbeats 4000000 in
theorem move_any (g : Nat) (s : ByteArray) (i n : Nat) (v : Value) (w : World) (h : Blk w g 102 (scb s i v)) (hn : i + n ≤ s.size) (hs : s.size ≤ 100000) :
    Calls Tryd.prog 86 #[.pointer (some ⟨g, 0, none⟩), .int .i64 (n : Int)] w (MoveRet g s (i + n) v w) := by
  have H := Lib.hid h
  clear h
  go_enter Tryd.func86, Tryd.ntmps86
  go_wp2_with fail
  go_loopw [5] (fun c wr => ∃ k j : Nat, k ≤ n ∧ c = .int .i64 (k : Int) ∧ i + k = j ∧ Blk wr g 102 (scb s j v) ∧ Only (· = g) w wr) (fun c _ => n - (intOf c).toNat)
  case atStart => exact ⟨0, i, by omega, rfl, rfl, H.out, Only.refl _ _⟩
  case round =>
    obtain ⟨k, j, hk, rfl, hj, hb, ho⟩ := hrel
    have HB := Lib.hid hb
    have HO := Lib.hid ho
    clear hb ho
    by_cases hlt : k < n
    · have j0 : (k : Int) < (n : Int) := by omega
      have hjs : j < s.size := by omega
      have j1 : (j : Int) < (s.size : Int) := by omega
      have HX := Lib.hid (pos_next (byte_at s j hjs))
      have hpl := pos_le s.data.toList j
      have c0 : wr.cell? ⟨g, 0, none⟩ = some (.string s) := by rw [HB.out.cell]; rfl
      have c1 : wr.cell? ⟨g, 1, none⟩ = some (.int .i64 (j : Int)) := by rw [HB.out.cell]; rfl
      have c2 : wr.cell? ⟨g, 2, none⟩ = some (.int .i64 ((posAt s.data.toList j).1 : Int)) := by rw [HB.out.cell]; rfl
      have c3 : wr.cell? ⟨g, 3, none⟩ = some (.int .i64 ((posAt s.data.toList j).2 : Int)) := by rw [HB.out.cell]; rfl
      have f1 := HB.out.frozen 1
      have f2 := HB.out.frozen 2
      have f3 := HB.out.frozen 3
      have HBS := Lib.hid (show Blk wr g 102 #[.string s, .int .i64 (j : Int), .int .i64 ((posAt s.data.toList j).1 : Int), .int .i64 ((posAt s.data.toList j).2 : Int), v] from HB.out)
      unfold posStep at HX
      generalize hp : posAt s.data.toList j = p at c2 c3 hpl HBS HX
      obtain ⟨L, C⟩ := p
      simp only at c2 c3 hpl HBS HX
      clear hp HB
      generalize hc : s[j].toNat = x at HX
      have HJ := Lib.hid hj
      clear hj
      by_cases h10 : x = 10
      · subst h10
        rw [if_pos rfl] at HX
        go_wp2_with fail
        go_quiet (fail)
        go_wp2_with fail
        go_roundw
        case rel =>
          refine ⟨k + 1, j + 1, by omega, by go_num, by have := HJ.out; omega, ?_, ?_⟩
          · have := ((((HBS.out.set_ 3 (.int .i64 ((C : Int) + 1))).drewN nq).set_ 2 (.int .i64 ((L : Int) + 1))).set_ 3 (.int .i64 1)).set_ 1 (.int .i64 ((j : Int) + 1))
            unfold scb
            rw [HX.out]
            exact this
          · exact ((((HO.out.setCell (p := ⟨g, 3, none⟩) (.inl rfl) _).drewN nq).setCell (p := ⟨g, 2, none⟩) (.inl rfl) _).setCell (p := ⟨g, 3, none⟩) (.inl rfl) _).setCell (p := ⟨g, 1, none⟩) (.inl rfl) _
        case measure => simp [intOf]; omega
      · have q0 : ((x : Int) == 10) = false := beq_eq_false_iff_ne.2 (by omega)
        rw [if_neg h10] at HX
        clear h10
        go_wp2_with fail
        go_quiet (fail)
        go_wp2_with fail
        go_roundw
        case rel =>
          refine ⟨k + 1, j + 1, by omega, by go_num, by have := HJ.out; omega, ?_, ?_⟩
          · have := ((HBS.out.set_ 3 (.int .i64 ((C : Int) + 1))).drewN nq).set_ 1 (.int .i64 ((j : Int) + 1))
            unfold scb
            rw [HX.out]
            exact this
          · exact ((HO.out.setCell (p := ⟨g, 3, none⟩) (.inl rfl) _).drewN nq).setCell (p := ⟨g, 1, none⟩) (.inl rfl) _
        case measure => simp [intOf]; omega
    · obtain rfl : k = n := by omega
      subst hj
      go_wp2_with fail
      go_end0
      exact ⟨rfl, HB.out, HO.out⟩
end Go.Proofs.YtfmdbmalmeimbaaDoor
