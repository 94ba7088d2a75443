/- ParityWords returns true at every input and leaves its arguments alone. No conditions. -/
import Derived.Test.YtbpdliddeakedaaAwake
namespace Go.Proofs.Ytbpdliddeakedaa
open Go.ChangeShapes Go.WideShapes Go.ChangeAt Go.RowKit

set_option maxHeartbeats 1000000 in
theorem words_walk (A : Option Addr) (n c : Nat) (l : List Int) (m x y z : Int) (w : World) (hc : n ≤ c) (hn : c ≤ maxLen) (h : Reads w w.heap.size 1 A n (U l)) :
    Calls Try.prog 3 #[.slice A n c, .int .i64 m, .int .u64 x, .int .u64 y, .int .u64 z] w (Ret (.bool true) w) := by
  have hn' := hn
  unfold maxLen at hn'
  by_cases h60 : 60 < n
  · have H := Lib.hid h
    clear h
    go_enter Try.func3, Try.ntmps3
    go_wp2_with fail
    refine (awake_any _).mono ?_
    rintro e w1 ⟨rfl, hb1⟩
    go_wp2_with fail
    go_ret
    exact ⟨rfl, hb1⟩
  · have hl : l.length = n := by simpa [U] using h.1
    have HL := Lib.hid hl
    clear hl
    have both : ∃ v1 v2 : Int, (∀ W : World, Reads W w.heap.size 1 A n (U l) → Calls Try.prog 8 #[.slice A n c, .int .i64 m] W fun e w' => e = .returned (.tuple #[.int .u64 v1, .int .i64 v2]) ∧ ∃ k, w' = W.drewN k) ∧
        (∀ W : World, Reads W w.heap.size 1 A n (U l) → Calls Try.prog 9 #[.slice A n c, .int .i64 m] W fun e w' => e = .returned (.tuple #[.int .u64 v1, .int .i64 v2]) ∧ ∃ k, w' = W.drewN k) := by
      by_cases hm : 0 ≤ m ∧ m < n
      · obtain ⟨k, rfl⟩ := Int.eq_ofNat_of_zero_le hm.1
        have hk : k < n := by omega
        refine ⟨xw (xl l) (l.getD k 0), 0, fun W hW => rebuild_in A n c l k W _ (by omega) hk hW, fun W hW => ?_⟩
        rw [rebuild_law l k (by have := HL.out; omega)]
        exact rebuild_ref_in A n c l k W _ (by omega) hc hk hW
      · exact ⟨0, 1, fun W _ => rebuild_out A n c m W (by omega) (by omega), fun W _ => rebuild_ref_out A n c m W (by omega) (by omega)⟩
    obtain ⟨v1, v2, c1, c2⟩ := both
    have C1 := Lib.hid c1
    have C2 := Lib.hid c2
    have H := Lib.hid h
    clear c1 c2 h
    go_enter Try.func3, Try.ntmps3
    go_wp2_with fail
    refine (C1.out _ H.out).mono ?_
    rintro e w1 ⟨rfl, k1, rfl⟩
    go_wp2_with fail
    refine (C2.out _ (H.out.drewN _)).mono ?_
    rintro e w1 ⟨rfl, k2, rfl⟩
    go_wp2_with fail
    refine (xor_any A n c l _ _ (by omega) (H.out.drewN _)).mono ?_
    rintro e w1 ⟨rfl, rfl⟩
    go_wp2_with fail
    refine (xor_ref A n c l _ _ (by omega) (H.out.drewN _)).mono ?_
    rintro e w1 ⟨rfl, rfl⟩
    go_wp2_with fail
    refine (update_any _ _ _ _).mono ?_
    rintro e w1 ⟨rfl, rfl⟩
    unfold xw
    go_wp2_with fail
    refine (awake_any _).mono ?_
    rintro e w1 ⟨rfl, hb1⟩
    go_wp2_with fail
    go_ret
    exact ⟨rfl, (below_drewN (Below.refl _ _) _).next hb1⟩

set_option maxRecDepth 100000 in
theorem words_lifted (os : Os) (started : os.Started) (H : Type) (enc : TypeId × Value → H) :
    ReturnsInHanded {} Try.checked os 3 .any (Rows.parityWordsSpec.pre6 enc Try.prog Try.f3 Rows.parityWordsRow.domain false) (Rows.parityWordsSpec.post enc Try.prog Try.f3 false true false false) := by
  refine law_lifted started (by kernel_rfl) Try.func3
    (ChangeSpec.witness6 (enc := enc) (C := Try.checked) false ⟨#[], #[.slice none 0 0, .int .i64 0, .int .u64 0, .int .u64 0, .int .u64 0], []⟩ 8 (by kernel_rfl) (by kernel_rfl) (by kernel_rfl) (by kernel_rfl)) rfl (by kernel_rfl) (by kernel_rfl) ?_ ?_
  · intro ds hds
    match ds, hds with
    | [d1, d2, d3, d4, d5], _ => rfl
  · intro W base args ds p hval hA
    rw [Try.params3] at hA hval
    obtain ⟨v0, vs0, d0, ds0, p0, q0, hargs, rfl, rfl, h0, r0⟩ := trodAll_cons hA
    obtain ⟨v1, vs1, d1, ds1, p1, q1, rfl, rfl, rfl, h1, r1⟩ := trodAll_cons r0
    obtain ⟨v2, vs2, d2, ds2, p2, q2, rfl, rfl, rfl, h2, r2⟩ := trodAll_cons r1
    obtain ⟨v3, vs3, d3, ds3, p3, q3, rfl, rfl, rfl, h3, r3⟩ := trodAll_cons r2
    obtain ⟨v4, vs4, d4, ds4, p4, q4, rfl, rfl, rfl, h4, r4⟩ := trodAll_cons r3
    obtain ⟨rfl, rfl, rfl⟩ := trodAll_nil r4
    obtain rfl : args = #[v0, v1, v2, v3, v4] := by cases args; simp_all
    obtain ⟨A, n, c, zs, rfl, hn, hc, _, hr, _⟩ := open_row Try.underlying22 Try.underlying23 (by kernel_rfl) (hval 0 22 v0 rfl rfl) h0
    obtain ⟨m, rfl, rfl, rfl, _⟩ := open_int Try.underlying3 (hval 1 3 v1 rfl rfl) h1
    obtain ⟨x, rfl, rfl, rfl, _⟩ := open_int Try.underlying23 (hval 2 23 v2 rfl rfl) h2
    obtain ⟨y, rfl, rfl, rfl, _⟩ := open_int Try.underlying23 (hval 3 23 v3 rfl rfl) h3
    obtain ⟨z, rfl, rfl, rfl, _⟩ := open_int Try.underlying23 (hval 4 23 v4 rfl rfl) h4
    exact words_walk A n c zs m x y z W hn hc hr

theorem words_over : Rows.parityWordsRow.holds Try.pinned (OpenSpec.ofChange Rows.parityWordsSpec) :=
  OpenClaim.holds_of_wide 3 Try.f3 rfl rfl rfl rfl rfl rfl rfl ⟨rfl, rfl, rfl, rfl, rfl⟩ rfl rfl rfl rfl rfl (by kernel_rfl) Try.func3 (by kernel_rfl)
    (of_decide_eq_true (by kernel_rfl)) (by unfold Func.isWrapper; first | (rw [if_pos (by decide +kernel)]; kernel_rfl) | (rw [if_neg (by decide +kernel)]; exact ⟨rfl, rfl⟩))
    (fun os started H enc _ => words_lifted os started H enc)

theorem words_holds : Rows.ParityWordsSaid := words_over
#print axioms words_holds
end Go.Proofs.Ytbpdliddeakedaa
