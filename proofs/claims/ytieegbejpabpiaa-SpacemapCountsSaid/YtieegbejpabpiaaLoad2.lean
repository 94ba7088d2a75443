/- Load of the reference's map. -/
import Derived.Test.YtieegbejpabpiaaLoad
namespace Go.Proofs.Ytieegbejpabpiaa
open Go.RowKit

theorem Row.lower {b b' : Nat} {w : World} {g c : Nat} {l : List Int} (h : Row b w g c l) (hb : b' ≤ b) : Row b' w g c l := by
  obtain ⟨r1, r2⟩ := h
  refine ⟨r1, ?_⟩
  rcases r2 with r2 | ⟨g', cap, cur, q1, q2, q3⟩
  · exact .inl r2
  · exact .inr ⟨g', cap, cur, q1, Nat.le_trans hb q2, q3⟩

set_option maxHeartbeats 1000000 in
theorem rload_any {w : World} {B : Nat} {A : Option Addr} {cap : Nat} {l : List Int} (h : Reads w B 1 A l.length (I l)) (hB : B ≤ w.heap.size) (hm : l.length < 9223372036854775808) :
    Calls Try.prog 12 #[.slice A l.length cap] w (RLoad l w) := by
  by_cases h0 : l.length = 0
  · have HP := Lib.hid (show RLoad l w = NilRet 1 w by funext e w'; unfold RLoad; rw [if_neg (by omega)])
    have hl : (l.length : Int) < 1 := by omega
    clear h h0
    go_enter Try.func12, Try.ntmps12
    go_wp2_with fail
    go_ret2
    rw [HP.out]
    exact ⟨rfl, rfl⟩
  · have hl : ¬ ((l.length : Int) < 1) := by omega
    by_cases h1 : 16384 < l.length
    · have HP := Lib.hid (show RLoad l w = NilRet 1 w by funext e w'; unfold RLoad; rw [if_neg (by omega)])
      have hl2 : (16384 : Int) < (l.length : Int) := by omega
      clear h h0
      go_enter Try.func12, Try.ntmps12
      go_wp2_with fail
      go_ret2
      rw [HP.out]
      exact ⟨rfl, rfl⟩
    · have hl2 : ¬ ((16384 : Int) < (l.length : Int)) := by omega
      obtain ⟨ad, rfl, hbk, hrc⟩ := h.2 (by omega)
      have HRC := Lib.hid hrc
      have HR := Lib.hid h
      have hp : 1 ≤ l.length := by omega
      have hs : l.length ≤ 16384 := by omega
      clear h hrc h0 h1
      obtain ⟨i0, hi0, hz0, hz1, hz2⟩ := info_parts int_info
      go_enter Try.func12, Try.ntmps12
      go_wp2_with fail
      go_loop [4] (fun i => ∃ k : Nat, k ≤ l.length ∧ i = .int .i64 k ∧ Hid (∀ j, j < k → inR (l.getD j 0) = true)) (fun i => l.length - (intOf i).toNat)
      case atStart => exact ⟨0, Nat.zero_le _, rfl, fun j hj => absurd hj (by omega)⟩
      case round =>
        obtain ⟨k, hk, rfl, hall⟩ := hrel
        by_cases hlt : k < l.length
        · have d0 := HRC.out k _ (I_at l k hlt)
          have i1 : (k : Int) < (l.length : Int) := by omega
          have HNA := Lib.hid (not_all_of hlt)
          rcases inR_cases (l.getD k 0) with ⟨hr, r1, r2⟩ | ⟨hr, r1⟩ | ⟨hr, r1, r2⟩
          · have HF := Lib.hid hr
            clear HNA hr
            generalize l.getD k 0 = x at d0 r1 r2
            go_wp2_with fail
            go_round
            case rel => exact ⟨k + 1, by omega, by go_num, fun j hj => by
              by_cases e : j = k
              · subst e; exact HF.out
              · exact hall.out j (by omega)⟩
            case measure => simp [intOf]; omega
          · have HP := Lib.hid (show RLoad l w = NilRet 4 w by funext e w'; unfold RLoad; rw [if_pos ⟨hp, hs⟩, HNA.out hr]; rfl)
            clear HNA hr
            generalize l.getD k 0 = x at d0 r1
            go_wp2_with fail
            go_ret2
            rw [HP.out]
            exact ⟨rfl, rfl⟩
          · have HP := Lib.hid (show RLoad l w = NilRet 4 w by funext e w'; unfold RLoad; rw [if_pos ⟨hp, hs⟩, HNA.out hr]; rfl)
            clear HNA hr
            generalize l.getD k 0 = x at d0 r1 r2
            go_wp2_with fail
            go_ret2
            rw [HP.out]
            exact ⟨rfl, rfl⟩
        · obtain rfl : k = l.length := by omega
          have hAll := all_of hall.out
          have HP := Lib.hid (show RLoad l w = RNew l w by funext e w'; unfold RLoad; rw [if_pos ⟨hp, hs⟩, hAll]; rfl)
          have HRG := Lib.hid (all_rng hAll)
          clear hAll hall
          go_wp2_with (first
            | (
              at_builtin
              refine wpList_append_any _ rfl _ _ 22 rfl w.heap.size 3 i0 _ 1 8 Try.underlying22 hi0 hz0 hz1 hz2 rfl (by decide) _ 0 [] rfl (World.ownsRow_nil _ _ _ _) B (some ad) l.length cap (I l) rfl HR.out (I_one l) (by unfold maxLen; omega) (by omega) (Nat.le_refl _) ?_
              intro v1 w1 hown1 hgrow1 _
              rw [Nat.zero_add, List.nil_append] at hown1
              obtain ⟨g1, c1, rfl, hr1⟩ := row_of hown1 hp
              have hb1 : Below w.heap.size w w1 := (Below.refl _ _).grown hgrow1 (Nat.le_refl _) (fun k hk => by cases hk)
              have HB1 := Lib.hid hb1
              have HR2 := Lib.hid (HR.out.below (hb1.mono hB))
              have HR1 := Lib.hid hr1
              clear hown1 hgrow1 hr1 hb1)
            | (
              at_builtin
              refine wpList_append_any _ rfl _ _ 22 rfl w1.heap.size 3 i0 _ 1 8 Try.underlying22 hi0 hz0 hz1 hz2 rfl (by decide) _ 0 [] rfl (World.ownsRow_nil _ _ _ _) B (some ad) l.length cap (I l) rfl HR2.out (I_one l) (by unfold maxLen; omega) (by omega) (Nat.le_refl _) ?_
              intro v2 w2 hown2 hgrow2 _
              rw [Nat.zero_add, List.nil_append] at hown2
              obtain ⟨g2, c2, rfl, hr2⟩ := row_of hown2 hp
              have hb2 : Below w1.heap.size w1 w2 := (Below.refl _ _).grown hgrow2 (Nat.le_refl _) (fun k hk => by cases hk)
              have hlt1 := HR1.out.lt
              have hlt2 := hr2.lt
              have HMS := Lib.hid (RS.fresh (HR1.out.below hb2) (hr2.lower HB1.out.size) (by omega) hp hs HRG.out)
              have HB2 := Lib.hid ((HB1.out.next hb2).al (.cells #[sl g1 l.length c1, sl g2 l.length c2] 54))
              clear hown2 hgrow2 hr2 hb2 hlt1 hlt2))
          go_ret2
          rw [HP.out]
          exact ⟨_, _, _, _, _, rfl, HMS.out, HB2.out⟩
end Go.Proofs.Ytieegbejpabpiaa
