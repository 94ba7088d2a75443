/- Load of both maps. -/
import Derived.Test.YtieegbejpabpiaaNew
namespace Go.Proofs.Ytieegbejpabpiaa
open Go.RowKit

def inR (z : Int) : Bool := decide (0 ≤ z) && decide (z ≤ 65535)
theorem inR_cases (z : Int) : (inR z = true ∧ 0 ≤ z ∧ z ≤ 65535) ∨ (inR z = false ∧ z < 0) ∨ (inR z = false ∧ 0 ≤ z ∧ 65535 < z) := by
  unfold inR
  by_cases h1 : 0 ≤ z <;> by_cases h2 : z ≤ 65535 <;> simp [h1, h2] <;> omega

/-- what Load answers -/
def MLoad (l : List Int) (w : World) (e : Ending) (w' : World) : Prop :=
  if 1 ≤ l.length ∧ l.length ≤ 16384 then (if l.all inR then MNew l w e w' else NilRet 4 w e w') else NilRet 1 w e w'
def RLoad (l : List Int) (w : World) (e : Ending) (w' : World) : Prop :=
  if 1 ≤ l.length ∧ l.length ≤ 16384 then (if l.all inR then RNew l w e w' else NilRet 4 w e w') else NilRet 1 w e w'

theorem all_of {l : List Int} (h : ∀ j, j < l.length → inR (l.getD j 0) = true) : l.all inR = true := by
  rw [List.all_eq_true]
  intro z hz
  obtain ⟨j, hj, rfl⟩ := List.getElem_of_mem hz
  have := h j hj
  simpa [hj] using this
theorem not_all_of {l : List Int} {k : Nat} (hk : k < l.length) (h : inR (l.getD k 0) = false) : l.all inR = false := by
  rw [List.all_eq_false]
  exact ⟨l.getD k 0, by simp [hk], by simp only [h]; decide⟩
theorem all_rng {l : List Int} (h : l.all inR = true) : ∀ z ∈ l, 0 ≤ z ∧ z ≤ 65535 := by
  intro z hz
  have := List.all_eq_true.1 h z hz
  rcases inR_cases z with ⟨_, a⟩ | ⟨b, _⟩ | ⟨b, _⟩
  · exact a
  · rw [this] at b; cases b
  · rw [this] at b; cases b

set_option maxHeartbeats 1000000 in
theorem load_any {w : World} {B : Nat} {A : Option Addr} {cap : Nat} {l : List Int} (h : Reads w B 1 A l.length (I l)) (hB : B ≤ w.heap.size) (hm : l.length < 9223372036854775808) :
    Calls Try.prog 11 #[.slice A l.length cap] w (MLoad l w) := by
  by_cases h0 : l.length = 0
  · have HP := Lib.hid (show MLoad l w = NilRet 1 w by funext e w'; unfold MLoad; rw [if_neg (by omega)])
    have hl : ((l.length : Int) == 0) = true := by simp [h0]
    clear h h0
    go_enter Try.func11, Try.ntmps11
    go_wp2_with fail
    go_ret2
    rw [HP.out]
    exact ⟨rfl, rfl⟩
  · have hl : ((l.length : Int) == 0) = false := by rw [beq_eq_false_iff_ne]; omega
    by_cases h1 : 16384 < l.length
    · have HP := Lib.hid (show MLoad l w = NilRet 1 w by funext e w'; unfold MLoad; rw [if_neg (by omega)])
      have hl2 : (16384 : Int) < (l.length : Int) := by omega
      clear h h0
      go_enter Try.func11, Try.ntmps11
      go_wp2_with fail
      go_ret2
      rw [HP.out]
      exact ⟨rfl, rfl⟩
    · have hl2 : ¬ ((16384 : Int) < (l.length : Int)) := by omega
      obtain ⟨ad, rfl, hbk, hrc⟩ := h.2 (by omega)
      have HRC := Lib.hid hrc
      have HR := Lib.hid h
      have HC := Lib.hid (clone_any (cap := cap) h hB (by omega) (by omega))
      have hp : 1 ≤ l.length := by omega
      have hs : l.length ≤ 16384 := by omega
      clear h hrc h0 h1
      go_enter Try.func11, Try.ntmps11
      go_wp2_with fail
      go_loop [5, 16] (fun x i => ∃ k : Nat, k ≤ l.length ∧ i = .int .i64 k ∧ Hid (∀ j, j < k → inR (l.getD j 0) = true)) (fun _ i => l.length - (intOf i).toNat)
      case atStart => exact ⟨0, Nat.zero_le _, rfl, fun j hj => absurd hj (by omega)⟩
      case round =>
        obtain ⟨k, hk, rfl, hall⟩ := hrel
        by_cases hlt : k < l.length
        · have d0 := HRC.out k _ (I_at l k hlt)
          have i1 : (k : Int) < (l.length : Int) := by omega
          have HNA := Lib.hid (not_all_of hlt)
          have HE : Hid (∀ x, l.getD k 0 = x → l.getD k 0 = x) := fun _ h => h
          rcases inR_cases (l.getD k 0) with ⟨hr, r1, r2⟩ | ⟨hr, r1⟩ | ⟨hr, r1, r2⟩
          · have HF := Lib.hid hr
            clear HNA HE hr
            generalize l.getD k 0 = x at d0 r1 r2
            go_wp2_with fail
            go_round
            case rel => exact ⟨k + 1, by omega, by go_num, fun j hj => by
              by_cases e : j = k
              · subst e; exact HF.out
              · exact hall.out j (by omega)⟩
            case measure => simp [intOf]; omega
          · have HP := Lib.hid (show MLoad l w = NilRet 4 w by funext e w'; unfold MLoad; rw [if_pos ⟨hp, hs⟩, HNA.out hr]; rfl)
            clear HNA HE hr
            generalize l.getD k 0 = x at d0 r1
            go_wp2_with fail
            go_ret2
            rw [HP.out]
            exact ⟨rfl, rfl⟩
          · have HP := Lib.hid (show MLoad l w = NilRet 4 w by funext e w'; unfold MLoad; rw [if_pos ⟨hp, hs⟩, HNA.out hr]; rfl)
            clear HNA HE hr
            generalize l.getD k 0 = x at d0 r1 r2
            go_wp2_with fail
            go_ret2
            rw [HP.out]
            exact ⟨rfl, rfl⟩
        · obtain rfl : k = l.length := by omega
          have hAll := all_of hall.out
          have HP := Lib.hid (show MLoad l w = MNew l w by funext e w'; unfold MLoad; rw [if_pos ⟨hp, hs⟩, hAll]; rfl)
          have HRG := Lib.hid (all_rng hAll)
          clear hAll hall
          go_wp2_with fail
          refine HC.out.mono ?_
          rintro e w1 ⟨v, rfl, hv, hb⟩
          obtain ⟨g1, c1, rfl, hr1⟩ := row_of hv hp
          have HC2 := Lib.hid (clone_any (cap := cap) (HR.out.below (hb.mono hB)) (Nat.le_trans hB hb.size) hp hs)
          have HR1 := Lib.hid hr1
          clear hv hr1
          go_wp2_with fail
          refine HC2.out.mono ?_
          rintro e w2 ⟨v, rfl, hv, hb2⟩
          obtain ⟨g2, c2, rfl, hr2⟩ := row_of hv hp
          have hlt1 := HR1.out.lt
          have hlt2 := hr2.lt
          have hr2' : Row w.heap.size w2 g2 c2 l := by
            obtain ⟨r1, r2⟩ := hr2
            refine ⟨r1, ?_⟩
            rcases r2 with r2 | ⟨g', cap, cur, q1, q2, q3⟩
            · exact .inl r2
            · exact .inr ⟨g', cap, cur, q1, Nat.le_trans hb.size q2, q3⟩
          have HMS := Lib.hid (MS.fresh (HR1.out.below hb2) hr2' (by omega) hp hs HRG.out)
          have HB := Lib.hid ((hb.next hb2).al (.cells #[sl g1 l.length c1, sl g2 l.length c2, .int .i64 0] 52))
          clear hv hr2 hr2' hlt1 hlt2 hb hb2
          go_wp2_with fail
          go_ret2
          rw [HP.out]
          exact ⟨_, _, _, _, _, rfl, HMS.out, HB.out⟩
end Go.Proofs.Ytieegbejpabpiaa
