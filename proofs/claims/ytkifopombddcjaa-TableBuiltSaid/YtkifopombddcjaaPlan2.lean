/- What TablePlaces asks of the plain functions. -/
import Derived.Test.YtkifopombddcjaaPlace
namespace Go.Proofs.Ytkifopombddcjaa
open Go.RowKit

structure Plan2 (a b : List Tg) (sa sb lo n : Int) (m c j : List Tg) (ps : List Pc) : Prop where
  pm : mergeT a = m
  pc : cutT a lo n = c ∧ splitE a lo n = 0
  pj : joinT a b = j ∧ joinE a b = 0
  pp : splitP a lo n = ps
  km : checkE m = 0
  kc : checkE c = 0
  kj : checkE j = 0
  sm : sumL m = sa
  sc : sumL c = n
  sj : sumL j = sa + sb
  chain : Chain a lo ps
  sum : sumP ps = n
  len : ps.length ≤ 64
  la : ∀ i : Int, 0 ≤ i → i < sa → ∃ x, Leads a i x ∧ Leads m i x ∧ Leads j i x ∧ (lo ≤ i → i < lo + n → Leads c (i - lo) x)
  lb : ∀ i : Int, 0 ≤ i → i < sb → ∃ x, Leads b i x ∧ Leads j (sa + i) x
theorem plan2 {a b : List Tg} {lo n : Int} (ha : checkE a = 0) (hb : checkE b = 0) (hla : a.length ≤ 7) (hlb : b.length ≤ 7) (h1 : 0 ≤ lo) (h2 : 0 ≤ n) (h3 : lo + n ≤ sumL a) :
    ∃ m c j ps, Plan2 a b (sumL a) (sumL b) lo n m c j ps := by
  obtain ⟨x1, x2, x3, x4, x5⟩ := cut_table ha h1 h2 h3
  have hj : joinE a b = 0 := by unfold joinE; rw [if_neg (by omega), if_neg (by omega), if_neg (by omega)]
  obtain ⟨j1, j2⟩ := join_check hj
  have hoa := ((check_iff a).1 ha).2
  have hob := ((check_iff b).1 hb).2
  have hm : mergeT a = mergeL a := by unfold mergeT; rw [if_pos ha]
  have hps : splitP a lo n = pcs lo (lo + n) 0 a := split_good x1
  obtain ⟨c1, c2⟩ := pcs_chain (lo := lo) (hi := lo + n) (l0 := a) (by omega) a 0 0 hoa (fun j t h => by simpa using h)
  refine ⟨mergeL a, cutT a lo n, joinT a b, _, hm, ⟨rfl, x1⟩, ⟨rfl, hj⟩, hps, merge_check ha, x3, j1, merge_sum a, x4, ?_, ?_, ?_, ?_, ?_, ?_⟩
  · rw [j2, sumL_append, sum_sh]
  · rw [show max lo 0 = lo by omega] at c1; exact c1
  · rw [c2]; unfold clamp; omega
  · have := pcs_len lo (lo + n) 0 a; omega
  · intro i i0 i1
    obtain ⟨x, hx⟩ := leads_some hoa i0 (by omega)
    refine ⟨x, hx, leads_merge hoa hx, ?_, fun k1 k2 => ?_⟩
    · rw [j2]; exact leads_app.2 (.inl hx)
    · rw [x2]; exact leads_cut k1 k2 hx
  · intro i i0 i1
    obtain ⟨x, hx⟩ := leads_some hob i0 (by omega)
    refine ⟨x, hx, ?_⟩
    rw [j2, Int.add_comm]
    exact leads_app.2 (.inr (leads_sh hx))
theorem PRow.up {w w' : World} {A : Option Addr} {l : List Pc} (h : PRow w w.heap.size A l) (hb : Below w.heap.size w w') : PRow w' w'.heap.size A l := by
  rcases h.below hb (Nat.le_refl _) with h | ⟨g, e, hg, hf⟩
  · exact .inl h
  · exact .inr ⟨g, e, by have := hb.size; omega, hf⟩
def SplitRow (ps : List Pc) (er : Int) (w : World) (e : Ending) (w' : World) : Prop :=
  ∃ A c, e = .returned (.tuple #[.slice A ps.length c, .int .i64 er]) ∧ PRow w' w'.heap.size A ps ∧ Below w.heap.size w w'
theorem split_row {A : Option Addr} {c : Nat} {a : List Tg} {w : World} {lo n : Int} (hl : a.length ≤ 64) (h : TRow w w.heap.size A a) (hb : -9223372036854775808 ≤ lo ∧ lo ≤ 9223372036854775807) {ps : List Pc} (hps : splitP a lo n = ps) {er : Int} (he : splitE a lo n = er) :
    Calls Try.prog 18 #[.slice A a.length c, .int .i64 lo, .int .i64 n] w (SplitRow ps er w) := by
  subst hps he
  refine (split_any A c a lo n w _ (Nat.le_refl _) (by omega) h hb).mono ?_
  rintro e w' ⟨v, rfl, ho, hb⟩
  obtain ⟨A, c, rfl, hr⟩ := own_prow ho
  exact ⟨A, c, rfl, hr, hb⟩
theorem size_of {a : List Tg} (h : checkE a = 0) {s : Int} (hs : sumL a = s) : sizeV a = s := by unfold sizeV; rw [if_pos h]; exact hs
theorem len_of {a : List Tg} (h : checkE a = 0) : a.length ≤ 64 := ((check_iff a).1 h).1
end Go.Proofs.Ytkifopombddcjaa
