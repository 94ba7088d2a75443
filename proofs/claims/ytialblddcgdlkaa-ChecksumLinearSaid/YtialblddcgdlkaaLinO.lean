/- A slice of triples that came in. -/
import Derived.Test.YtialblddcgdlkaaLinC
import Derived.Laws.IdiomArrays
namespace Go.Proofs.Ytialblddcgdlkaa
open Go.ChangeShapes Go.WideShapes Go.ChangeAt Go.RowKit

theorem v64_of (z : Int) (h : (Lit.int .u64 z).wf = true) : ∃ x : BitVec 64, Value.int .u64 z = V64 x := by
  refine ⟨BitVec.ofInt 64 z, ?_⟩
  have := bounds_u64 h
  simp [V64, BitVec.toNat_ofInt]
  omega
theorem open_triples {H : Type} {enc : TypeId × Value → H} {P : Program} {W : World} {t e e0 : TypeId} {base : Nat} {v : Value} {d : DataW H} {p : List MemPlace} (ht : P.underlying t = some (.slice e)) (he : P.underlying e = some (.array 3 e0)) (he0 : P.underlying e0 = some (.int .u64)) (hc : P.cellsOf e = 3) (hc0 : P.cellsOf e0 = 1)
    (hv : Value.okWide P W .any base t v) (h : DataW.Trod enc P W 0 (fun _ => true) true t v d p) :
    ∃ (A : Option Addr) (n c : Nat) (T : List T3), v = .slice A n c ∧ n ≤ c ∧ c ≤ maxLen ∧ T.length = n ∧ Reads W W.heap.size 3 A n (C3 T) := by
  obtain ⟨A, n, c, rfl⟩ := okWide_slice ht hv
  obtain ⟨fuel, hf⟩ := h
  rcases Go.Deep.open_slice ht hf with ⟨hcs, _⟩ | ⟨a, len, cap, m, n', D, Pl, hcs, _, hl, hm, hmm, _, hel⟩
  · simp [Value.cells] at hcs
    obtain ⟨rfl, rfl, rfl⟩ := hcs
    exact ⟨none, 0, 0, [], rfl, Nat.le_refl _, by unfold maxLen; omega, rfl, Reads.none_⟩
  · simp [Value.cells] at hcs
    obtain ⟨rfl, rfl, rfl⟩ := hcs
    have hmm' : m = c := by simpa using hmm
    subst hmm'
    have key : ∀ i, i < n → ∃ tr : T3, ∀ j u, j < 3 → (c3 tr)[j]? = some u → W.cell? (a.add (i * 3 + j)) = some u := fun i hi => by
      obtain ⟨cs', h1, h2⟩ := hel i (by omega)
      rw [hc] at h1
      obtain ⟨_, hlen, hcell⟩ := World.cells?_some h1
      match cs', hlen, h2, hcell with
      | [u0, u1, u2], _, h2, hcell =>
        obtain ⟨y0, y1, y2, n2, _, t0, t1, t2⟩ := trod_array3 he hc0 h2
        obtain ⟨z0, e0, _, w0⟩ := DataW.trod_int he0 t0
        obtain ⟨z1, e1, _, w1⟩ := DataW.trod_int he0 t1
        obtain ⟨z2, e2, _, w2⟩ := DataW.trod_int he0 t2
        injection e0 with e0
        injection e1 with e1
        injection e2 with e2
        obtain ⟨b0, g0⟩ := v64_of z0 w0
        obtain ⟨b1, g1⟩ := v64_of z1 w1
        obtain ⟨b2, g2⟩ := v64_of z2 w2
        refine ⟨(b0, b1, b2), fun j u hj hu => ?_⟩
        rw [← Go.Deep.add_add, hcell j hj]
        match j, hj, hu with
        | 0, _, hu => rw [← hu]; show some u0 = some (V64 b0); rw [e0, g0]
        | 1, _, hu => rw [← hu]; show some u1 = some (V64 b1); rw [e1, g1]
        | 2, _, hu => rw [← hu]; show some u2 = some (V64 b2); rw [e2, g2]
    obtain ⟨f, hf⟩ := Go.Deep.choose_lt key
    have hT : ((List.range n).map f).length = n := by simp
    refine ⟨some a, n, m, (List.range n).map f, rfl, hl, hm, hT, ⟨by rw [C3_len, hT], fun h0 => ⟨a, rfl, ?_, fun q u hu => ?_⟩⟩⟩
    · have := block_lt_of_cell (hf 0 h0 0 _ (by omega) rfl)
      rwa [block_of_add] at this
    · have hq : q < n * 3 := by
        have := (List.getElem?_eq_some_iff.1 hu).1
        rwa [C3_len, hT] at this
      have hk : q / 3 < n := by omega
      have hat : ((List.range n).map f)[q / 3]? = some (f (q / 3)) := by simp [hk]
      have h3 := C3_at hat (q % 3) (by omega)
      rw [show q / 3 * 3 + q % 3 = q by omega] at h3
      have := hf (q / 3) hk (q % 3) u (by omega) (h3 ▸ hu)
      rwa [show q / 3 * 3 + q % 3 = q by omega] at this
end Go.Proofs.Ytialblddcgdlkaa
