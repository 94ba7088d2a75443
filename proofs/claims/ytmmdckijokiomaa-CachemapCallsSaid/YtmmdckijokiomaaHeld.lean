/- A variable that holds a state: its block, its rows, their types. -/
import Derived.Test.YtmmdckijokiomaaPlaceW
import Derived.Test.YtmmdckijokiomaaPlaceR
import Derived.Test.YtmmdckijokiomaaMissW
import Derived.Test.YtmmdckijokiomaaMissR
import Derived.Test.YtmmdckijokiomaaMutP
import Derived.Test.YtmmdckijokiomaaMutR
import Derived.Test.YtmmdckijokiomaaVictim2
import Derived.Test.YtmmdckijokiomaaSame
import Derived.Test.YtmmdckijokiomaaSrc
namespace Go.Proofs.Ytmmdckijokiomaa
open Go.RowKit

theorem SV.only_ {w w' : World} {B k : Nat} {st : St} {a b : Value} {T : TypeId} {x : Array Value} (h : SV w B st a b) (ht : Typ w a b) (hb : Blk w k T x) (h1 : 51 ≠ T) (h2 : 3 ≠ T) (ho : Only (fun j => j = k) w w') : SV w' B st a b := by
  obtain ⟨⟨A, c, rfl, hs, h1'⟩, ⟨A2, c2, rfl, hr, h2'⟩⟩ := h
  have cell : ∀ p : Addr, ∀ u, p.block ≠ k → w.cell? p = some u → w'.cell? p = some u := fun p u hp hu => (ho.cell (block_lt_of_cell hu) hp).trans hu
  refine ⟨⟨A, c, rfl, ?_, h1'⟩, ⟨A2, c2, rfl, ⟨hr.1, fun hn => ?_⟩, h2'⟩⟩
  · rcases hs with hs | ⟨g, rfl, hg, hf⟩
    · exact .inl hs
    · obtain ⟨cs, hcs⟩ := ht.a g rfl
      have hne : g ≠ k := hcs.ne_ hb h1
      exact .inr ⟨g, rfl, hg, fun j t hj => by
        have hf' := hf j t hj
        exact ⟨cell _ _ hne hf'.c0, cell _ _ hne hf'.c1, cell _ _ hne hf'.c2, cell _ _ hne hf'.c3⟩⟩
  · obtain ⟨ad, rfl, hlt, hc⟩ := hr.2 hn
    obtain ⟨cs, hcs⟩ := ht.b ad.block rfl
    exact ⟨ad, rfl, hlt, fun j u hu => cell _ _ (by rw [block_of_add]; exact hcs.ne_ hb h2) (hc j u hu)⟩
theorem Typ.only_ {w w' : World} {k : Nat} {a b : Value} {T : TypeId} {x : Array Value} (ht : Typ w a b) (hb : Blk w k T x) (h1 : 51 ≠ T) (h2 : 3 ≠ T) (ho : Only (fun j => j = k) w w') : Typ w' a b :=
  ⟨fun g hg => by obtain ⟨cs, hc⟩ := ht.a g hg; exact ⟨cs, hc.only ho (hc.ne_ hb h1)⟩, fun g hg => by obtain ⟨cs, hc⟩ := ht.b g hg; exact ⟨cs, hc.only ho (hc.ne_ hb h2)⟩⟩
theorem SV.form_ {w : World} {B : Nat} {st : St} {a b : Value} (h : SV w B st a b) : ∃ A n c A2 n2 c2, a = .slice A n c ∧ b = .slice A2 n2 c2 := by
  obtain ⟨⟨A, c, rfl, _, _⟩, ⟨A2, c2, rfl, _, _⟩⟩ := h
  exact ⟨_, _, _, _, _, _, rfl, rfl⟩
/-- the block g is a variable that holds the state -/
structure At (w : World) (g : Nat) (st : St) (a b : Value) : Prop where
  blk : Blk w g 25 #[a, .int .i64 st.clock, b]
  sv : SV w w.heap.size st a b
  typ : Typ w a b
section
variable {w w' : World} {g : Nat} {st : St} {a b : Value}
theorem At.new_ (hs : SV w w.heap.size st a b) (ht : Typ w a b) : At (w.alloc (.cells #[a, .int .i64 st.clock, b] 25)) w.heap.size st a b :=
  ⟨Blk.new _ _ _, hs.up ((Below.refl _ _).al _), ht.up ((Below.refl _ _).al _)⟩
theorem At.up (h : At w g st a b) (hb : Below w.heap.size w w') : At w' g st a b := ⟨h.blk.below hb h.blk.lt, h.sv.up hb, h.typ.up hb⟩
theorem At.only {k : Nat} {T : TypeId} {x : Array Value} (h : At w g st a b) (hb : Blk w k T x) (h1 : 51 ≠ T) (h2 : 3 ≠ T) (hk : g ≠ k) (ho : Only (fun j => j = k) w w') : At w' g st a b :=
  ⟨h.blk.only ho hk, (h.sv.only_ h.typ hb h1 h2 ho).more ho.size, h.typ.only_ hb h1 h2 ho⟩
theorem At.set (h : At w g st a b) {st2 : St} {a2 b2 : Value} (hs : SV w w.heap.size st2 a2 b2) (ht : Typ w a2 b2) : At (put3 w g a2 (.int .i64 st2.clock) b2) g st2 a2 b2 :=
  ⟨put3_blk h.blk, (hs.only_ ht h.blk (by decide) (by decide) (put3_only _ _ _ _ _)).more (put3_only _ _ _ _ _).size, ht.only_ h.blk (by decide) (by decide) (put3_only _ _ _ _ _)⟩
theorem At.other {g2 : Nat} {x y z : Value} (h : At w g st a b) (h2 : Blk w g2 25 #[x, y, z]) (hne : g ≠ g2) (a' c' b' : Value) : At (put3 w g2 a' c' b') g st a b :=
  h.only h2 (by decide) (by decide) hne (put3_only _ _ _ _ _)
theorem At.c (h : At w g st a b) : w.cell? ⟨g, 0, none⟩ = some a ∧ w.cell? ⟨g, 1, none⟩ = some (.int .i64 st.clock) ∧ w.cell? ⟨g, 2, none⟩ = some b ∧ w.frozen? ⟨g, 0, none⟩ = false ∧ w.frozen? ⟨g, 1, none⟩ = false ∧ w.frozen? ⟨g, 2, none⟩ = false :=
  ⟨by rw [h.blk.cell]; rfl, by rw [h.blk.cell]; rfl, by rw [h.blk.cell]; rfl, h.blk.frozen 0, h.blk.frozen 1, h.blk.frozen 2⟩
theorem put3_size (w : World) (g : Nat) (a c b : Value) : (put3 w g a c b).heap.size = w.heap.size := by simp [put3, World.setCell]
end
end Go.Proofs.Ytmmdckijokiomaa
