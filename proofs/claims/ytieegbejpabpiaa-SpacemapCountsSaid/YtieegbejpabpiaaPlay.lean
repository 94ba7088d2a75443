/- The two maps and the source side by side. -/
import Derived.Test.YtieegbejpabpiaaWalkMakes
namespace Go.Proofs.Ytieegbejpabpiaa
open Go.RowKit

structure PS (B : Nat) (w : World) (sb bm gn cn gw cw br rn dn ro eo : Nat) (N O : List Int) : Prop where
  src : SrcOk B w sb
  map : ∃ lo, MS B w bm gn cn gw cw N O lo ∧ LowOk N O lo
  ref : RS B w br rn dn ro eo N O
  dm : ∀ k, FM bm gn gw k → ¬ FM br rn ro k ∧ k ≠ sb
  dr : ∀ k, FM br rn ro k → k ≠ sb

section
variable {B : Nat} {w w' w1 w2 : World} {sb bm gn cn gw cw br rn dn ro eo rn' dn' ro' eo' lo : Nat} {N O N' O' : List Int}
theorem MS.ge (h : MS B w bm gn cn gw cw N O lo) : ∀ k, FM bm gn gw k → B ≤ k ∧ k < w.heap.size := by
  intro k hk
  rcases hk with rfl | rfl | rfl
  · exact ⟨h.bb, h.blk.lt⟩
  · exact h.now.lt
  · exact h.was.lt
theorem RS.ge (h : RS B w br rn dn ro eo N O) : ∀ k, FM br rn ro k → B ≤ k ∧ k < w.heap.size := by
  intro k hk
  rcases hk with rfl | rfl | rfl
  · exact ⟨h.bb, h.blk.lt⟩
  · exact h.now.lt
  · exact h.old.lt
theorem PS.below (h : PS B w sb bm gn cn gw cw br rn dn ro eo N O) (hb : Below w.heap.size w w') : PS B w' sb bm gn cn gw cw br rn dn ro eo N O := by
  obtain ⟨lo, hm, hl⟩ := h.map
  exact ⟨h.src.below hb, ⟨lo, hm.below hb, hl⟩, h.ref.below hb, h.dm, h.dr⟩
theorem PS.size (h : PS B w sb bm gn cn gw cw br rn dn ro eo N O) : B ≤ w.heap.size := h.src.lt.2.2
theorem PS.srcd (h : PS B w sb bm gn cn gw cw br rn dn ro eo N O) (hs : SrcOk B w' sb) (ho : Only (· = sb) w w') : PS B w' sb bm gn cn gw cw br rn dn ro eo N O ∧ Below B w w' := by
  obtain ⟨lo, hm, hl⟩ := h.map
  have hlt := h.src.lt
  exact ⟨⟨hs, ⟨lo, hm.only ho (fun e => (h.dm _ (.inl rfl)).2 e) (fun e => (h.dm _ (.inr (.inl rfl))).2 e) (fun e => (h.dm _ (.inr (.inr rfl))).2 e), hl⟩,
    h.ref.only ho (fun e => h.dr _ (.inl rfl) e) (fun e => h.dr _ (.inr (.inl rfl)) e) (fun e => h.dr _ (.inr (.inr rfl)) e), h.dm, h.dr⟩,
    ho.below hlt.2.2 (fun k e => by rw [e]; exact hlt.1)⟩
theorem PS.mid (h : PS B w sb bm gn cn gw cw br rn dn ro eo N O) (ho : Only (FM bm gn gw) w w1) : RS B w1 br rn dn ro eo N O :=
  h.ref.only ho (fun e => (h.dm _ e).1 (.inl rfl)) (fun e => (h.dm _ e).1 (.inr (.inl rfl))) (fun e => (h.dm _ e).1 (.inr (.inr rfl)))
theorem PS.pair (h : PS B w sb bm gn cn gw cw br rn dn ro eo N O) (hm : ∃ lo, MS B w1 bm gn cn gw cw N' O' lo ∧ LowOk N' O' lo) (ho1 : Only (FM bm gn gw) w w1)
    (hr : RS B w2 br rn' dn' ro' eo' N' O') (ho2 : Only (FM br rn ro) w1 w2) (hrn : rn' = rn ∨ w1.heap.size ≤ rn') (hro : ro' = ro ∨ w1.heap.size ≤ ro') :
    PS B w2 sb bm gn cn gw cw br rn' dn' ro' eo' N' O' ∧ Below B w w2 := by
  obtain ⟨lo, hM, hL⟩ := hm
  obtain ⟨lo0, hM0, _⟩ := h.map
  have hlt := h.src.lt
  have hge := hM0.ge
  have hgr := h.ref.ge
  have hs1 : SrcOk B w1 sb := h.src.only ho1 (fun e => (h.dm _ e).2 rfl) (fun k hk => (hge k hk).1)
  have hs2 : SrcOk B w2 sb := hs1.only ho2 (fun e => h.dr _ e rfl) (fun k hk => (hgr k hk).1)
  have hn : ∀ k, FM bm gn gw k → ¬ FM br rn ro k := fun k hk => (h.dm k hk).1
  have hz := ho1.size
  have hnew : ∀ k, FM br rn' ro' k → FM br rn ro k ∨ w1.heap.size ≤ k := by
    intro k hk
    rcases hk with rfl | rfl | rfl
    · exact .inl (.inl rfl)
    · rcases hrn with e | e
      · exact .inl (.inr (.inl e))
      · exact .inr e
    · rcases hro with e | e
      · exact .inl (.inr (.inr e))
      · exact .inr e
  refine ⟨⟨hs2, ⟨lo, hM.only ho2 (hn _ (.inl rfl)) (hn _ (.inr (.inl rfl))) (hn _ (.inr (.inr rfl))), hL⟩, hr, fun k hk => ⟨fun hk2 => ?_, (h.dm k hk).2⟩, fun k hk => ?_⟩,
    (ho1.below hlt.2.2 (fun k hk => (hge k hk).1)).trans (ho2.below (Nat.le_trans hlt.2.2 hz) (fun k hk => (hgr k hk).1))⟩
  · have := (hge k hk).2
    rcases hnew k hk2 with e | e
    · exact hn k hk e
    · omega
  · rcases hnew k hk with e | e
    · exact h.dr k e
    · omega
end

def PRet (B sb : Nat) (w : World) (e : Ending) (w' : World) : Prop :=
  ∃ bm gn cn gw cw br rn dn ro eo N O, e = .returned (.tuple #[.pointer (some ⟨bm, 0, none⟩), .pointer (some ⟨br, 0, none⟩), .bool true]) ∧ PS B w' sb bm gn cn gw cw br rn dn ro eo N O ∧ Below B w w'
end Go.Proofs.Ytieegbejpabpiaa
