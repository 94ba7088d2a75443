/- copied: the reference's copy of a state. -/
import Derived.Test.YtmmdckijokiomaaOwn
namespace Go.Proofs.Ytmmdckijokiomaa
open Go.RowKit

/-- on the way: what the two appends read, in a world in which nothing that was there has turned -/
structure CM (w wx : World) (A1 : Option Addr) (n c1 : Nat) (clock : Int) (A2 : Option Addr) (m c2 : Nat) (slots : List Sl) (missed : List Int) : Prop where
  b0 : Blk wx w.heap.size 25 #[.slice A1 n c1, .int .i64 clock, .slice A2 m c2]
  b1 : Blk wx (w.heap.size + 1) 25 #[.slice none 0 0, .int .i64 0, .slice none 0 0]
  rs : Reads wx wx.heap.size 4 A1 n (SC slots)
  rm : Reads wx wx.heap.size 1 A2 m (I missed)
  bel : Below w.heap.size w wx
theorem CM.grow {w wx w8 : World} {A1 A2 : Option Addr} {n c1 m c2 : Nat} {clock : Int} {slots : List Sl} {missed : List Int} (h : CM w wx A1 n c1 clock A2 m c2 slots missed) (hg : wx.grownBy w8 none) : CM w w8 A1 n c1 clock A2 m c2 slots missed :=
  ⟨h.b0.grown hg (by simp), h.b1.grown hg (by simp), (h.rs.grown hg (Nat.le_refl _) (fun g e => by cases e)).more hg.size, (h.rm.grown hg (Nat.le_refl _) (fun g e => by cases e)).more hg.size, h.bel.grown hg h.bel.size (fun g e => by cases e)⟩
theorem own_zero {w : World} {base n k : Nat} {e : TypeId} {v : Value} {xs : List Value} (h : w.ownsRow base e k v (0 + n) ([] ++ xs)) : w.ownsRow base e k v n xs := by
  rw [Nat.zero_add, List.nil_append] at h
  exact h
theorem own_grown {w w8 : World} {base n k : Nat} {e : TypeId} {v : Value} {xs : List Value} (h : w.ownsRow base e k v n xs) (hg : w.grownBy w8 none) : w8.ownsRow base e k v n xs := by
  refine h.kept hg ?_
  cases hv : v.ownBlock with
  | none => exact .inl rfl
  | some g => exact .inr (by simp)
/-- the copy stands -/
structure CE (w wx : World) (st : St) : Prop where
  ex : ∃ a b, Blk wx (w.heap.size + 1) 25 #[a, .int .i64 st.clock, b] ∧ SO wx w.heap.size st a b
  bel : Below w.heap.size w wx
theorem CM.fin {w wx : World} {A1 A2 : Option Addr} {c1 c2 : Nat} {st : St} {a b : Value} {v0 : Value} (h : CM w wx A1 st.slots.length c1 st.clock A2 st.missed.length c2 st.slots st.missed) (hs : wx.ownsRow w.heap.size 51 4 a st.slots.length (SC st.slots)) (hm : wx.ownsRow w.heap.size 3 1 b st.missed.length (I st.missed))
    (hv : v0 = .int .i64 st.clock) : CE w (((wx.setCell ⟨w.heap.size + 1, 0, none⟩ a).setCell ⟨w.heap.size + 1, 1, none⟩ v0).setCell ⟨w.heap.size + 1, 2, none⟩ b) st := by
  subst hv
  have hon := (((Only.refl (fun k => k = w.heap.size + 1) wx).setCell (p := ⟨w.heap.size + 1, 0, none⟩) (.inl rfl) a).setCell (p := ⟨w.heap.size + 1, 1, none⟩) (.inl rfl) (.int .i64 st.clock)).setCell (p := ⟨w.heap.size + 1, 2, none⟩) (.inl rfl) b
  refine ⟨⟨a, b, ((h.b1.set_ 0 _).set_ 1 _).set_ 2 _, own_only hs hon (fun k hk e => ?_), own_only hm hon (fun k hk e => ?_)⟩, h.bel.trans (hon.below h.bel.size (fun k e => by omega))⟩
  · subst e; exact own_blk_ne hs h.b1 (by decide) hk
  · subst e; exact own_blk_ne hm h.b1 (by decide) hk

set_option maxRecDepth 100000 in
set_option maxHeartbeats 8000000 in
theorem copied_any {st : St} {a bb : Value} {w : World} (h : SV w w.heap.size st a bb) (hl : st.slots.length ≤ 1024) (hm : st.missed.length ≤ 1024) :
    Calls Try.prog 49 #[.agg #[a, .int .i64 st.clock, bb]] w (OwnRet st w) := by
  obtain ⟨slots, clock, missed⟩ := st
  obtain ⟨⟨A1, c1, e1, hs1, _⟩, ⟨A2, c2, e2, hr2, _⟩⟩ := h
  subst e1 e2
  simp only at hs1 hr2 hl hm ⊢
  obtain ⟨i0, hi0, hz0, hz1, hz2⟩ := info_parts int_info
  obtain ⟨i4, hi4, hz40, hz41, hz42⟩ := info_parts slot_info
  have HCM := Lib.hid (show CM w (((w.alloc (.cells #[.slice A1 slots.length c1, .int .i64 clock, .slice A2 missed.length c2] 25)).alloc (.cells #[.slice none 0 0, .int .i64 0, .slice none 0 0] 25)).drew) A1 slots.length c1 clock A2 missed.length c2 slots missed by
    have hb := (((Below.refl w.heap.size w).al (.cells #[.slice A1 slots.length c1, .int .i64 clock, .slice A2 missed.length c2] 25)).al (.cells #[.slice none 0 0, .int .i64 0, .slice none 0 0] 25)).drew
    refine ⟨(Blk.new _ _ _).alloc _, ?_, (hs1.reads.keep fun p hp => hb.cell hp).more hb.size, (hr2.keep fun p hp => hb.cell hp).more hb.size, hb⟩
    have h := Blk.new (w.alloc (.cells #[.slice A1 slots.length c1, .int .i64 clock, .slice A2 missed.length c2] 25)) 25 #[.slice none 0 0, .int .i64 0, .slice none 0 0]
    rw [show (w.alloc (.cells #[.slice A1 slots.length c1, .int .i64 clock, .slice A2 missed.length c2] 25)).heap.size = w.heap.size + 1 by simp] at h
    exact h)
  clear hs1 hr2
  go_enter Try.func49, Try.ntmps49
  go_wp2_with fail
  go_cut [] from 3 to 11 (fun wx => CE w wx ⟨slots, clock, missed⟩)
  case first =>
    go_region_law (first
      | (refine step_append_any (o := ⟨some 5, _, _, _, _, _⟩) _ rfl (.const (.slice none 0 0)) (.tmp 4) 23 rfl w.heap.size 51 i4 _ 4 24 Try.underlying23 hi4 hz40 hz41 hz42 rfl (by decide) (.slice none 0 0) 0 [] rfl (World.ownsRow_nil _ _ _ _) _ A1 slots.length c1 (SC slots) (by simp [Act.eval, Act.put]) HCM.out.rs (SC_one _) (by unfold maxLen; omega) (by omega) HCM.out.bel.size ?_; intro va wa ho hg _; obtain ⟨Aa, da, ea, _⟩ := own_cap (own_zero ho); subst ea; have HVA := Lib.hid (own_zero ho); have HCwa := Lib.hid (HCM.out.grow hg); skip; have xwa0 : wa.cell? ⟨w.heap.size, 0, none⟩ = some (.slice A1 slots.length c1) := (by rw [HCwa.out.b0.cell]; rfl); have xwa1 : wa.cell? ⟨w.heap.size, 1, none⟩ = some (.int .i64 clock) := (by rw [HCwa.out.b0.cell]; rfl); have xwa2 : wa.cell? ⟨w.heap.size, 2, none⟩ = some (.slice A2 missed.length c2) := (by rw [HCwa.out.b0.cell]; rfl); have ywa0 : wa.cell? ⟨w.heap.size + 1, 0, none⟩ = some (.slice none 0 0) := (by rw [HCwa.out.b1.cell]; rfl); have zwa0 := HCwa.out.b1.frozen 0; have ywa1 : wa.cell? ⟨w.heap.size + 1, 1, none⟩ = some (.int .i64 0) := (by rw [HCwa.out.b1.cell]; rfl); have zwa1 := HCwa.out.b1.frozen 1; have ywa2 : wa.cell? ⟨w.heap.size + 1, 2, none⟩ = some (.slice none 0 0) := (by rw [HCwa.out.b1.cell]; rfl); have zwa2 := HCwa.out.b1.frozen 2; clear ho hg)
      | (refine step_append_any (o := ⟨some 10, _, _, _, _, _⟩) _ rfl (.const (.slice none 0 0)) (.tmp 9) 22 rfl w.heap.size 3 i0 _ 1 8 Try.underlying22 hi0 hz0 hz1 hz2 rfl (by decide) (.slice none 0 0) 0 [] rfl (World.ownsRow_nil _ _ _ _) _ A2 missed.length c2 (I missed) (by simp [Act.eval, Act.put]) HCM.out.rm (I_one _) (by unfold maxLen; omega) (by omega) HCM.out.bel.size ?_; intro vb wb ho hg _; obtain ⟨Ab, db, eb, _⟩ := own_cap (own_zero ho); subst eb; have HVB := Lib.hid (own_zero ho); have HCwb := Lib.hid (HCM.out.grow hg); skip; have xwb0 : wb.cell? ⟨w.heap.size, 0, none⟩ = some (.slice A1 slots.length c1) := (by rw [HCwb.out.b0.cell]; rfl); have xwb1 : wb.cell? ⟨w.heap.size, 1, none⟩ = some (.int .i64 clock) := (by rw [HCwb.out.b0.cell]; rfl); have xwb2 : wb.cell? ⟨w.heap.size, 2, none⟩ = some (.slice A2 missed.length c2) := (by rw [HCwb.out.b0.cell]; rfl); have ywb0 : wb.cell? ⟨w.heap.size + 1, 0, none⟩ = some (.slice none 0 0) := (by rw [HCwb.out.b1.cell]; rfl); have zwb0 := HCwb.out.b1.frozen 0; have ywb1 : wb.cell? ⟨w.heap.size + 1, 1, none⟩ = some (.int .i64 0) := (by rw [HCwb.out.b1.cell]; rfl); have zwb1 := HCwb.out.b1.frozen 1; have ywb2 : wb.cell? ⟨w.heap.size + 1, 2, none⟩ = some (.slice none 0 0) := (by rw [HCwb.out.b1.cell]; rfl); have zwb2 := HCwb.out.b1.frozen 2; clear ho hg)
      | (refine step_append_any (o := ⟨some 10, _, _, _, _, _⟩) _ rfl (.const (.slice none 0 0)) (.tmp 9) 22 rfl w.heap.size 3 i0 _ 1 8 Try.underlying22 hi0 hz0 hz1 hz2 rfl (by decide) (.slice none 0 0) 0 [] rfl (World.ownsRow_nil _ _ _ _) _ A2 missed.length c2 (I missed) (by simp [Act.eval, Act.put]) HCwa.out.rm (I_one _) (by unfold maxLen; omega) (by omega) HCwa.out.bel.size ?_; intro vb wab ho hg _; obtain ⟨Ab, db, eb, _⟩ := own_cap (own_zero ho); subst eb; have HVB := Lib.hid (own_zero ho); have HCwab := Lib.hid (HCwa.out.grow hg); have HVA := Lib.hid (own_grown HVA.out hg); have xwab0 : wab.cell? ⟨w.heap.size, 0, none⟩ = some (.slice A1 slots.length c1) := (by rw [HCwab.out.b0.cell]; rfl); have xwab1 : wab.cell? ⟨w.heap.size, 1, none⟩ = some (.int .i64 clock) := (by rw [HCwab.out.b0.cell]; rfl); have xwab2 : wab.cell? ⟨w.heap.size, 2, none⟩ = some (.slice A2 missed.length c2) := (by rw [HCwab.out.b0.cell]; rfl); have ywab0 : wab.cell? ⟨w.heap.size + 1, 0, none⟩ = some (.slice none 0 0) := (by rw [HCwab.out.b1.cell]; rfl); have zwab0 := HCwab.out.b1.frozen 0; have ywab1 : wab.cell? ⟨w.heap.size + 1, 1, none⟩ = some (.int .i64 0) := (by rw [HCwab.out.b1.cell]; rfl); have zwab1 := HCwab.out.b1.frozen 1; have ywab2 : wab.cell? ⟨w.heap.size + 1, 2, none⟩ = some (.slice none 0 0) := (by rw [HCwab.out.b1.cell]; rfl); have zwab2 := HCwab.out.b1.frozen 2; clear ho hg)
      | (refine step_append_any (o := ⟨some 5, _, _, _, _, _⟩) _ rfl (.const (.slice none 0 0)) (.tmp 4) 23 rfl w.heap.size 51 i4 _ 4 24 Try.underlying23 hi4 hz40 hz41 hz42 rfl (by decide) (.slice none 0 0) 0 [] rfl (World.ownsRow_nil _ _ _ _) _ A1 slots.length c1 (SC slots) (by simp [Act.eval, Act.put]) HCwb.out.rs (SC_one _) (by unfold maxLen; omega) (by omega) HCwb.out.bel.size ?_; intro va wba ho hg _; obtain ⟨Aa, da, ea, _⟩ := own_cap (own_zero ho); subst ea; have HVA := Lib.hid (own_zero ho); have HCwba := Lib.hid (HCwb.out.grow hg); have HVB := Lib.hid (own_grown HVB.out hg); have xwba0 : wba.cell? ⟨w.heap.size, 0, none⟩ = some (.slice A1 slots.length c1) := (by rw [HCwba.out.b0.cell]; rfl); have xwba1 : wba.cell? ⟨w.heap.size, 1, none⟩ = some (.int .i64 clock) := (by rw [HCwba.out.b0.cell]; rfl); have xwba2 : wba.cell? ⟨w.heap.size, 2, none⟩ = some (.slice A2 missed.length c2) := (by rw [HCwba.out.b0.cell]; rfl); have ywba0 : wba.cell? ⟨w.heap.size + 1, 0, none⟩ = some (.slice none 0 0) := (by rw [HCwba.out.b1.cell]; rfl); have zwba0 := HCwba.out.b1.frozen 0; have ywba1 : wba.cell? ⟨w.heap.size + 1, 1, none⟩ = some (.int .i64 0) := (by rw [HCwba.out.b1.cell]; rfl); have zwba1 := HCwba.out.b1.frozen 1; have ywba2 : wba.cell? ⟨w.heap.size + 1, 2, none⟩ = some (.slice none 0 0) := (by rw [HCwba.out.b1.cell]; rfl); have zwba2 := HCwba.out.b1.frozen 2; clear ho hg))
    all_goals
      go_wp2_with fail
      go_meet
      case rel => first | exact CM.fin (st := ⟨slots, clock, missed⟩) HCwab.out HVA.out HVB.out rfl | exact CM.fin (st := ⟨slots, clock, missed⟩) HCwba.out HVA.out HVB.out rfl
  case rest =>
    obtain ⟨⟨va, vb, hb, hso⟩, hbel⟩ := hcut
    have HSO := Lib.hid hso
    have HBL := Lib.hid hbel
    have HB := Lib.hid hb
    clear hso hbel hb
    go_wp2_with fail
    exact bodyPost_ret (results_cell_row rfl _ _ (w.heap.size + 1) 25 #[va, .int .i64 clock, vb] (0, 0) _ rfl HB.out Try.underlying25 rfl (by kernel_rfl)) rfl ⟨_, _, rfl, HSO.out, HBL.out⟩
end Go.Proofs.Ytmmdckijokiomaa
