/- own: a state of its own. -/
import Derived.Test.YtmmdckijokiomaaCopy
import Derived.Test.YtmmdckijokiomaaFind
namespace Go.Proofs.Ytmmdckijokiomaa
open Go.RowKit

theorem slot_info : (Try.prog.info? 51).map (fun i => (i.zero, i.size, i.bytes)) = some (some (.agg #[.bool false, .bool false, .int .i64 0, .int .i64 0]), 4, 24) := by kernel_rfl
theorem slot_size : (Try.prog.info? 51).map (·.size) = some 4 := by kernel_rfl
theorem int_size : (Try.prog.info? 3).map (·.size) = some 1 := by kernel_rfl
theorem made_slots (n : Nat) : (madeCells #[.bool false, .bool false, .int .i64 0, .int .i64 0] (n * 4)).toList = SC (List.replicate n sz) := by
  apply List.ext_getElem?
  intro i
  rcases Nat.lt_or_ge i (n * 4) with h | h
  · have h4 : i / 4 < n := by omega
    have hr : (List.replicate n sz)[i / 4]? = some sz := by rw [List.getElem?_replicate, if_pos h4]
    have hs := SC_at hr (i % 4) (by omega)
    rw [show i / 4 * 4 + i % 4 = i by omega] at hs
    rw [hs]
    unfold madeCells
    rw [Array.getElem?_toList, Array.getElem?_map, Array.getElem?_range, if_pos h]
    have h3 : i % 4 < 4 := by omega
    show some (#[Value.bool false, .bool false, .int .i64 0, .int .i64 0][i % 4]!) = _
    generalize i % 4 = r at h3 ⊢
    match r, h3 with
    | 0, _ => rfl
    | 1, _ => rfl
    | 2, _ => rfl
    | 3, _ => rfl
  · rw [List.getElem?_eq_none (by simp [size_madeCells]; omega), List.getElem?_eq_none (by rw [SC_len, List.length_replicate]; omega)]
theorem SC_one (l : List Sl) : ∀ v ∈ SC l, v.oneCell' = true := by
  intro v hv
  unfold SC at hv
  obtain ⟨t, _, ht⟩ := List.mem_flatMap.1 hv
  simp [scells] at ht
  rcases ht with rfl | rfl | rfl | rfl <;> rfl

/-- a new state is laid, not filled yet -/
structure OwnMid (w wx : World) (st : St) (v0 v1 v2 t : Value) : Prop where
  ex : ∃ gs gm gt, t = .pointer (some ⟨gt, 0, none⟩) ∧ gs ≠ gm ∧ gs ≠ gt ∧ gm ≠ gt ∧ w.heap.size + 2 ≤ gs ∧ w.heap.size + 2 ≤ gm ∧ w.heap.size + 2 ≤ gt ∧
    wx.ownsRow w.heap.size 51 4 (.slice (some ⟨gs, 0, none⟩) st.slots.length st.slots.length) st.slots.length (SC (List.replicate st.slots.length sz)) ∧
    wx.ownsRow w.heap.size 3 1 (.slice (some ⟨gm, 0, none⟩) st.missed.length st.missed.length) st.missed.length (I (List.replicate st.missed.length 0)) ∧
    Blk wx gt 25 #[.slice (some ⟨gs, 0, none⟩) st.slots.length st.slots.length, .int .i64 st.clock, .slice (some ⟨gm, 0, none⟩) st.missed.length st.missed.length]
  b0 : Blk wx w.heap.size 25 #[v0, v1, v2]
  b1 : Blk wx (w.heap.size + 1) 25 #[.slice none 0 0, .int .i64 0, .slice none 0 0]
  bel : Below w.heap.size w wx

theorem heap5 (w : World) (a b c d e : Obj) : let W := ((((w.alloc a).alloc b).alloc c).alloc d).alloc e
    W.drew.heap[w.heap.size]? = some a ∧ W.drew.heap[w.heap.size + 1]? = some b ∧ W.drew.heap[w.heap.size + 1 + 1]? = some c ∧ W.drew.heap[w.heap.size + 1 + 1 + 1]? = some d ∧ W.drew.heap[w.heap.size + 1 + 1 + 1 + 1]? = some e := by
  have sz : ∀ (v : World) (o : Obj), (v.alloc o).heap.size = v.heap.size + 1 := fun v o => by simp
  have hn : ∀ (v : World) (o : Obj) (k : Nat), k = v.heap.size → (v.alloc o).heap[k]? = some o := fun v o k e => by subst e; exact Array.getElem?_push_size
  have hk : ∀ (v : World) (o : Obj) (k : Nat), k < v.heap.size → (v.alloc o).heap[k]? = v.heap[k]? := fun v o k h => Below.heap_alloc v o k h
  intro W
  refine ⟨?_, ?_, ?_, ?_, ?_⟩
  · show W.heap[_]? = _
    rw [hk _ _ _ (by simp only [sz]; omega), hk _ _ _ (by simp only [sz]; omega), hk _ _ _ (by simp only [sz]; omega), hk _ _ _ (by simp only [sz]; omega), hn _ _ _ rfl]
  · show W.heap[_]? = _
    rw [hk _ _ _ (by simp only [sz]; omega), hk _ _ _ (by simp only [sz]; omega), hk _ _ _ (by simp only [sz]; omega), hn _ _ _ (by simp only [sz])]
  · show W.heap[_]? = _
    rw [hk _ _ _ (by simp only [sz]; omega), hk _ _ _ (by simp only [sz]; omega), hn _ _ _ (by simp only [sz])]
  · show W.heap[_]? = _
    rw [hk _ _ _ (by simp only [sz]; omega), hn _ _ _ (by simp only [sz])]
  · show W.heap[_]? = _
    rw [hn _ _ _ (by simp only [sz])]
theorem row_of_block {w : World} {base g n k : Nat} {e : TypeId} {cs : Array Value} (h : w.heap[g]? = some (.cells cs e (0, 0))) (hb : base ≤ g) (hn : n ≤ maxLen) (hs : cs.size = n * k) : w.ownsRow base e k (.slice (some ⟨g, 0, none⟩) n n) n cs.toList := by
  refine ⟨by simpa using hs, .inr ⟨g, n, cs, rfl, hb, h, Nat.le_refl _, hn, hs, List.take_of_length_le (by simp [hs])⟩⟩
theorem mid_of {w wx : World} {st : St} {v0 v1 v2 : Value} {gs gm gt n m : Nat} {clock : Int} (hn : st.slots.length = n) (hm : st.missed.length = m) (hc : st.clock = clock) (hl : n ≤ 1024) (hl2 : m ≤ 1024)
    (h0 : Blk wx w.heap.size 25 #[v0, v1, v2]) (h1 : Blk wx (w.heap.size + 1) 25 #[.slice none 0 0, .int .i64 0, .slice none 0 0])
    (hs : wx.heap[gs]? = some (.cells (madeCells #[.bool false, .bool false, .int .i64 0, .int .i64 0] (n * 4)) 51)) (hg : wx.heap[gm]? = some (.cells (madeCells #[.int .i64 0] m) 3))
    (ht : wx.heap[gt]? = some (.cells #[.slice (some ⟨gs, 0, none⟩) n n, .int .i64 clock, .slice (some ⟨gm, 0, none⟩) m m] 25))
    (k1 : gs ≠ gm ∧ gs ≠ gt ∧ gm ≠ gt ∧ w.heap.size + 2 ≤ gs ∧ w.heap.size + 2 ≤ gm ∧ w.heap.size + 2 ≤ gt) (hb : Below w.heap.size w wx) : OwnMid w wx st v0 v1 v2 (.pointer (some ⟨gt, 0, none⟩)) := by
  subst hn hm hc
  obtain ⟨k2, k3, k4, k5, k6, k7⟩ := k1
  refine ⟨⟨gs, gm, gt, rfl, k2, k3, k4, k5, k6, k7, ?_, ?_, ht⟩, h0, h1, hb⟩
  · have h := row_of_block (base := w.heap.size) (k := 4) (n := st.slots.length) hs (by omega) (by unfold maxLen; omega) (by rw [size_madeCells])
    rw [made_slots] at h
    exact h
  · have h := row_of_block (base := w.heap.size) (k := 1) (n := st.missed.length) hg (by omega) (by unfold maxLen; omega) (by rw [size_madeCells, Nat.mul_one])
    rw [toList_madeCells_one] at h
    rw [show I (List.replicate st.missed.length 0) = List.replicate st.missed.length (.int .i64 0) by simp [I]]
    exact h
/-- a state in rows of one's own -/
structure SO (w : World) (base : Nat) (st : St) (a b : Value) : Prop where
  s : w.ownsRow base 51 4 a st.slots.length (SC st.slots)
  m : w.ownsRow base 3 1 b st.missed.length (I st.missed)
theorem own_cap {w : World} {base k n : Nat} {e : TypeId} {v : Value} {xs : List Value} (h : w.ownsRow base e k v n xs) : ∃ A c, v = .slice A n c ∧ n ≤ c := by
  rcases h.2 with ⟨rfl, hn⟩ | ⟨g, cap, cur, rfl, _, _, hc, _⟩
  · exact ⟨none, 0, by rw [hn], by omega⟩
  · exact ⟨_, cap, rfl, hc⟩
theorem SO.sv {w : World} {base : Nat} {st : St} {a b : Value} (h : SO w base st a b) : SV w w.heap.size st a b := by
  obtain ⟨A, c, e, hs⟩ := own_srow h.s
  obtain ⟨A2, c2, e2, hc2⟩ := own_cap h.s
  obtain ⟨A3, c3, e3, hc3⟩ := own_cap h.m
  subst e e3
  injection e2 with _ _ e2
  refine ⟨⟨A, c, rfl, hs, by omega⟩, ⟨A3, c3, rfl, Reads.of_own h.m, hc3⟩⟩
def OwnRet (st : St) (w : World) (e : Ending) (w' : World) : Prop := ∃ a b, e = .returned (.agg #[a, .int .i64 st.clock, b]) ∧ SO w' w.heap.size st a b ∧ Below w.heap.size w w'

set_option maxRecDepth 100000 in
set_option maxHeartbeats 8000000 in
theorem own_any {st : St} {a bb : Value} {w : World} (h : SV w w.heap.size st a bb) (hl : st.slots.length ≤ 1024) (hm : st.missed.length ≤ 1024) :
    Calls Try.prog 48 #[.agg #[a, .int .i64 st.clock, bb]] w (OwnRet st w) := by
  obtain ⟨slots, clock, missed⟩ := st
  obtain ⟨⟨A1, c1, e1, hs1, _⟩, ⟨A2, c2, e2, hr2, _⟩⟩ := h
  subst e1 e2
  simp only at hs1 hr2 hl hm ⊢
  obtain ⟨n, hn⟩ : ∃ n, slots.length = n := ⟨_, rfl⟩
  obtain ⟨m, hm2⟩ : ∃ m, missed.length = m := ⟨_, rfl⟩
  rw [hn] at hl ⊢
  rw [hm2] at hm ⊢
  obtain ⟨i0, hi0, hz0, hz1, hz2⟩ := info_parts int_info
  obtain ⟨i4, hi4, hz40, hz41, hz42⟩ := info_parts slot_info
  have hmk1 := fun W => run_make_rowN (P := Try.prog) 22 3 i0 (.int .i64 0) Try.underlying22 hi0 hz0 .i64 .i64 m m (Nat.le_refl _) (by rw [hz2]; omega) (by omega) W
  simp only [hz1, Nat.mul_one, Value.cells] at hmk1
  have hmk4 := fun W => run_make_rowN (P := Try.prog) 23 51 i4 (.agg #[.bool false, .bool false, .int .i64 0, .int .i64 0]) Try.underlying23 hi4 hz40 .i64 .i64 n n (Nat.le_refl _) (by rw [hz42]; omega) (by omega) W
  simp only [hz41, Value.cells] at hmk4
  have HN := Lib.hid hn
  have HM := Lib.hid hm2
  have HS := Lib.hid hs1
  have HR := Lib.hid hr2
  clear hn hm2 hs1 hr2 hi0 hz0 hz1 hz2 hi4 hz40 hz41 hz42
  go_enter Try.func48, Try.ntmps48
  go_wp2_with fail
  go_cut [3] from 4 to 14 (fun t wx => OwnMid w wx ⟨slots, clock, missed⟩ (.slice A1 n c1) (.int .i64 clock) (.slice A2 m c2) t)
  case first =>
    go_region
    all_goals
      go_wp2_with fail
      go_meet
      case rel =>
        have h5 := heap5 w
        apply mid_of HN.out HM.out rfl hl hm (h5 _ _ _ _ _).1 (h5 _ _ _ _ _).2.1
        case hb => exact ((((((Below.refl _ _).al _).al _).al _).al _).al _).drew
        case ht => first | exact (h5 _ _ _ _ _).2.2.1 | exact (h5 _ _ _ _ _).2.2.2.1 | exact (h5 _ _ _ _ _).2.2.2.2
        case hs => first | exact (h5 _ _ _ _ _).2.2.1 | exact (h5 _ _ _ _ _).2.2.2.1 | exact (h5 _ _ _ _ _).2.2.2.2
        case hg => first | exact (h5 _ _ _ _ _).2.2.1 | exact (h5 _ _ _ _ _).2.2.2.1 | exact (h5 _ _ _ _ _).2.2.2.2
        case k1 => refine ⟨?_, ?_, ?_, ?_, ?_, ?_⟩ <;> omega
  case rest =>
    obtain ⟨⟨gs, gm, gt, rfl, k2, k3, k4, k5, k6, k7, hos, hom, hbt⟩, hb0, hb1, hbel⟩ := hcut
    simp only [HN.out, HM.out] at hos hom hbt
    have d0 : wc.cell? ⟨gt, 0, none⟩ = some (.slice (some ⟨gs, 0, none⟩) n n) := by rw [hbt.cell]; rfl
    have d2 : wc.cell? ⟨gt, 2, none⟩ = some (.slice (some ⟨gm, 0, none⟩) m m) := by rw [hbt.cell]; rfl
    have a0 : wc.cell? ⟨w.heap.size, 0, none⟩ = some (.slice A1 n c1) := by rw [hb0.cell]; rfl
    have a2 : wc.cell? ⟨w.heap.size, 2, none⟩ = some (.slice A2 m c2) := by rw [hb0.cell]; rfl
    have HOS := Lib.hid hos
    have HOM := Lib.hid hom
    have HBT := Lib.hid hbt
    have HB0 := Lib.hid hb0
    have HB1 := Lib.hid hb1
    have HBL := Lib.hid hbel
    have HRS := Lib.hid (show Reads wc wc.heap.size 4 A1 n (SC slots) by
      have h := (HS.out.reads.keep (w' := wc) fun p hp => hbel.cell hp).more hbel.size
      rwa [HN.out] at h)
    clear hos hom hbt hb0 hb1 hbel
    go_wp2_with (first | (refine wpList_copy_over (o := ⟨some 19, _, _, _, _, _⟩) rfl (.tmp 16) (.tmp 18) 23 23 rfl 51 Try.underlying23 4 slot_size w.heap.size gs n n (SC (List.replicate n sz)) rfl HOS.out wc.heap.size A1 c1 (SC slots) rfl HRS.out (SC_one _) ?_; intro w5 hs5 ho5; have HS5 := Lib.hid hs5; have HO5 := Lib.hid ho5; clear hs5 ho5; have HBT5 := Lib.hid (HBT.out.only HO5.out (fun e => k3 e.symm)); have HB05 := Lib.hid (HB0.out.only HO5.out (show ¬ w.heap.size = gs by omega)); have HOM5 := Lib.hid (own_only HOM.out HO5.out (fun k hk e => by subst e; injection hk with hk; exact k2 hk.symm)); have HRI5 := Lib.hid (show Reads w5 w5.heap.size 1 A2 m (I missed) by have hb5 := HBL.out.trans (HO5.out.below HBL.out.size (fun k e => by subst e; omega)); have h := (HR.out.keep (w' := w5) fun p hp => hb5.cell hp).more hb5.size; rwa [HM.out] at h); have e0 : w5.cell? ⟨gt, 0, none⟩ = some (.slice (some ⟨gs, 0, none⟩) n n) := (by rw [HBT5.out.cell]; rfl); have e2 : w5.cell? ⟨gt, 2, none⟩ = some (.slice (some ⟨gm, 0, none⟩) m m) := (by rw [HBT5.out.cell]; rfl); have f0 : w5.cell? ⟨w.heap.size, 0, none⟩ = some (.slice A1 n c1) := (by rw [HB05.out.cell]; rfl); have f2 : w5.cell? ⟨w.heap.size, 2, none⟩ = some (.slice A2 m c2) := (by rw [HB05.out.cell]; rfl)) | (refine wpList_copy_over (o := ⟨some 24, _, _, _, _, _⟩) rfl (.tmp 21) (.tmp 23) 22 22 rfl 3 Try.underlying22 1 int_size w.heap.size gm m m (I (List.replicate m 0)) rfl HOM5.out w5.heap.size A2 c2 (I missed) rfl HRI5.out (I_one _) ?_; intro w6 hm6 ho6; have HM6 := Lib.hid hm6; have HO6 := Lib.hid ho6; clear hm6 ho6; have HS6 := Lib.hid (own_only HS5.out HO6.out (fun k hk e => by subst e; injection hk with hk; exact k2 hk)); have HBT6 := Lib.hid (HBT5.out.only HO6.out (fun e => k4 e.symm)); have g0 : w6.cell? ⟨gt, 0, none⟩ = some (.slice (some ⟨gs, 0, none⟩) n n) := (by rw [HBT6.out.cell]; rfl); have g1 : w6.cell? ⟨gt, 1, none⟩ = some (.int .i64 clock) := (by rw [HBT6.out.cell]; rfl); have g2 : w6.cell? ⟨gt, 2, none⟩ = some (.slice (some ⟨gm, 0, none⟩) m m) := (by rw [HBT6.out.cell]; rfl); have HB16 := Lib.hid ((HB1.out.only HO5.out (show ¬ w.heap.size + 1 = gs by omega)).only HO6.out (show ¬ w.heap.size + 1 = gm by omega)); have h0 : w6.cell? ⟨w.heap.size + 1, 0, none⟩ = some (.slice none 0 0) := (by rw [HB16.out.cell]; rfl); have h1 : w6.cell? ⟨w.heap.size + 1, 1, none⟩ = some (.int .i64 0) := (by rw [HB16.out.cell]; rfl); have h2 : w6.cell? ⟨w.heap.size + 1, 2, none⟩ = some (.slice none 0 0) := (by rw [HB16.out.cell]; rfl); have z0 := HB16.out.frozen 0; have z1 := HB16.out.frozen 1; have z2 := HB16.out.frozen 2))
    have HBL6 := Lib.hid ((HBL.out.trans (HO5.out.below HBL.out.size (fun k e => by subst e; omega))).trans (HO6.out.below (Nat.le_trans HBL.out.size HO5.out.size) (fun k e => by subst e; omega)))
    have hon := (((Only.refl (fun k => k = w.heap.size + 1) w6).setCell (p := ⟨w.heap.size + 1, 0, none⟩) (.inl rfl) (.slice (some ⟨gs, 0, none⟩) n n)).setCell (p := ⟨w.heap.size + 1, 1, none⟩) (.inl rfl) (.int .i64 clock)).setCell (p := ⟨w.heap.size + 1, 2, none⟩) (.inl rfl) (.slice (some ⟨gm, 0, none⟩) m m)
    have hfs := own_only HS6.out hon (fun k hk e => by subst e; injection hk with hk; have hk : gs = w.heap.size + 1 := hk; omega)
    have hfm := own_only HM6.out hon (fun k hk e => by subst e; injection hk with hk; have hk : gm = w.heap.size + 1 := hk; omega)
    refine bodyPost_ret (results_cell_row rfl _ _ (w.heap.size + 1) 25 #[.slice (some ⟨gs, 0, none⟩) n n, .int .i64 clock, .slice (some ⟨gm, 0, none⟩) m m] (0, 0) _ rfl (((HB16.out.set_ 0 _).set_ 1 _).set_ 2 _) Try.underlying25 rfl (by kernel_rfl)) rfl ⟨_, _, rfl, ⟨?_, ?_⟩, HBL6.out.trans (hon.below HBL6.out.size (fun k e => by omega))⟩
    · show World.ownsRow _ _ _ _ _ slots.length _
      rw [HN.out]; exact hfs
    · show World.ownsRow _ _ _ _ _ missed.length _
      rw [HM.out]; exact hfm
end Go.Proofs.Ytmmdckijokiomaa
