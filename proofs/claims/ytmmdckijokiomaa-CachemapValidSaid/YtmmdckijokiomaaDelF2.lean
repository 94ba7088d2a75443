/- slices.IndexFunc and DeleteFunc with Place's closure. -/
import Derived.Test.YtmmdckijokiomaaDelF
namespace Go.Proofs.Ytmmdckijokiomaa
open Go.RowKit

set_option maxRecDepth 100000 in
set_option maxHeartbeats 4000000 in
theorem indexF_any {A : Option Addr} {c gb : Nat} {l : List Int} {b : Int} {w : World} (hr : Reads w w.heap.size 1 A l.length (I l)) (hl : l.length ≤ 1000000) (hb : w.cell? ⟨gb, 0, none⟩ = some (.int .i64 b)) {q : Int} (hq : idxI l b = q) :
    Calls Try.prog 57 #[.slice A l.length c, .func (.func 54) #[] #[.pointer (some ⟨gb, 0, none⟩)]] w (fun e w' => e = .returned (.int .i64 q) ∧ w = w') := by
  have HQ := Lib.hid hq
  have HR := Lib.hid hr
  have HCB := Lib.hid hb
  clear hq hr hb
  go_enter Try.func57, Try.ntmps57
  go_wp2_with fail
  go_loop [8] (fun v => ∃ k : Nat, k ≤ l.length ∧ v = .int .i64 (k : Int) ∧ ∀ y ∈ l.take k, (y == b) = false) (fun v => l.length - (intOf v).toNat)
  case atStart => exact ⟨0, by omega, rfl, by simp⟩
  case round =>
    obtain ⟨k, hk, rfl, hx⟩ := hrel
    have HX := Lib.hid hx
    clear hx
    by_cases hlt : k < l.length
    · have j0 : (k : Int) < (l.length : Int) := by omega
      obtain ⟨ad, u, rfl, _, hu, hc⟩ := HR.out.at_ hlt
      rw [I_one_at hlt] at hu
      injection hu with hu
      subst hu
      have HG := Lib.hid (show l[k]? = some l[k] from List.getElem?_eq_getElem hlt)
      generalize l[k] = x at hc HG
      by_cases hb : x = b
      · subst hb
        have HE := Lib.hid (show q = (k : Int) by rw [← HQ.out]; exact idxI_at HG.out HX.out)
        go_wp2_with fail
        refine (place1_any (x := x) HCB.out (q := true) (by simp)).mono ?_
        rintro e w5 ⟨rfl, rfl⟩
        go_wp2_with fail
        go_ret
        exact ⟨by rw [HE.out]; rfl, rfl⟩
      · have HQ2 := Lib.hid (show (x == b) = false from beq_eq_false_iff_ne.2 hb)
        have HN := Lib.hid (none_next (p := fun y => y == b) HG.out HX.out (beq_eq_false_iff_ne.2 hb))
        clear hb
        go_wp2_with fail
        refine (place1_any (x := x) HCB.out HQ2.out).mono ?_
        rintro e w5 ⟨rfl, rfl⟩
        go_wp2_with fail
        go_round
        case rel => exact ⟨k + 1, by omega, by go_num, HN.out⟩
        case measure => simp [intOf]; omega
    · obtain rfl : k = l.length := by omega
      have HE := Lib.hid (show q = -1 by
        rw [← HQ.out]
        have h := HX.out
        rw [List.take_length] at h
        exact idxI_none (fun hm => by have := h b hm; simp at this))
      go_wp2_with fail
      go_ret
      exact ⟨by rw [HE.out]; rfl, rfl⟩

theorem without_none {l : List Int} {b : Int} (h : b ∉ l) : withoutL l b = l := by
  unfold withoutL
  rw [List.filter_eq_self]
  intro x hx
  exact bne_iff_ne.2 (fun e => h (e ▸ hx))
/-- the row on the way: what is kept of the first j stands at its head, the rest stands as it stood -/
structure DF (w wr : World) (base g c : Nat) (l : List Int) (b : Int) (i j : Nat) (xs : List Int) : Prop where
  own : wr.ownsRow base 3 1 (.slice (some ⟨g, 0, none⟩) l.length c) l.length (I xs)
  len : xs.length = l.length
  head : xs.take i = withoutL (l.take j) b
  tail : xs.drop j = l.drop j
  ij : i < j
  jl : j ≤ l.length
  only : Only (· = g) w wr
theorem DF.skip {w wr : World} {base g c : Nat} {l xs : List Int} {b : Int} {i j : Nat} (h : DF w wr base g c l b i j xs) (hj : l[j]? = some b) : DF w wr base g c l b i (j + 1) xs := by
  have hjl := (List.getElem?_eq_some_iff.1 hj).1
  refine ⟨h.own, h.len, ?_, ?_, by have := h.ij; omega, by omega, h.only⟩
  · rw [without_next hj, if_pos rfl, List.append_nil]; exact h.head
  · have := h.tail
    rw [← List.drop_drop, this, List.drop_drop]
theorem DF.keep {w wr : World} {base g c : Nat} {l xs : List Int} {b x : Int} {i j : Nat} (h : DF w wr base g c l b i j xs) (hj : l[j]? = some x) (hx : x ≠ b) : DF w (wr.setCell ⟨g, i, none⟩ (.int .i64 x)) base g c l b (i + 1) (j + 1) (xs.set i x) := by
  have hjl := (List.getElem?_eq_some_iff.1 hj).1
  have hij := h.ij
  have hlen := h.len
  refine ⟨?_, by simp [h.len], ?_, ?_, by omega, by omega, h.only.setCell (p := ⟨g, i, none⟩) (.inl rfl) _⟩
  · have := (World.ownsRow.stored h.own i (.int .i64 x)).1
    rw [I_set] at this
    exact this
  · rw [without_next hj, if_neg hx, ← h.head]
    rw [List.take_succ_eq_append_getElem (by simp; omega)]
    simp [List.take_set_of_le (Nat.le_refl i)]
  · rw [List.drop_set_of_lt (by omega), ← List.drop_drop, h.tail, List.drop_drop]
theorem DF.at_ {w wr : World} {base g c : Nat} {l xs : List Int} {b x : Int} {i j : Nat} (h : DF w wr base g c l b i j xs) (hj : l[j]? = some x) : wr.cell? ⟨g, j, none⟩ = some (.int .i64 x) := by
  have hjl := (List.getElem?_eq_some_iff.1 hj).1
  have hlen := h.len
  rw [World.ownsRow.cellAt h.own j (by omega)]
  have : xs[j]? = some x := by
    have h1 : (xs.drop j)[0]? = (l.drop j)[0]? := by rw [h.tail]
    rw [List.getElem?_drop, List.getElem?_drop, Nat.add_zero, hj] at h1
    exact h1
  unfold I
  rw [List.getElem?_map, this]
  rfl
theorem DF.some_ {w wr : World} {base g c : Nat} {l xs : List Int} {b : Int} {i j k : Nat} (h : DF w wr base g c l b i j xs) (hk : k < l.length) : ∃ u, wr.cell? ⟨g, k, none⟩ = some u := by
  have hlen := h.len
  rw [World.ownsRow.cellAt h.own k (by omega)]
  exact ⟨_, List.getElem?_eq_getElem (by rw [I_len]; omega)⟩
theorem DF.start {w : World} {base g c : Nat} {l : List Int} {b : Int} {k : Nat} (h : w.ownsRow base 3 1 (.slice (some ⟨g, 0, none⟩) l.length c) l.length (I l)) (hk : l[k]? = some b) (hn : ∀ y ∈ l.take k, (y == b) = false) : DF w w base g c l b k (k + 1) l := by
  have hkl := (List.getElem?_eq_some_iff.1 hk).1
  refine ⟨h, rfl, ?_, rfl, by omega, by omega, Only.refl _ _⟩
  rw [without_next hk, if_pos rfl, List.append_nil]
  exact (without_none (fun hm => by have := hn b hm; simp at this)).symm
/-- the end: the cells behind the kept ones are cleared -/
theorem DF.fin {w wr : World} {base g c : Nat} {l xs : List Int} {b : Int} {i : Nat} (h : DF w wr base g c l b i l.length xs) :
    (wr.setCells g i (List.replicate (l.length - i) (.int .i64 0))).ownsRow base 3 1 (.slice (some ⟨g, 0, none⟩) (withoutL l b).length c) (withoutL l b).length (I (withoutL l b)) ∧ Only (· = g) w (wr.setCells g i (List.replicate (l.length - i) (.int .i64 0))) ∧ (withoutL l b).length = i := by
  have hij := h.ij
  have hlen := h.len
  have hh := h.head
  rw [List.take_length] at hh
  have hi : (withoutL l b).length = i := by rw [← hh, List.length_take]; omega
  obtain ⟨h1, h2⟩ := own_setCells (List.replicate (l.length - i) (.int .i64 0)) i (I xs) wr h.own (by simp; omega)
  refine ⟨?_, h.only.trans h2, hi⟩
  have h3 := own_cut h1 (show i ≤ l.length by omega)
  rw [List.append_assoc, List.take_append_of_le_length (by simp [I]; omega), List.take_take, Nat.min_self] at h3
  rw [hi, ← hh]
  unfold I at h3 ⊢
  rw [List.map_take]
  exact h3

set_option maxRecDepth 100000 in
set_option maxHeartbeats 8000000 in
theorem deleteF_any {base g c gb : Nat} {l : List Int} {b : Int} {w : World} (h : w.ownsRow base 3 1 (.slice (some ⟨g, 0, none⟩) l.length c) l.length (I l)) (hl : l.length ≤ 1000) (hb : w.cell? ⟨gb, 0, none⟩ = some (.int .i64 b)) (hgb : gb ≠ g) :
    Calls Try.prog 53 #[.slice (some ⟨g, 0, none⟩) l.length c, .func (.func 54) #[] #[.pointer (some ⟨gb, 0, none⟩)]] w (fun e w' => e = .returned (.slice (some ⟨g, 0, none⟩) (withoutL l b).length c) ∧
      w'.ownsRow base 3 1 (.slice (some ⟨g, 0, none⟩) (withoutL l b).length c) (withoutL l b).length (I (withoutL l b)) ∧ Only (· = g) w w') := by
  have hnc : l.length ≤ c := by
    obtain ⟨A, c', e, hc⟩ := own_cap h
    injection e with _ _ e
    omega
  have HO := Lib.hid h
  have HCB := Lib.hid hb
  have HIX := Lib.hid (indexF_any (c := c) (b := b) (Reads.of_own h) (by omega) hb rfl)
  have HGB := Lib.hid hgb
  clear hgb
  by_cases hm : b ∈ l
  case neg =>
    rw [idxI_none hm] at HIX
    rw [without_none hm]
    clear hm h hb
    go_enter Try.func53, Try.ntmps53
    go_wp2_with fail
    refine HIX.out.mono ?_
    rintro e w5 ⟨rfl, rfl⟩
    go_wp2_with fail
    go_ret
    exact ⟨rfl, HO.out, Only.refl _ _⟩
  obtain ⟨k, hk, hkn⟩ : ∃ k, l[k]? = some b ∧ ∀ y ∈ l.take k, (y == b) = false := by
    cases hf : l.findIdx? (fun x => x == b) with
    | none => exact absurd (List.findIdx?_eq_none_iff.1 hf b hm) (by simp)
    | some k =>
      obtain ⟨hk, h1, h2⟩ := List.findIdx?_eq_some_iff_getElem.1 hf
      refine ⟨k, by rw [List.getElem?_eq_getElem hk]; simp at h1; rw [h1], fun y hy => ?_⟩
      obtain ⟨j, hj, rfl⟩ := List.mem_iff_getElem.1 hy
      rw [List.length_take] at hj
      have := h2 j (by omega)
      simpa using this
  rw [idxI_at hk hkn] at HIX
  have HST := Lib.hid (DF.start HO.out hk hkn)
  have hkl := (List.getElem?_eq_some_iff.1 hk).1
  have k1 : ((k : Int) == -1) = false := beq_eq_false_iff_ne.2 (by omega)
  clear hm h hb hk hkn
  go_enter Try.func53, Try.ntmps53
  go_wp2_with fail
  refine HIX.out.mono ?_
  rintro e w5 ⟨rfl, rfl⟩
  go_wp2_with fail
  go_loopw [5, 6] (fun u v wr => ∃ (i j : Nat) (xs : List Int), u = .int .i64 (i : Int) ∧ v = .int .i64 (j : Int) ∧ DF w wr base g c l b i j xs) (fun _ v _ => l.length - (intOf v).toNat)
  case atStart => exact ⟨k, k + 1, l, rfl, by go_num, HST.out⟩
  case round =>
    obtain ⟨i, j, xs, rfl, rfl, hdf⟩ := hrel
    have HDF := Lib.hid hdf
    have hij := hdf.ij
    have hjl := hdf.jl
    clear hdf
    by_cases hlt : j < l.length
    · have j0 : (j : Int) < (l.length : Int) := by omega
      have HG := Lib.hid (show l[j]? = some l[j] from List.getElem?_eq_getElem hlt)
      generalize l[j] = x at HG
      have c1 := HDF.out.at_ HG.out
      have HC1 := Lib.hid (show wr.cell? ⟨gb, 0, none⟩ = some (.int .i64 b) from (HDF.out.only.cell (p := ⟨gb, 0, none⟩) (block_lt_of_cell HCB.out) HGB.out).trans HCB.out)
      by_cases hx : x = b
      · subst hx
        have HN := Lib.hid (HDF.out.skip HG.out)
        go_wp2_with fail
        refine (place1_any (x := x) HC1.out (q := true) (by simp)).mono ?_
        rintro e w5 ⟨rfl, rfl⟩
        go_wp2_with fail
        go_roundw
        case rel => exact ⟨i, j + 1, xs, rfl, by go_num, HN.out⟩
        case measure => simp [intOf]; omega
      · have HQ2 := Lib.hid (show (x == b) = false from beq_eq_false_iff_ne.2 hx)
        have HN := Lib.hid (HDF.out.keep HG.out hx)
        obtain ⟨u, c2⟩ := HDF.out.some_ (k := i) (by omega)
        have f2 := World.ownsRow.frozenAt HDF.out.own i
        have i0 : (i : Int) < (l.length : Int) := by omega
        clear hx
        go_wp2_with fail
        refine (place1_any (x := x) HC1.out HQ2.out).mono ?_
        rintro e w5 ⟨rfl, rfl⟩
        go_wp2_with fail
        go_roundw
        case rel => exact ⟨i + 1, j + 1, _, by go_num, by go_num, HN.out⟩
        case measure => simp [intOf]; omega
    · obtain rfl : j = l.length := by omega
      obtain ⟨hf1, hf2, hf3⟩ := HDF.out.fin
      have hic : i ≤ c := by omega
      have hcne : ¬ c = i := by omega
      have hcl : ∀ ty, (Builtin.clear_ #[22] ty #[.slice (some ⟨g, i, none⟩) (l.length - i) (c - i)]).run Try.prog wr = .ok (.tuple #[]) (wr.setCells g i (List.replicate (l.length - i) (.int .i64 0))) := fun ty =>
        Lib.run_clear_slice (P := Try.prog) wr 22 3 ty (.int .i64 0) Try.underlying22 (fun w => by kernel_rfl) rfl rfl g i (l.length - i) (c - i) (by omega) (fun t ht => by obtain ⟨u, hu⟩ := HDF.out.some_ (k := i + t) (by omega); rw [hu]; rfl) (fun t _ => World.ownsRow.frozenAt HDF.out.own _)
      have HF1 := Lib.hid hf1
      have HF2 := Lib.hid hf2
      have HF3 := Lib.hid hf3
      have i2 : (i : Int) ≤ (l.length : Int) := by omega
      clear hf1 hf2 hf3
      go_wp2_with fail
      go_ret
      exact ⟨by rw [HF3.out]; rfl, HF1.out, HF2.out⟩
end Go.Proofs.Ytmmdckijokiomaa
