/- Nodes that came in. -/
import Derived.Test.YtfmdbmalmeimbaaDoorMRt
import Derived.Test.YtfmdbmalmeimbaaDoorMSame
import Derived.SliceStrings
import Derived.Deep.RegionHeld3
import Derived.Test.YtfmdbmalmeimbaaDoorRows
namespace Go.Proofs.YtfmdbmalmeimbaaDoor
open Go.RowKit Go.ChangeShapes
set_option maxRecDepth 100000

mutual
def cN : Nd → Nat
  | .mk _ _ _ _ ls ns => 1 + ls.length + cL ns
def cL : List Nd → Nat
  | [] => 0
  | t :: l => cN t + cL l
end
theorem cN_eq (t : Nd) : cN t = 1 + t.list.length + cL t.nodes := by cases t; rw [cN]; rfl
/-- sizes of what came in -/
structure SzM (M : Nat) (t : Nd) : Prop where
  name : t.name.size ≤ M
  text : t.text.size ≤ M
  list : ∀ s ∈ t.list, s.size ≤ M
  num : -9223372036854775808 ≤ t.num ∧ t.num ≤ 9223372036854775807
theorem exists_list {α : Type} {P : Nat → α → Prop} : ∀ n, (∀ i, i < n → ∃ y, P i y) → ∃ l : List α, l.length = n ∧ ∀ (i : Nat) (y : α), l[i]? = some y → P i y
  | 0, _ => ⟨[], rfl, fun i y h => by simp at h⟩
  | n + 1, h => by
    obtain ⟨l, hl, hp⟩ := exists_list n (fun i hi => h i (by omega))
    obtain ⟨y, hy⟩ := h n (by omega)
    refine ⟨l ++ [y], by simp [hl], fun i z hz => ?_⟩
    by_cases hi : i < n
    · rw [List.getElem?_append_left (by omega)] at hz
      exact hp i z hz
    · have := (List.getElem?_eq_some_iff.1 hz).1
      simp at this
      obtain rfl : i = n := by omega
      rw [List.getElem?_append_right (by omega), hl] at hz
      simp at hz
      exact hz ▸ hy
section
variable {H : Type}
theorem sum_le : ∀ (l : List Nd) (es : List (DataW H × List MemPlace)), l.length = es.length → (∀ (i : Nat) t y, l[i]? = some t → es[i]? = some y → cN t ≤ Rows.uptoBulk y.1) → cL l ≤ Rows.uptoBulkAll (es.map (·.1))
  | [], es, _, _ => by rw [cL]; omega
  | t :: l, [], h, _ => by simp at h
  | t :: l, e :: es, h, hh => by
    have h1 := sum_le l es (by simpa using h) (fun i t y h1 h2 => hh (i + 1) t y (by simpa using h1) (by simpa using h2))
    have h2 := hh 0 t e rfl rfl
    rw [cL, List.map_cons, Rows.uptoBulkAll]
    omega
theorem mem_le : ∀ (es : List (DataW H)) (y : DataW H), y ∈ es → Rows.uptoBulk y ≤ Rows.uptoBulkAll es
  | [], y, h => by simp at h
  | e :: es, y, h => by
    rw [Rows.uptoBulkAll]
    rcases List.mem_cons.1 h with rfl | h
    · omega
    · have := mem_le es y h; omega
theorem len_le : ∀ (es : List (DataW H)), (∀ y ∈ es, 1 ≤ Rows.uptoBulk y) → es.length ≤ Rows.uptoBulkAll es
  | [], _ => by simp
  | e :: es, h => by
    rw [Rows.uptoBulkAll, List.length_cons]
    have := len_le es (fun y hy => h y (by simp [hy]))
    have := h e (by simp)
    omega
theorem str_bulk {s : ByteArray} : Rows.uptoBulk (H := H) (.lit (.string s.data.toList)) = s.size + 1 := by
  rw [Rows.uptoBulk]
  rfl
end
section
variable {H : Type} {enc : TypeId × Value → H} {W : World} {sp : Nat → Bool} {held : Bool}
/-- a row of texts that came in -/
theorem open_texts {fuel : Nat} {cs : List Value} {x : DataW H × List MemPlace} (h : DataW.trod enc Tryd.prog W 0 sp held fuel 33 cs = some x) :
    ∃ A c l, cs = [.slice A l.length c] ∧ c ≤ maxLen ∧ TL W (fun g => g < W.heap.size) (.slice A l.length c) l ∧ l.length + 1 ≤ Rows.uptoBulk x.1 ∧ ∀ s ∈ l, s.size ≤ Rows.uptoBulk x.1 := by
  rcases open_strings Tryd.underlying33 Tryd.underlying9 (by kernel_rfl) h with ⟨rfl, rfl⟩ | ⟨a, len, cap, ss, rfl, _, hl, hm, hlen, rfl, hcell, _⟩
  · exact ⟨none, 0, [], rfl, Nat.zero_le _, ⟨none, 0, rfl, Nat.zero_le _, fun h => by simp at h⟩, by rw [Rows.uptoBulk]; simp, by simp⟩
  · have hs : len ≤ ss.length := by rw [hlen]; split <;> omega
    have e : (ss.take len).length = len := by rw [List.length_take]; omega
    have hb : ∀ l : List ByteArray, l.length ≤ Rows.uptoBulkAll (H := H) (strs l) ∧ ∀ s ∈ l, s.size ≤ Rows.uptoBulkAll (H := H) (strs l) := fun l => by
      induction l with
      | nil => simp
      | cons s l ih =>
        have e1 : Rows.uptoBulkAll (H := H) (strs (s :: l)) = Rows.uptoBulk (H := H) (.lit (.string s.data.toList)) + Rows.uptoBulkAll (H := H) (strs l) := by
          unfold strs
          rw [List.map_cons, Rows.uptoBulkAll]
        rw [str_bulk] at e1
        refine ⟨by rw [List.length_cons]; omega, fun s' hs' => ?_⟩
        rcases List.mem_cons.1 hs' with rfl | h
        · omega
        · have := ih.2 s' h; omega
    have hbb := hb (ss.take len)
    have e2 : ∀ p q : List (DataW H), Rows.uptoBulk (.slice p q) = Rows.uptoBulkAll p + Rows.uptoBulkAll q + 1 := fun p q => by rw [Rows.uptoBulk]
    refine ⟨some a, cap, ss.take len, by rw [e], hm, ⟨some a, cap, by rw [e], by rw [e]; exact hl, fun h0 => ⟨a, rfl, ?_, ?_, fun k s hk => ?_⟩⟩, ?_, ?_⟩
    · exact block_lt_of_cell (a := a.add 0) (hcell 0 (by omega))
    · exact block_lt_of_cell (a := a.add 0) (hcell 0 (by omega))
    · have hk' : k < len := by have := (List.getElem?_eq_some_iff.1 hk).1; omega
      rw [hcell k (by omega)]
      rw [List.getElem?_take, if_pos hk'] at hk
      rw [List.getD_eq_getElem?_getD, hk]
      rfl
    · simp only [e2]; omega
    · intro s hs'
      have := hbb.2 s hs'
      simp only [e2]
      omega
theorem six_fields : (match Tryd.prog.underlying 48 with | some (.struct fs) => some (fs.toList.map fun f => (f.type, f.offset)) | _ => none) = some [(9, 0), (3, 1), (3, 2), (9, 3), (33, 4), (30, 5)] := by kernel_rfl
/-- nodes that came in -/
theorem open_nodes : ∀ (fuel : Nat) (cs : List Value) (x : DataW H × List MemPlace), DataW.trod enc Tryd.prog W 0 sp held fuel 30 cs = some x →
    ∃ A c l, cs = [.slice A l.length c] ∧ c ≤ maxLen ∧ NL W (fun g => g < W.heap.size) (.slice A l.length c) l ∧ cL l + 1 ≤ Rows.uptoBulk x.1 ∧ ∀ M, Rows.uptoBulk x.1 ≤ M → AllN (SzM M) l := by
  intro fuel
  induction fuel using Nat.strongRecOn with
  | _ fuel ih =>
  intro cs x h
  rcases DataW.trod_slice Tryd.underlying30 h with ⟨rfl, rfl⟩ | ⟨a, len, cap, elems, rest, n, rfl, rfl, rfl, -, hl, hm, hlen, hel, -, -⟩
  · exact ⟨none, 0, [], rfl, Nat.zero_le _, .nil _ _, by rw [cL, Rows.uptoBulk]; omega, fun M _ => AllN.nil⟩
  · have key : ∀ i, i < len → ∃ z : Nd × Value × Value, ∃ y, elems[i]? = some y ∧ Six W (a.add (i * 6)) z.1 z.2.1 z.2.2 ∧ TL W (fun g => g < W.heap.size) z.2.1 z.1.list ∧ NL W (fun g => g < W.heap.size) z.2.2 z.1.nodes ∧ a.block < W.heap.size ∧ cN z.1 ≤ Rows.uptoBulk y.1 ∧ ∀ M, Rows.uptoBulk y.1 ≤ M → SzM M z.1 ∧ AllN (SzM M) z.1.nodes := by
      intro i hi
      have h1 := hel i hi
      obtain ⟨y, hy⟩ : ∃ y, elems[i]? = some y := ⟨_, List.getElem?_eq_getElem (by omega)⟩
      rw [hy, show Tryd.prog.cellsOf 48 = 6 by kernel_rfl, Option.bind_eq_some_iff] at h1
      obtain ⟨cs', hc', hy'⟩ := h1
      obtain ⟨_, hlen6, hcells⟩ := World.cells?_some hc'
      obtain ⟨xs, m, rfl, rfl, -, hxl, hf⟩ := DataW.trod_struct Tryd.underlying48 hy'
      have s1 : Tryd.prog.cellsOf 9 = 1 := by kernel_rfl
      have s2 : Tryd.prog.cellsOf 3 = 1 := by kernel_rfl
      have s3 : Tryd.prog.cellsOf 33 = 1 := by kernel_rfl
      have s4 : Tryd.prog.cellsOf 30 = 1 := by kernel_rfl
      match cs', hlen6, xs, hxl with
      | [c0, c1, c2, c3, c4, c5], _, [x0, x1, x2, x3, x4, x5], _ =>
        have f0 : DataW.trod enc Tryd.prog W 0 sp held m 9 [c0] = some x0 := by have h := hf 0 _ rfl; simp [s1] at h; exact h
        have f1 : DataW.trod enc Tryd.prog W 0 sp held m 3 [c1] = some x1 := by have h := hf 1 _ rfl; simp [s2] at h; exact h
        have f2 : DataW.trod enc Tryd.prog W 0 sp held m 3 [c2] = some x2 := by have h := hf 2 _ rfl; simp [s2] at h; exact h
        have f3 : DataW.trod enc Tryd.prog W 0 sp held m 9 [c3] = some x3 := by have h := hf 3 _ rfl; simp [s1] at h; exact h
        have f4 : DataW.trod enc Tryd.prog W 0 sp held m 33 [c4] = some x4 := by have h := hf 4 _ rfl; simp [s3] at h; exact h
        have f5 : DataW.trod enc Tryd.prog W 0 sp held m 30 [c5] = some x5 := by have h := hf 5 _ rfl; simp [s4] at h; exact h
        obtain ⟨nm, e0, ex0, _⟩ := DataW.trod_string Tryd.underlying9 f0
        obtain ⟨kd, e1, ex1, _⟩ := DataW.trod_int Tryd.underlying3 f1
        obtain ⟨nu, e2, ex2, hnu⟩ := DataW.trod_int Tryd.underlying3 f2
        obtain ⟨tx, e3, ex3, _⟩ := DataW.trod_string Tryd.underlying9 f3
        obtain ⟨A4, c4', ls, e4, _, htl, hb4, hs4⟩ := open_texts f4
        obtain ⟨A5, c5', ns, e5, _, hnl, hb5, hs5⟩ := ih _ (by omega) _ _ f5
        obtain rfl := (List.cons.inj e0).1
        obtain rfl := (List.cons.inj e1).1
        obtain rfl := (List.cons.inj e2).1
        obtain rfl := (List.cons.inj e3).1
        obtain rfl := (List.cons.inj e4).1
        obtain rfl := (List.cons.inj e5).1
        have b : ∀ j v, [Value.string nm, .int .i64 kd, .int .i64 nu, .string tx, .slice A4 ls.length c4', .slice A5 ns.length c5'][j]? = some v → W.cell? ((a.add (i * 6)).add j) = some v := fun j v hj => by
          rw [hcells j (by have := (List.getElem?_eq_some_iff.1 hj).1; simpa using this)]
          exact hj
        have hbulk : Rows.uptoBulk (H := H) (.agg ([x0, x1, x2, x3, x4, x5].map (·.1))) = Rows.uptoBulk x0.1 + (Rows.uptoBulk x1.1 + (Rows.uptoBulk x2.1 + (Rows.uptoBulk x3.1 + (Rows.uptoBulk x4.1 + (Rows.uptoBulk x5.1 + 0))))) + 1 := by
          simp only [List.map_cons, List.map_nil, Rows.uptoBulk, Rows.uptoBulkAll]
        have hx0 : Rows.uptoBulk x0.1 = nm.size + 1 := by rw [ex0]; exact str_bulk
        have hx3 : Rows.uptoBulk x3.1 = tx.size + 1 := by rw [ex3]; exact str_bulk
        refine ⟨(.mk nm kd nu tx ls ns, .slice A4 ls.length c4', .slice A5 ns.length c5'), _, hy, ⟨?_, ?_, ?_, ?_, ?_, ?_⟩, htl, hnl, ?_, ?_, ?_⟩
        · exact b 0 _ rfl
        · exact b 1 _ rfl
        · exact b 2 _ rfl
        · exact b 3 _ rfl
        · exact b 4 _ rfl
        · exact b 5 _ rfl
        · have := block_lt_of_cell (b 0 _ rfl)
          rwa [block_of_add, block_of_add] at this
        · rw [cN]
          simp only [hbulk]
          omega
        · intro M hM
          simp only [hbulk] at hM
          exact ⟨⟨by show nm.size ≤ M; omega, by show tx.size ≤ M; omega, fun s hs => by have := hs4 s hs; omega, bounds_i64 hnu⟩, hs5 M (by omega)⟩
    obtain ⟨L, hL, hp⟩ := exists_list len key
    have hlm : (L.map (·.1)).length = len := by simp [hL]
    have at_ : ∀ (k : Nat) t, (L.map (·.1))[k]? = some t → ∃ z, L[k]? = some z ∧ z.1 = t := fun k t hk => by
      rw [List.getElem?_map, Option.map_eq_some_iff] at hk
      exact hk
    have hbulk : Rows.uptoBulk (H := H) (.slice (elems.map (·.1)) (rest.map (·.1))) = Rows.uptoBulkAll (elems.map (·.1)) + Rows.uptoBulkAll (rest.map (·.1)) + 1 := by rw [Rows.uptoBulk]
    refine ⟨some a, cap, L.map (·.1), by rw [hlm], hm, ?_, ?_, ?_⟩
    · by_cases h0 : len = 0
      · have : L = [] := List.eq_nil_of_length_eq_zero (by omega)
        subst this
        exact .nil _ _
      · have hab : a.block < W.heap.size := by
          obtain ⟨z, hz⟩ : ∃ z, L[0]? = some z := ⟨_, List.getElem?_eq_getElem (by omega)⟩
          obtain ⟨_, _, _, _, _, h, _⟩ := hp 0 z hz
          exact h
        refine .row a cap _ (fun k => ((L[k]?).map (fun y => y.2.1)).getD (.slice none 0 0)) (fun k => ((L[k]?).map (fun y => y.2.2)).getD (.slice none 0 0)) (by rw [hlm]; exact hl) hab hab ?_ ?_ ?_
        all_goals
          intro k t hk
          obtain ⟨z, hz, rfl⟩ := at_ k t hk
          obtain ⟨y, _, h6, htl, hnl, _⟩ := hp k z hz
          simp only [hz, Option.map_some, Option.getD_some]
          assumption
    · rw [hbulk]
      have := sum_le (L.map (·.1)) elems (by rw [hlm, hlen]) (fun i t y hi hy => by
        obtain ⟨z, hz, rfl⟩ := at_ i t hi
        obtain ⟨y', hy', _, _, _, _, hb, _⟩ := hp i z hz
        rw [hy] at hy'
        injection hy' with hy'
        rw [hy']
        exact hb)
      omega
    · intro M hM
      rw [hbulk] at hM
      have each : ∀ t ∈ L.map (·.1), SzM M t ∧ AllN (SzM M) t.nodes := fun t ht => by
        obtain ⟨k, hk⟩ := List.getElem?_of_mem ht
        obtain ⟨z, hz, rfl⟩ := at_ k t hk
        obtain ⟨y, hy, _, _, _, _, _, hb⟩ := hp k z hz
        have := mem_le (elems.map (·.1)) y.1 (List.mem_map.2 ⟨y, List.mem_of_getElem? hy, rfl⟩)
        exact hb M (by omega)
      exact .mk _ (fun t ht => (each t ht).1) (fun t ht => (each t ht).2)
end
/-! The law's nodes. -/
mutual
def nsN : Nd → Nat
  | .mk _ _ _ _ ls ns => nsG ns ns.length + ls.length
def nsG : List Nd → Nat → Nat
  | [], n => n
  | t :: r, n => if n < 300 then nsG r (n + nsN t) else n
end
def nsR (l : List Nd) : Nat := nsG l l.length
theorem nsN_eq (t : Nd) : nsN t = nsR t.nodes + t.list.length := by cases t; rw [nsN]; rfl
theorem cL_len : ∀ l : List Nd, l.length ≤ cL l
  | [] => by simp
  | t :: l => by rw [cL, cN_eq, List.length_cons]; have := cL_len l; omega
theorem cL_mem : ∀ {l : List Nd} {t : Nd}, t ∈ l → cN t ≤ cL l
  | [], t, h => by simp at h
  | u :: l, t, h => by
    rw [cL]
    rcases List.mem_cons.1 h with rfl | h
    · omega
    · have := cL_mem h; omega
theorem nsG_le : ∀ (N : Nat) (l : List Nd) (n : Nat), SizeOf.sizeOf l < N → nsG l n ≤ n + cL l - l.length := by
  intro N
  induction N with
  | zero => intro l n h; omega
  | succ N ih =>
    intro l n h
    cases l with
    | nil => rw [nsG, cL]; simp
    | cons t r =>
      have hr : SizeOf.sizeOf r < N := by simp at h; omega
      have ht : SizeOf.sizeOf t.nodes < N := by have := Nd.nodes_lt t; simp at h; omega
      have h1 := ih r (n + nsN t) hr
      have h2 := ih t.nodes t.nodes.length ht
      have h3 := cL_len r
      have h4 := cL_len t.nodes
      rw [nsG, cL, cN_eq, List.length_cons]
      rw [nsN_eq] at h1 ⊢
      unfold nsR at h1 ⊢
      split <;> omega
theorem nsR_le (l : List Nd) : nsR l ≤ cL l := by
  have := nsG_le _ l l.length (Nat.lt_succ_self _)
  have := cL_len l
  unfold nsR
  omega
theorem nsG_mono : ∀ (l : List Nd) (n : Nat), n ≤ nsG l n
  | [], n => by rw [nsG]; omega
  | t :: r, n => by
    rw [nsG]
    have := nsG_mono r (n + nsN t)
    split <;> omega
theorem nsG_all : ∀ (l : List Nd) (n : Nat), nsG l n ≤ 100 → ∀ t ∈ l, nsN t ≤ 100
  | [], n, _, t, ht => by simp at ht
  | u :: r, n, h, t, ht => by
    have hn := nsG_mono (u :: r) n
    have hlt : n < 300 := by omega
    rw [nsG, if_pos hlt] at h
    have h1 := nsG_mono r (n + nsN u)
    rcases List.mem_cons.1 ht with rfl | ht
    · omega
    · exact nsG_all r _ h t ht
theorem nsG_cnt : ∀ (N : Nat) (l : List Nd) (n : Nat), SizeOf.sizeOf l < N → nsG l n ≤ 100 → n + cntL l ≤ nsG l n + l.length := by
  intro N
  induction N with
  | zero => intro l n h; omega
  | succ N ih =>
    intro l n h hle
    cases l with
    | nil => rw [nsG, cntL]; simp
    | cons t r =>
      have hr : SizeOf.sizeOf r < N := by simp at h; omega
      have ht : SizeOf.sizeOf t.nodes < N := by have := Nd.nodes_lt t; simp at h; omega
      have hn := nsG_mono (t :: r) n
      have hlt : n < 300 := by omega
      rw [nsG, if_pos hlt] at hle ⊢
      have h1 := ih r (n + nsN t) hr hle
      have h0 := nsG_mono r (n + nsN t)
      rw [nsN_eq] at h1 h0 ⊢
      unfold nsR at h1 h0 ⊢
      have h2 := ih t.nodes t.nodes.length ht (by rw [nsN_eq] at hle; unfold nsR at hle; omega)
      rw [cntL, cntN_eq, List.length_cons]
      omega
theorem nsR_cnt {l : List Nd} (h : nsR l ≤ 100) : cntL l ≤ 100 := by
  have := nsG_cnt _ l l.length (Nat.lt_succ_self _) h
  unfold nsR at h
  omega
theorem nsR_all {l : List Nd} (h : nsR l ≤ 100) : l.length ≤ 100 ∧ ∀ t ∈ l, t.list.length ≤ 100 ∧ nsR t.nodes ≤ 100 := by
  refine ⟨Nat.le_trans (nsG_mono l l.length) h, fun t ht => ?_⟩
  have := nsG_all l l.length h t ht
  rw [nsN_eq] at this
  omega
theorem small_ns : ∀ (N : Nat) (l : List Nd), SizeOf.sizeOf l < N → nsR l ≤ 100 → Small l := by
  intro N
  induction N with
  | zero => intro l h; omega
  | succ N ih =>
    intro l h hr
    have h2 := nsR_all hr
    exact .mk l (by omega) (fun t ht => by have := h2.2 t ht; omega) (fun t ht => ih _ (by have := Nd.nodes_lt_of ht; omega) (h2.2 t ht).2)
theorem fit_ns {M : Nat} (hM : M ≤ 2000000) : ∀ (N : Nat) (l : List Nd), SizeOf.sizeOf l < N → nsR l ≤ 100 → AllN (SzM M) l → Fit l := by
  intro N
  induction N with
  | zero => intro l h; omega
  | succ N ih =>
    intro l h hr ha
    have h2 := nsR_all hr
    exact .mk l (by omega) (fun t ht => by have := (ha.all.1 t ht).name; omega) (fun t ht => by have := (ha.all.1 t ht).text; omega) (fun t ht => by have := h2.2 t ht; omega)
      (fun t ht s hs => by have := (ha.all.1 t ht).list s hs; omega) (fun t ht => ih _ (by have := Nd.nodes_lt_of ht; omega) (h2.2 t ht).2 (ha.all.2 t ht))
/-! How long the text is. -/
theorem qT_lenM {s : ByteArray} {M : Nat} (h : s.size ≤ M) : (qT s).data.toList.length ≤ 2 * M + 2 := by
  show (quoteL s.data.toList).length ≤ _
  rw [quote_len]
  have := escL_len s.data.toList
  rw [size_list] at this
  omega
theorem joinQ_lenM {l : List ByteArray} {M : Nat} (h1 : l.length ≤ 100) (h2 : ∀ s ∈ l, s.size ≤ M) : (joinQ l).data.toList.length ≤ 100 * (2 * M + 4) := by
  rw [joinQ_eq]
  have := join_len (M := 2 * M + 2) [44, 32] (l.map (fun s => quoteL s.data.toList)) (fun x hx => by
    obtain ⟨s, hs, rfl⟩ := List.mem_map.1 hx
    exact qT_lenM (h2 s hs))
  rw [List.length_map] at this
  simp only [List.length_cons, List.length_nil] at this
  have h3 : l.length * (0 + 1 + 1 + (2 * M + 2)) ≤ 100 * (0 + 1 + 1 + (2 * M + 2)) := Nat.mul_le_mul_right _ h1
  omega
theorem node_lenM {sub : Nat → List Nd → List UInt8} {d : Nat} {t : Nd} (hd : d ≤ 8) (ht : SzM 1048576 t) (hl : t.list.length ≤ 100) (hs : (sub (d + 1) t.nodes).length ≤ cntL t.nodes * 1000000000) : (nodeL sub d t).length ≤ (1 + cntL t.nodes) * 1000000000 := by
  have h0 := ht.name
  have key : (nodeL sub d t).length ≤ 1000000000 + (sub (d + 1) t.nodes).length := by
    unfold nodeL
    split
    · have h1 := line_len3 d hd t.name eqB (bsT (Lib.itoa t.num))
      have h2 := itoa_len ht.num.1 ht.num.2
      have e1 : eqB.size = 3 := rfl
      have e2 : (bsT (Lib.itoa t.num)).data.toList = Lib.itoa t.num := rfl
      rw [e1, e2] at h1
      omega
    · split
      · have h1 := line_len3 d hd t.name eqB (qT t.text)
        have h2 := qT_lenM ht.text
        have e1 : eqB.size = 3 := rfl
        rw [e1] at h1
        omega
      · split
        · have h2 := joinQ_lenM hl ht.list
          rw [lineB_len]
          simp only [List.flatMap_cons, List.flatMap_nil, List.length_append, List.length_nil]
          have e1 : opB.data.toList.length = 4 := rfl
          have e2 : clB.data.toList.length = 1 := rfl
          rw [e1, e2, size_list]
          omega
        · have h1 := line_len2 d hd t.name obB
          have e1 : obB.size = 2 := rfl
          have h3 : (lineB d [cbB]).length = 2 * d + 1 + 1 := by rw [lineB_len]; rfl
          rw [e1] at h1
          rw [List.length_append, List.length_append, h3]
          omega
  rw [Nat.add_mul]
  omega
def Szs (t : Nd) : Prop := SzM 1048576 t ∧ t.list.length ≤ 100
theorem lines_lenM : ∀ (k d : Nat), d + k ≤ 8 → ∀ l : List Nd, AllN Szs l → (linesF k d l).length ≤ cntL l * 1000000000 := by
  intro k
  induction k with
  | zero =>
    intro d hd l
    induction l with
    | nil => intro _; rw [linesL_eq]; simp
    | cons t l ih =>
      intro h
      have h1 := h.all.1 t (by simp)
      have h2 := ih (.mk l (fun x hx => h.all.1 x (by simp [hx])) (fun x hx => h.all.2 x (by simp [hx])))
      have h3 := node_lenM (sub := subL 0) (d := d) (by omega) h1.1 h1.2 (by simp [subL])
      rw [linesL_eq] at h2 ⊢
      rw [List.flatMap_cons, List.length_append, cntL, cntN_eq]
      rw [Nat.add_mul]
      omega
  | succ k ihk =>
    intro d hd l
    induction l with
    | nil => intro _; rw [linesL_eq]; simp
    | cons t l ih =>
      intro h
      have h1 := h.all.1 t (by simp)
      have h2 := ih (.mk l (fun x hx => h.all.1 x (by simp [hx])) (fun x hx => h.all.2 x (by simp [hx])))
      have h3 := node_lenM (sub := subL (k + 1)) (d := d) (by omega) h1.1 h1.2 (ihk (d + 1) (by omega) t.nodes (h.all.2 t (by simp)))
      rw [linesL_eq] at h2 ⊢
      rw [List.flatMap_cons, List.length_append, cntL, cntN_eq]
      rw [Nat.add_mul]
      omega
theorem szs_ns : ∀ (N : Nat) (l : List Nd), SizeOf.sizeOf l < N → nsR l ≤ 100 → AllN (SzM 1048576) l → AllN Szs l := by
  intro N
  induction N with
  | zero => intro l h; omega
  | succ N ih =>
    intro l h hr ha
    have h2 := nsR_all hr
    exact .mk l (fun t ht => ⟨ha.all.1 t ht, (h2.2 t ht).1⟩) (fun t ht => ih _ (by have := Nd.nodes_lt_of ht; omega) (h2.2 t ht).2 (ha.all.2 t ht))
theorem lines_ns {l : List Nd} (h : nsR l ≤ 100) (ha : AllN (SzM 1048576) l) : (linesF 8 0 l).length ≤ 140737488355328 := by
  have := lines_lenM 8 0 (by omega) l (szs_ns _ l (Nat.lt_succ_self _) h ha)
  have := nsR_cnt h
  have : cntL l * 1000000000 ≤ 100 * 1000000000 := Nat.mul_le_mul_right _ this
  omega
/-! The walk of nodes. -/
theorem nsG_drop {l : List Nd} {k m : Nat} {t : Nd} (h : l[k]? = some t) (hm : m < 300) : nsG (l.drop k) m = nsG (l.drop (k + 1)) (m + nsN t) := by
  obtain ⟨hk, e⟩ := List.getElem?_eq_some_iff.1 h
  rw [List.drop_eq_getElem_cons hk, e, nsG, if_pos hm]
theorem nsG_stop {l : List Nd} {m : Nat} (hm : ¬ m < 300) : nsG l m = m := by
  cases l with
  | nil => rw [nsG]
  | cons t r => rw [nsG, if_neg hm]
set_option maxHeartbeats 4000000 in
theorem nodes_any : ∀ (N : Nat) (l : List Nd), SizeOf.sizeOf l < N → ∀ {w : World} {S : Nat → Prop} {A : Option Addr} {c : Nat}, NL w S (.slice A l.length c) l → cL l ≤ 1048576 →
    Calls Tryd.prog 25 #[.slice A l.length c] w (Ret (.int .i64 ((nsR l : Nat) : Int)) w) := by
  intro N
  induction N with
  | zero => intro l h; exact absurd h (Nat.not_lt_zero _)
  | succ N ih =>
  intro l hN w S A c hl hcnt
  have hlen : l.length ≤ 1048576 := by have := cL_len l; omega
  have hrl := nsR_le l
  have HL := Lib.hid hl
  have IH := Lib.hid ih
  clear hl ih
  go_enter Tryd.func25, Tryd.ntmps25
  go_wp2_with fail
  go_loopw [3, 4] (fun n i wx => ∃ k m : Nat, k ≤ l.length ∧ i = .int .i64 (k : Int) ∧ n = .int .i64 (m : Int) ∧ nsG (l.drop k) m = nsR l ∧ Below w.heap.size w wx) (fun _ i _ => l.length - (intOf i).toNat)
  case atStart => exact ⟨0, l.length, by omega, rfl, rfl, by rw [List.drop_zero]; rfl, Below.refl _ _⟩
  case round =>
    obtain ⟨k, m, hk, rfl, rfl, hm, hb⟩ := hrel
    have HB := Lib.hid hb
    have hmm := nsG_mono (l.drop k) m
    have hmz : m ≤ 1048576 := by omega
    have HM := Lib.hid hm
    clear hm hmm hb
    by_cases hlt : k < l.length
    · have z0 : (k : Int) < (l.length : Int) := by omega
      have z1 : (0 : Int) ≤ (k : Int) := by omega
      by_cases h300 : m < 300
      · have z3 : (m : Int) < 300 := by omega
        obtain ⟨ad, x, xl, xn, rfl, hx, _, had, h6, htl, hnl⟩ := HL.out.at_ hlt
        have hxm := List.mem_of_getElem? hx
        obtain ⟨Bx, dx, rfl, _⟩ := hnl.form
        obtain ⟨By, dy, rfl, _⟩ := id htl
        have hadb : (ad.add (k * 6)).block < w.heap.size := by rw [block_of_add]; exact had
        have H6 := Lib.hid (show ∀ wx, Below w.heap.size w wx → Six wx (ad.add (k * 6)) x _ _ from fun wx hb => h6.keep (S := fun _ => True) (Kept.of_below hb) trivial hadb)
        have hsz := Nd.nodes_lt_of hxm
        have hcx := cL_mem hxm
        rw [cN_eq] at hcx
        have HC := Lib.hid (fun wx (hb : Below w.heap.size w wx) => IH.out x.nodes (by omega) (hnl.up hb) (by omega))
        have hd := nsG_drop hx h300
        rw [HM.out] at hd
        have h5 := nsG_mono (l.drop (k + 1)) (m + nsN x)
        have h8 := nsR_le x.nodes
        rw [nsN_eq] at h5
        obtain ⟨cx, hcx2⟩ : ∃ cx, nsR x.nodes = cx := ⟨_, rfl⟩
        rw [nsN_eq] at hd
        rw [hcx2] at HC hd h5 h8
        have HD := Lib.hid hd
        have hb1 : cx + x.list.length ≤ 1048576 := by omega
        have hb2 : m + (cx + x.list.length) ≤ 1048576 := by omega
        have p4 := (H6.out wr HB.out).c4
        have p5 := (H6.out wr HB.out).c5
        have e1 : IntKind.i64.wrap ((cx : Int) + (x.list.length : Int)) = (cx : Int) + (x.list.length : Int) := IntWalk.i64_in _ (by omega)
        have e2 : IntKind.i64.wrap ((m : Int) + ((cx : Int) + (x.list.length : Int))) = (m : Int) + ((cx : Int) + (x.list.length : Int)) := IntWalk.i64_in _ (by omega)
        clear hd h5 h8 hx hcx htl hnl h6 hsz HM hcx2
        go_wp2_with fail
        go_region_held3 (fun w' => w'.cell? ⟨(ad.add (k * 6)).block, (ad.add (k * 6)).off + 4, none⟩ = some (.slice By x.list.length dy) ∧ w'.cell? ⟨(ad.add (k * 6)).block, (ad.add (k * 6)).off + 5, none⟩ = some (.slice Bx x.nodes.length dx))
          (first | exact ⟨(H6.out _ HB.out.drew).c4, (H6.out _ HB.out.drew).c5⟩ | exact ⟨(H6.out _ HB5.out).c4, (H6.out _ HB5.out).c5⟩) (first
          | (go_at_call 25; refine (HC.out _ HB.out.drew).mono ?_; rintro e w5 ⟨rfl, hb5⟩; have HB5 := Lib.hid (HB.out.drew.next hb5); clear hb5; skip))
        all_goals
          go_wp2_with fail
          go_roundw
          case rel => exact ⟨k + 1, m + (cx + x.list.length), by omega, by go_num, by first | go_num | (simp only [e1, e2]; rfl), HD.out.symm, HB5.out⟩
          case measure => simp [intOf]; omega
      · have z3 : ¬ (m : Int) < 300 := by omega
        have HE := Lib.hid (show m = nsR l from (nsG_stop h300).symm.trans HM.out)
        go_wp2_with fail
        go_ret
        exact ⟨by rw [HE.out]; rfl, HB.out⟩
    · obtain rfl : k = l.length := by omega
      have HE := Lib.hid (show m = nsR l by have := HM.out; rw [List.drop_length, nsG] at this; exact this)
      go_wp2_with fail
      go_ret
      exact ⟨by rw [HE.out]; rfl, HB.out⟩
end Go.Proofs.YtfmdbmalmeimbaaDoor
