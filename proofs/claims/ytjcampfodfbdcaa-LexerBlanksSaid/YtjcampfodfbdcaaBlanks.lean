/- Blanks between tokens, in plain mathematics. -/
import Derived.Test.YtjcampfodfbdcaaPlaces
import Derived.Test.YtjcampfodfbdcaaWalkQuotes
namespace Go.Proofs.Ytjcampfodfbdcaa
open Go.RowKit

/-- a token that can be written again -/
inductive TokOk : Int → List UInt8 → Prop
  | name (l : List UInt8) (h : ∀ x ∈ l, letterN x.toNat = true) (h0 : l ≠ []) (hn : numV l = none) : TokOk 1 l
  | num : TokOk 2 []
  | text (l : List UInt8) (h : l.all qok = true) : TokOk 3 l
  | sign (c : UInt8) (h : signN c.toNat = true) : TokOk 4 [c]
def spellL (t : Tk) : List UInt8 := if t.kind = 3 then quoteL t.text.data.toList else t.text.data.toList
def costL (l : List Tk) : Nat := (l.map (fun t => (spellL t).length + 8)).sum
theorem quote_cost (l : List UInt8) : (quoteL l).length ≤ 2 * l.length + 2 := by
  rw [quote_len]
  have := escL_len l
  omega
theorem spell_cost (t : Tk) : (spellL t).length + 8 ≤ 2 * t.text.size + 10 := by
  have hs := size_list t.text
  unfold spellL
  split
  · have := quote_cost t.text.data.toList
    omega
  · omega
theorem txt_ok : ∀ (n : Nat) (l acc : List UInt8) (x : List UInt8 × Nat), l.length ≤ n → txt l acc = some x → acc.all qok = true → x.1.all qok = true ∧ x.1.length + 1 ≤ acc.length + x.2 := by
  intro n
  induction n with
  | zero =>
    intro l acc x hl h
    have : l = [] := List.eq_nil_of_length_eq_zero (by omega)
    subst this
    rw [txt_nil] at h; cases h
  | succ n ih =>
    intro l acc x hl h ha
    cases l with
    | nil => rw [txt_nil] at h; cases h
    | cons c r =>
      have app : ∀ d : UInt8, qok d = true → (acc ++ [d]).all qok = true := fun d hd => by rw [List.all_append, ha]; simp [hd]
      by_cases h34 : c.toNat = 34
      · rw [txt_end h34] at h
        injection h with h; subst h
        exact ⟨ha, by simp⟩
      by_cases hr : c.toNat < 32 ∨ 126 < c.toNat
      · rw [txt_bad hr] at h; cases h
      have qc : ∀ d : UInt8, ¬ (d.toNat < 32 ∨ 126 < d.toNat) → qok d = true := fun d hd => by
        unfold qok
        rw [decide_eq_true (show 32 ≤ d.toNat by omega), decide_eq_true (show d.toNat ≤ 126 by omega)]
        simp
      by_cases h92 : c.toNat = 92
      · cases r with
        | nil => rw [txt_esc0 h92] at h; cases h
        | cons d r2 =>
          by_cases hd : d.toNat = 34 ∨ d.toNat = 92
          · rw [txt_esc h92 hd] at h
            obtain ⟨y, hy, rfl⟩ := Option.map_eq_some_iff.1 h
            have := ih r2 _ y (by simp at hl; omega) hy (app d (qc d (by omega)))
            simp at this ⊢
            exact ⟨this.1, by omega⟩
          by_cases hd3 : d.toNat = 110
          · rw [txt_escn h92 hd3] at h
            obtain ⟨y, hy, rfl⟩ := Option.map_eq_some_iff.1 h
            have := ih r2 _ y (by simp at hl; omega) hy (app 10 rfl)
            simp at this ⊢
            exact ⟨this.1, by omega⟩
          · rw [txt_escx h92 (by omega) (by omega) hd3] at h; cases h
      · rw [txt_plain h34 hr h92] at h
        obtain ⟨y, hy, rfl⟩ := Option.map_eq_some_iff.1 h
        have := ih r _ y (by simp at hl; omega) hy (app c (qc c hr))
        simp at this ⊢
        exact ⟨this.1, by omega⟩
theorem step_ok {d : List UInt8} {k nu : Int} {t : List UInt8} {n : Nat} (h : stepD d = .tok k t nu n) : TokOk k t ∧ t.length ≤ n := by
  unfold stepD at h
  split at h
  · cases h
  · rename_i c r
    split at h
    · cases h
    · split at h
      · cases h
      · split at h
        · unfold textS at h
          split at h
          · rename_i x hx
            injection h with h1 h2 h3 h4
            have := txt_ok r.length r [] x (Nat.le_refl _) hx rfl
            subst h1 h2 h4
            exact ⟨.text _ this.1, by have := this.2; simp at this; omega⟩
          · cases h
        · split at h
          · rename_i hsg
            injection h with h1 h2 h3 h4
            subst h1 h2 h4
            exact ⟨.sign c hsg, Nat.le_refl _⟩
          · split at h
            · rename_i hl
              unfold wordS at h
              split at h
              · rename_i hn
                injection h with h1 h2 h3 h4
                subst h1 h2 h4
                refine ⟨.name _ (fun x hx => word_mem _ _ hx) (fun e => ?_) hn, Nat.le_refl _⟩
                have := word_pos (r := r) hl
                rw [e] at this
                exact absurd this (by decide)
              · split at h
                · cases h
                · injection h with h1 h2 h3 h4
                  subst h1 h2
                  exact ⟨.num, Nat.zero_le _⟩
            · cases h
def OkT (t : Tk) : Prop := TokOk t.kind t.text.data.toList
/-- what a good text gives -/
theorem lexW_ok (b : List UInt8) : ∀ (n i : Nat) (out : List Tk), b.length - i ≤ n → (lexW b i out).err = 0 → ∃ l L C, lexW b i out = ⟨out ++ l ++ [⟨5, ⟨#[]⟩, 0, L, C⟩], 0, 0, 0⟩ ∧ (∀ t ∈ l, OkT t) ∧ costL l ≤ 12 * (b.length - i) := by
  intro n
  induction n with
  | zero =>
    intro i out hn he
    rw [lexW_end (by omega)]
    exact ⟨[], _, _, by rw [List.append_nil], by simp, by simp [costL]⟩
  | succ n ih =>
    intro i out hn he
    by_cases h : i < b.length
    · cases hs : stepD (b.drop i) with
      | skip m =>
        have hm := step_skip hs
        rw [lexW_skip h hs hm.1] at he ⊢
        obtain ⟨l, L, C, h1, h2, h3⟩ := ih (i + m) out (by omega) he
        exact ⟨l, L, C, h1, h2, by omega⟩
      | tok k t nu m =>
        have hm := step_tok hs
        have hk := step_ok hs
        rw [List.length_drop] at hm
        rw [lexW_tok h hs hm.1] at he ⊢
        obtain ⟨l, L, C, h1, h2, h3⟩ := ih (i + m) _ (by omega) he
        refine ⟨⟨k, ⟨t.toArray⟩, nu, (posAt b i).1, (posAt b i).2⟩ :: l, L, C, by rw [h1]; simp, ?_, ?_⟩
        · intro x hx
          rcases List.mem_cons.1 hx with rfl | hx
          · exact hk.1
          · exact h2 x hx
        · have hc := spell_cost ⟨k, ⟨t.toArray⟩, nu, (posAt b i).1, (posAt b i).2⟩
          rw [sz_arr] at hc
          have hk2 := hk.2
          unfold costL at h3 ⊢
          rw [List.map_cons, List.sum_cons]
          omega
      | bad e =>
        rw [lexW_bad h hs] at he
        exact absurd he (step_err hs)
    · rw [lexW_end h]
      exact ⟨[], _, _, by rw [List.append_nil], by simp, by simp [costL]⟩

/-- a text of blanks and comments that ends a word -/
structure Blank (bw : List UInt8) : Prop where
  run : ∀ (b rest : List UInt8) (i : Nat) (out : List Tk), b.drop i = bw ++ rest → lexW b i out = lexW b (i + bw.length) out
  head : ∃ c r, bw = c :: r ∧ letterN c.toNat = false
theorem drop_more {b x y : List UInt8} {i n : Nat} (h : b.drop i = x ++ y) (hn : x.length = n) : b.drop (i + n) = y := by
  rw [← List.drop_drop, h, List.drop_left' hn]
theorem lt_of_drop {b y : List UInt8} {i : Nat} {c : UInt8} (h : b.drop i = c :: y) : i < b.length := by
  rcases Nat.lt_or_ge i b.length with hh | hh
  · exact hh
  · rw [List.drop_of_length_le hh] at h; cases h
theorem skip_blank {b y : List UInt8} {i : Nat} {c : UInt8} (h : b.drop i = c :: y) (hc : c.toNat = 32 ∨ c.toNat = 9 ∨ c.toNat = 10) (out : List Tk) : lexW b i out = lexW b (i + 1) out ∧ b.drop (i + 1) = y :=
  ⟨lexW_skip (lt_of_drop h) (by rw [h]; exact step_blank hc) (by omega), drop_more (x := [c]) h rfl⟩
theorem blank_one {c : UInt8} (hc : c.toNat = 32 ∨ c.toNat = 9 ∨ c.toNat = 10) : Blank [c] := by
  refine ⟨fun b rest i out h => (skip_blank h hc out).1, c, [], rfl, ?_⟩
  unfold letterN
  rcases hc with h | h | h <;> rw [h] <;> rfl
theorem skip_comment {b y m : List UInt8} {i : Nat} (h : b.drop i = 35 :: (m ++ 10 :: y)) (hm : m.all (fun c => decide (c.toNat ≠ 10)) = true) (out : List Tk) : lexW b i out = lexW b (i + (m.length + 1)) out ∧ b.drop (i + (m.length + 1)) = 10 :: y := by
  have ht : ((35 : UInt8) :: (m ++ 10 :: y)).takeWhile (fun c => decide (c.toNat ≠ 10)) = 35 :: m := by
    rw [List.takeWhile_cons, if_pos (by decide)]
    congr 1
    rw [List.takeWhile_append_of_pos (fun c hc => List.all_eq_true.1 hm c hc), List.takeWhile_cons, if_neg (by decide), List.append_nil]
  refine ⟨lexW_skip (lt_of_drop h) ?_ (by omega), drop_more (x := 35 :: m) (by rw [h]; rfl) rfl⟩
  rw [h, step_comment rfl, ht]
  rfl
theorem blank_c1 : Blank [35, 120, 10] := by
  refine ⟨fun b rest i out h => ?_, _, _, rfl, rfl⟩
  obtain ⟨h1, h2⟩ := skip_comment (m := [120]) (y := rest) h rfl out
  obtain ⟨h3, h4⟩ := skip_blank h2 (.inr (.inr rfl)) out
  rw [h1, h3]
  rfl
theorem blank_c2 : Blank [32, 35, 32, 34, 32, 35, 10, 10] := by
  refine ⟨fun b rest i out h => ?_, _, _, rfl, rfl⟩
  obtain ⟨g1, g2⟩ := skip_blank (y := 35 :: ([32, 34, 32, 35] ++ 10 :: (10 :: rest))) h (.inl rfl) out
  obtain ⟨h1, h2⟩ := skip_comment g2 rfl out
  obtain ⟨h3, h4⟩ := skip_blank h2 (.inr (.inr rfl)) out
  obtain ⟨h5, h6⟩ := skip_blank h4 (.inr (.inr rfl)) out
  rw [g1, h1, h3, h5]
  rfl
/-- a token's spelling is read as this token -/
theorem step_spell {bw : List UInt8} (hb : Blank bw) (rest : List UInt8) {t : Tk} (h : OkT t) (h2 : t.kind ≠ 2) : 0 < (spellL t).length ∧ stepD (spellL t ++ (bw ++ rest)) = .tok t.kind t.text.data.toList 0 (spellL t).length := by
  obtain ⟨c, r, hbw, hc⟩ := hb.head
  obtain ⟨k, tx, nu, L, C⟩ := t
  simp only [OkT] at h h2 ⊢
  unfold spellL
  simp only
  generalize tx.data.toList = l at h ⊢
  cases h with
  | name _ hl h0 hn =>
    rw [if_neg (by decide)]
    cases l with
    | nil => exact absurd rfl h0
    | cons d l =>
      refine ⟨by simp, ?_⟩
      have hw : wordL ((d :: l) ++ (bw ++ rest)) = d :: l := by
        unfold wordL
        rw [List.takeWhile_append_of_pos hl, hbw, show (c :: r) ++ rest = c :: (r ++ rest) from rfl, List.takeWhile_cons (a := c), if_neg (by rw [hc]; exact Bool.false_ne_true), List.append_nil]
      rw [List.cons_append] at hw ⊢
      rw [step_word (hl d (List.mem_cons_self ..)), hw]
      unfold wordS
      rw [hn]
  | num => exact absurd rfl h2
  | text _ hq =>
    rw [if_pos rfl]
    exact ⟨by rw [quote_len]; omega, step_quote l hq _⟩
  | sign c hs =>
    rw [if_neg (by decide)]
    exact ⟨by simp, step_sign hs⟩
def kt (t : Tk) : Int × ByteArray := (t.kind, t.text)
theorem ba_list (s : ByteArray) : (⟨s.data.toList.toArray⟩ : ByteArray) = s := rfl
/-- what was written again is read again -/
theorem lex_joined {bw : List UInt8} (hb : Blank bw) : ∀ (ts : List Tk) (b : List UInt8) (i : Nat) (out : List Tk), (∀ t ∈ ts, OkT t ∧ t.kind ≠ 2) → i ≤ b.length → b.drop i = ts.flatMap (fun t => spellL t ++ bw) →
    ∃ l L C, lexW b i out = ⟨out ++ l ++ [⟨5, ⟨#[]⟩, 0, L, C⟩], 0, 0, 0⟩ ∧ l.map kt = ts.map kt := by
  intro ts
  induction ts with
  | nil =>
    intro b i out _ hi h
    have : b.length ≤ i := by
      rcases Nat.lt_or_ge i b.length with hlt | hge
      · rw [List.drop_eq_getElem_cons hlt] at h; cases h
      · exact hge
    rw [lexW_end (by omega)]
    exact ⟨[], _, _, by rw [List.append_nil], rfl⟩
  | cons t ts ih =>
    intro b i out ht hi h
    have h' : b.drop i = spellL t ++ (bw ++ ts.flatMap (fun t => spellL t ++ bw)) := by rw [h, List.flatMap_cons, List.append_assoc]
    obtain ⟨hp, hst⟩ := step_spell hb (ts.flatMap (fun t => spellL t ++ bw)) (ht t (List.mem_cons_self ..)).1 (ht t (List.mem_cons_self ..)).2
    rw [← h'] at hst
    have hd := drop_more h' rfl
    have hlen : i + (spellL t).length ≤ b.length := by
      have := congrArg List.length h'
      rw [List.length_drop, List.length_append] at this
      omega
    have hlt : i < b.length := by omega
    have hd2 := drop_more hd rfl
    have hlen2 : i + (spellL t).length + bw.length ≤ b.length := by
      have := congrArg List.length hd
      rw [List.length_drop, List.length_append] at this
      omega
    obtain ⟨l, L, C, h1, h2⟩ := ih b (i + (spellL t).length + bw.length) (out ++ [⟨t.kind, ⟨t.text.data.toList.toArray⟩, 0, (posAt b i).1, (posAt b i).2⟩]) (fun x hx => ht x (List.mem_cons_of_mem _ hx)) hlen2 hd2
    rw [lexW_tok hlt hst hp, hb.run b _ _ _ hd, h1]
    refine ⟨⟨t.kind, ⟨t.text.data.toList.toArray⟩, 0, (posAt b i).1, (posAt b i).2⟩ :: l, L, C, by simp, ?_⟩
    rw [List.map_cons, List.map_cons, h2]
    rfl
def keepT (t : Tk) : Bool := decide (t.kind ≠ 2)
def joinL (bw : List UInt8) (l : List Tk) : List UInt8 := bw ++ (l.filter keepT).flatMap (fun t => spellL t ++ bw)
theorem join_len {bw : List UInt8} (hb : bw.length ≤ 8) (l : List Tk) : (joinL bw l).length ≤ 8 + costL l := by
  unfold joinL
  rw [List.length_append]
  have : ((l.filter keepT).flatMap (fun t => spellL t ++ bw)).length ≤ costL l := by
    induction l with
    | nil => simp [costL]
    | cons t l ih =>
      have e : costL (t :: l) = (spellL t).length + 8 + costL l := by simp [costL]
      rw [e, List.filter_cons]
      split
      · rw [List.flatMap_cons, List.length_append, List.length_append]; omega
      · omega
  omega
theorem lexR_ok {b : List UInt8} {a : List Tk} {li co : Nat} (h : lexR b = ⟨a, li, co, 0⟩) : ∃ l L C, a = l ++ [⟨5, ⟨#[]⟩, 0, L, C⟩] ∧ (∀ t ∈ l, OkT t) ∧ costL l ≤ 12 * b.length := by
  unfold lexR at h
  split at h
  · injection h with _ _ _ h4
    exact absurd h4 (by decide)
  · obtain ⟨l, L, C, h1, h2, h3⟩ := lexW_ok b b.length 0 [] (by omega) (by rw [h])
    rw [h1] at h
    injection h with h4
    exact ⟨l, L, C, h4.symm, h2, h3⟩
theorem lexR_join {bw : List UInt8} (hb : Blank bw) (hl : bw.length ≤ 8) {l : List Tk} (h : ∀ t ∈ l, OkT t) (hc : costL l ≤ 8000) : ∃ l' L C, lexR (joinL bw l) = ⟨l' ++ [⟨5, ⟨#[]⟩, 0, L, C⟩], 0, 0, 0⟩ ∧ l'.map kt = (l.filter keepT).map kt := by
  have hlen := join_len hl l
  unfold lexR
  rw [if_neg (by omega), hb.run _ _ 0 [] (show (joinL bw l).drop 0 = bw ++ (l.filter keepT).flatMap (fun t => spellL t ++ bw) from rfl)]
  obtain ⟨l', L, C, h1, h2⟩ := lex_joined hb (l.filter keepT) (joinL bw l) (0 + bw.length) [] (fun t ht => by
      have := List.mem_filter.1 ht
      exact ⟨h t this.1, of_decide_eq_true this.2⟩) (by unfold joinL; rw [List.length_append]; omega) (drop_more (x := bw) (i := 0) rfl rfl)
  exact ⟨l', L, C, h1, h2⟩
/-- which token of those that are kept a token is -/
theorem filter_at {α : Type} (p : α → Bool) (l : List α) (i : Nat) (t : α) (h : l[i]? = some t) (hp : p t = true) : (l.filter p)[((l.take i).filter p).length]? = some t := by
  obtain ⟨hk, e⟩ := List.getElem?_eq_some_iff.1 h
  have : l = l.take i ++ t :: l.drop (i + 1) := by rw [← e, ← List.drop_eq_getElem_cons hk, List.take_append_drop]
  conv => lhs; arg 1; rw [this]
  rw [List.filter_append, List.filter_cons, if_pos hp, List.getElem?_append_right (Nat.le_refl _), Nat.sub_self]
  rfl
theorem filter_next {α : Type} (p : α → Bool) (l : List α) (i : Nat) (t : α) (h : l[i]? = some t) : (l.take (i + 1)).filter p = (l.take i).filter p ++ (if p t = true then [t] else []) := by
  obtain ⟨hk, e⟩ := List.getElem?_eq_some_iff.1 h
  rw [List.take_succ_eq_append_getElem hk, e, List.filter_append]
  congr 1
  rw [List.filter_cons, List.filter_nil]
end Go.Proofs.Ytjcampfodfbdcaa
