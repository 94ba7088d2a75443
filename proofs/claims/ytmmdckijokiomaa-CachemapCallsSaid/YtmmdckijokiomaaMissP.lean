/- Miss and Place in plain mathematics; how they end. -/
import Derived.Test.YtmmdckijokiomaaDelF2
import Derived.Test.YtmmdckijokiomaaSlotE
import Derived.Test.YtmmdckijokiomaaSame
namespace Go.Proofs.Ytmmdckijokiomaa
open Go.RowKit

def pushM (l : List Int) (b : Int) : List Int := if 8 < (l ++ [b]).length then (l ++ [b]).drop 1 else l ++ [b]
def missR (st : St) (b : Int) : St × Bool × Int :=
  if validB st = false then (St.none_, false, 2) else if keyB b = false then (St.none_, false, 1) else if 0 ≤ findI st.slots b then (St.none_, false, 16)
  else if b ∈ st.missed then (⟨st.slots, st.clock, withoutL st.missed b⟩, true, 0) else (⟨st.slots, st.clock, pushM st.missed b⟩, false, 0)
def placeR (st : St) (k b : Int) : St × Int :=
  if validB st = false then (St.none_, 2) else if inB st k = false ∨ keyB b = false then (St.none_, 1) else match st.slots[k.toNat]? with
  | none => (St.none_, 99)
  | some t => if t.valid = true ∨ 0 ≤ findI st.slots b then (St.none_, 16) else if st.clock = 1099511627776 then (St.none_, 4)
    else (⟨st.slots.set k.toNat ⟨true, false, b, st.clock + 1⟩, st.clock + 1, withoutL st.missed b⟩, 0)
theorem missV_nodup : ∀ {l acc : List Int}, missV l acc = true → l.Nodup ∧ ∀ x ∈ l, x ∉ acc := by
  intro l
  induction l with
  | nil => intro acc _; exact ⟨List.nodup_nil, by simp⟩
  | cons b r ih =>
    intro acc h
    unfold missV at h
    split at h
    · rename_i hb
      obtain ⟨h1, h2⟩ := ih h
      refine ⟨List.nodup_cons.2 ⟨fun hm => ?_, h1⟩, fun x hx => ?_⟩
      · have := h2 b hm; simp at this
      · rcases List.mem_cons.1 hx with rfl | hx
        · exact hb.2
        · have := h2 x hx; simp at this; exact this.1
    · cases h
theorem valid_missed {st : St} (h : validB st = true) : st.missed.Nodup := by
  unfold validB at h
  rw [Bool.and_eq_true] at h
  cases hs : slotsV st.clock st.slots [] with
  | none => rw [hs] at h; simp at h
  | some acc => rw [hs] at h; exact (missV_nodup h.2).1
theorem erase_without : ∀ {l : List Int} {k : Nat} {b : Int}, l.Nodup → l[k]? = some b → l.eraseIdx k = withoutL l b := by
  intro l
  induction l with
  | nil => intro k b _ h; simp at h
  | cons x l ih =>
    intro k b hn h
    obtain ⟨h1, h2⟩ := List.nodup_cons.1 hn
    cases k with
    | zero =>
      simp at h
      subst h
      rw [List.eraseIdx_cons_zero]
      unfold withoutL
      rw [List.filter_cons, if_neg (by simp)]
      exact (without_none h1).symm
    | succ k =>
      have hk : l[k]? = some b := by simpa using h
      rw [List.eraseIdx_cons_succ, ih h2 hk]
      unfold withoutL
      have hx : x ≠ b := fun e => by subst e; exact h1 (List.mem_of_getElem? hk)
      rw [List.filter_cons, if_pos (bne_iff_ne.2 hx)]
theorem own_low {w : World} {base base' k n : Nat} {e : TypeId} {v : Value} {xs : List Value} (h : w.ownsRow base e k v n xs) (hb : base' ≤ base) : w.ownsRow base' e k v n xs := by
  obtain ⟨h1, h2⟩ := h
  refine ⟨h1, ?_⟩
  rcases h2 with h2 | ⟨g, cap, cur, rfl, hg, r⟩
  · exact .inl h2
  · exact .inr ⟨g, cap, cur, rfl, by omega, r⟩
theorem heap2 (w : World) (a b : Obj) : ((w.alloc a).alloc b).heap[w.heap.size + 1]? = some b := by
  have h := heap_alloc_new (w.alloc a) b
  rw [show (w.alloc a).heap.size = w.heap.size + 1 from Array.size_push ..] at h
  exact h
theorem own_own_ne {w : World} {base base' k k' n n' : Nat} {e e' : TypeId} {v v' : Value} {xs xs' : List Value} (h : w.ownsRow base e k v n xs) (h' : w.ownsRow base' e' k' v' n' xs') (hne : e ≠ e') : ∀ g, v.ownBlock = some g → ¬ v'.ownBlock = some g := fun g hg hg' => by
  obtain ⟨cur, hb⟩ := own_at_blk h' hg'
  exact own_blk_ne h hb hne hg
/-- a state is returned, with a bool and an error's number -/
def MissRet (r : St × Bool × Int) (w : World) (e : Ending) (w' : World) : Prop := ∃ a b, e = .returned (.tuple #[.agg #[a, .int .i64 r.1.clock, b], .bool r.2.1, .int .i64 r.2.2]) ∧ SV w' w'.heap.size r.1 a b ∧ Below w.heap.size w w' ∧ Typ w' a b
theorem put3_sv {wx : World} {base g : Nat} {x : Array Value} {st : St} {a b c : Value} (hso : SO wx base st a b) (hb : Blk wx g 25 x) (b' : Value) : SO (put3 wx g a c b') base st a b :=
  hso.only hb (put3_only wx g a c b')
/-- the state whose list of misses is cut at its head -/
theorem SO.cut {w : World} {base gm n c : Nat} {st : St} {a : Value} (h : SO w base st a (.slice (some ⟨gm, 0, none⟩) n c)) (hn : n = st.missed.length) (h1 : 1 ≤ n) (hc : c ≠ 1) : SV w w.heap.size ⟨st.slots, st.clock, st.missed.drop 1⟩ a (.slice (some ⟨gm, 1, none⟩) (n - 1) (c - 1)) := by
  subst hn
  have hsv := h.sv
  obtain ⟨f1, ⟨A, c2, e, hr, hcap⟩⟩ := hsv
  injection e with e1 _ e2
  subst e1 e2
  refine ⟨f1, ⟨some ⟨gm, 1, none⟩, c - 1, by rw [List.length_drop], ?_, by rw [List.length_drop]; omega⟩⟩
  have hcut := hr.cut (k := 1) h1 hcap
  rw [if_neg hc] at hcut
  show Reads _ _ 1 _ (st.missed.drop 1).length (I (st.missed.drop 1))
  rw [List.length_drop, show I (st.missed.drop 1) = (I st.missed).drop (1 * 1) by unfold I; rw [List.map_drop]]
  exact hcut
theorem MissRet.err {w wx : World} {g0 g1 : Nat} {v0 v1 v2 : Value} (h : E0 w wx g0 g1 v0 v1 v2) (er : Int) : MissRet (St.none_, false, er) w (.returned (.tuple #[.agg #[.slice none 0 0, .int .i64 0, .slice none 0 0], .bool false, .int .i64 er])) (put3 wx g1 (.slice none 0 0) (.int .i64 0) (.slice none 0 0)) := by
  obtain ⟨a, b, e, h1, h2, h3⟩ := h.err er
  injection e with e
  injection e with e
  have e1 : a = .slice none 0 0 ∧ b = .slice none 0 0 := by simp at e; exact ⟨e.1.symm, e.2.2.symm⟩
  obtain ⟨rfl, rfl⟩ := e1
  exact ⟨_, _, rfl, h1, h2, h3⟩
theorem MissRet.ok {w w5 WY : World} {g0 g1 : Nat} {v0 v1 v2 a b : Value} {st : St} {q : Bool} (hE : E0 w w5 g0 g1 v0 v1 v2) (hb : Below w5.heap.size w5 WY) (hso : SO WY w5.heap.size st a b) :
    MissRet (st, q, 0) w (.returned (.tuple #[.agg #[a, .int .i64 st.clock, b], .bool q, .int .i64 0])) (put3 WY g1 a (.int .i64 st.clock) b) := by
  have hE' := hE.up hb
  have ho := put3_only WY g1 a (.int .i64 st.clock) b
  exact ⟨a, b, rfl, (hso.only hE'.b1 ho).sv, hE'.bel.trans (ho.below hE'.bel.size (fun k e => by have := hE.l1; omega)), (hso.only hE'.b1 ho).typ⟩
theorem MissRet.cut {w w5 WY : World} {g0 g1 gm n c : Nat} {v0 v1 v2 a : Value} {st : St} (hE : E0 w w5 g0 g1 v0 v1 v2) (hb : Below w5.heap.size w5 WY) (hso : SO WY w5.heap.size st a (.slice (some ⟨gm, 0, none⟩) n c)) (hn : n = st.missed.length) (h1 : 1 ≤ n) (hc : c ≠ 1) :
    MissRet (⟨st.slots, st.clock, st.missed.drop 1⟩, false, 0) w (.returned (.tuple #[.agg #[a, .int .i64 st.clock, .slice (some ⟨gm, 1, none⟩) (n - 1) (c - 1)], .bool false, .int .i64 0])) (put3 WY g1 a (.int .i64 st.clock) (.slice (some ⟨gm, 1, none⟩) (n - 1) (c - 1))) := by
  have hE' := hE.up hb
  have ho := put3_only WY g1 a (.int .i64 st.clock) (.slice (some ⟨gm, 1, none⟩) (n - 1) (c - 1))
  exact ⟨_, _, rfl, SO.cut (hso.only hE'.b1 ho) hn h1 hc, hE'.bel.trans (ho.below hE'.bel.size (fun k e => by have := hE.l1; omega)), ⟨(hso.only hE'.b1 ho).typ.a, fun g hg => (hso.only hE'.b1 ho).typ.b g (by simpa [Value.ownBlock] using hg)⟩⟩
end Go.Proofs.Ytmmdckijokiomaa
