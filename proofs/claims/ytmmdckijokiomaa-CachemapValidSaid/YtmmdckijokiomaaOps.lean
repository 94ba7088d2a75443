/- The calls that change a state, in plain mathematics; how they end. -/
import Derived.Test.YtmmdckijokiomaaCopied
import Derived.Test.YtmmdckijokiomaaCell
namespace Go.Proofs.Ytmmdckijokiomaa
open Go.RowKit

def inB (st : St) (k : Int) : Bool := decide (0 ≤ k) && decide (k < (st.slots.length : Int))
def slotE (st : St) (k : Int) : Int := if validB st = true then (if inB st k = true then 0 else 1) else 2
def touchR (st : St) (k : Int) : St × Int :=
  if slotE st k ≠ 0 then (St.none_, slotE st k) else match st.slots[k.toNat]? with
  | none => (St.none_, 99)
  | some t => if t.valid = false then (St.none_, 12) else if st.clock = 1099511627776 then (St.none_, 4) else (⟨st.slots.set k.toNat { t with stamp := st.clock + 1 }, st.clock + 1, st.missed⟩, 0)
def clearR (st : St) (k : Int) : St × Int :=
  if slotE st k ≠ 0 then (St.none_, slotE st k) else match st.slots[k.toNat]? with
  | none => (St.none_, 99)
  | some t => if t.dirty = true then (St.none_, 27) else (⟨st.slots.set k.toNat sz, st.clock, st.missed⟩, 0)
def dirtyR (st : St) (k : Int) (d : Bool) : St × Int :=
  if slotE st k ≠ 0 then (St.none_, slotE st k) else match st.slots[k.toNat]? with
  | none => (St.none_, 99)
  | some t => if t.valid = false then (St.none_, 12) else (⟨st.slots.set k.toNat { t with dirty := d }, st.clock, st.missed⟩, 0)
theorem slotE_cases (st : St) (k : Int) : (validB st = false ∧ slotE st k = 2) ∨ (validB st = true ∧ inB st k = false ∧ slotE st k = 1) ∨ (validB st = true ∧ inB st k = true ∧ slotE st k = 0 ∧ ∃ (i : Nat) (t : Sl), k = (i : Int) ∧ i < st.slots.length ∧ st.slots[i]? = some t) := by
  unfold slotE
  cases hv : validB st with
  | false => exact .inl ⟨rfl, by simp⟩
  | true =>
    cases hi : inB st k with
    | false => exact .inr (.inl ⟨rfl, rfl, by simp⟩)
    | true =>
      refine .inr (.inr ⟨rfl, rfl, by simp, ?_⟩)
      unfold inB at hi
      simp at hi
      exact ⟨k.toNat, st.slots[k.toNat]'(by omega), by omega, by omega, List.getElem?_eq_getElem (by omega)⟩
/-- a state is returned, with an error's number -/
theorem own_at_blk {w : World} {base k n g : Nat} {e : TypeId} {v : Value} {xs : List Value} (h : w.ownsRow base e k v n xs) (hg : v.ownBlock = some g) : ∃ cur, Blk w g e cur := by
  rcases h.2 with ⟨rfl, _⟩ | ⟨g', cap, cur, rfl, _, hh, _⟩
  · simp [Value.ownBlock] at hg
  · obtain rfl : g' = g := by simpa [Value.ownBlock] using hg
    exact ⟨cur, hh⟩
/-- the types of the blocks in which a state's rows lie -/
structure Typ (w : World) (a b : Value) : Prop where
  a : ∀ g, a.ownBlock = some g → ∃ cs, Blk w g 51 cs
  b : ∀ g, b.ownBlock = some g → ∃ cs, Blk w g 3 cs
theorem Typ.nil_ (w : World) : Typ w (.slice none 0 0) (.slice none 0 0) := ⟨fun _ h => by simp [Value.ownBlock] at h, fun _ h => by simp [Value.ownBlock] at h⟩
theorem Typ.up {w w' : World} {a b : Value} (h : Typ w a b) (hb : Below w.heap.size w w') : Typ w' a b :=
  ⟨fun g hg => by obtain ⟨cs, hc⟩ := h.a g hg; exact ⟨cs, hc.below hb hc.lt⟩, fun g hg => by obtain ⟨cs, hc⟩ := h.b g hg; exact ⟨cs, hc.below hb hc.lt⟩⟩
theorem SO.typ {w : World} {base : Nat} {st : St} {a b : Value} (h : SO w base st a b) : Typ w a b := ⟨fun _ hg => own_at_blk h.s hg, fun _ hg => own_at_blk h.m hg⟩
def StRet (r : St × Int) (w : World) (e : Ending) (w' : World) : Prop := ∃ a b, e = .returned (.tuple #[.agg #[a, .int .i64 r.1.clock, b], .int .i64 r.2]) ∧ SV w' w'.heap.size r.1 a b ∧ Below w.heap.size w w' ∧ Typ w' a b
/-- what lies in memory behind the entry of such a call: the state that came in, the result -/
structure E0 (w wx : World) (g0 g1 : Nat) (v0 v1 v2 : Value) : Prop where
  b0 : Blk wx g0 25 #[v0, v1, v2]
  b1 : Blk wx g1 25 #[.slice none 0 0, .int .i64 0, .slice none 0 0]
  l0 : w.heap.size ≤ g0
  l1 : w.heap.size ≤ g1
  bel : Below w.heap.size w wx
theorem E0.up {w wx wy : World} {g0 g1 : Nat} {v0 v1 v2 : Value} (h : E0 w wx g0 g1 v0 v1 v2) (hb : Below wx.heap.size wx wy) : E0 w wy g0 g1 v0 v1 v2 :=
  ⟨h.b0.below hb h.b0.lt, h.b1.below hb h.b1.lt, h.l0, h.l1, h.bel.next hb⟩
theorem E0.c {w wx : World} {g0 g1 : Nat} {v0 v1 v2 : Value} (h : E0 w wx g0 g1 v0 v1 v2) : wx.cell? ⟨g0, 0, none⟩ = some v0 ∧ wx.cell? ⟨g0, 1, none⟩ = some v1 ∧ wx.cell? ⟨g0, 2, none⟩ = some v2 ∧
    wx.cell? ⟨g1, 0, none⟩ = some (.slice none 0 0) ∧ wx.cell? ⟨g1, 1, none⟩ = some (.int .i64 0) ∧ wx.cell? ⟨g1, 2, none⟩ = some (.slice none 0 0) ∧ wx.frozen? ⟨g1, 0, none⟩ = false ∧ wx.frozen? ⟨g1, 1, none⟩ = false ∧ wx.frozen? ⟨g1, 2, none⟩ = false :=
  ⟨by rw [h.b0.cell]; rfl, by rw [h.b0.cell]; rfl, by rw [h.b0.cell]; rfl, by rw [h.b1.cell]; rfl, by rw [h.b1.cell]; rfl, by rw [h.b1.cell]; rfl, h.b1.frozen 0, h.b1.frozen 1, h.b1.frozen 2⟩
/-- the result's three cells are written -/
def put3 (w : World) (g : Nat) (a c b : Value) : World := ((w.setCell ⟨g, 0, none⟩ a).setCell ⟨g, 1, none⟩ c).setCell ⟨g, 2, none⟩ b
theorem put3_blk {w : World} {g : Nat} {x y z a c b : Value} (h : Blk w g 25 #[x, y, z]) : Blk (put3 w g a c b) g 25 #[a, c, b] := ((h.set_ 0 a).set_ 1 c).set_ 2 b
theorem put3_only (w : World) (g : Nat) (a c b : Value) : Only (fun k => k = g) w (put3 w g a c b) :=
  (((Only.refl (fun k => k = g) w).setCell (p := ⟨g, 0, none⟩) (.inl rfl) a).setCell (p := ⟨g, 1, none⟩) (.inl rfl) c).setCell (p := ⟨g, 2, none⟩) (.inl rfl) b
theorem SO.only {w w' : World} {base g : Nat} {st : St} {a b : Value} {x : Array Value} (h : SO w base st a b) (hb : Blk w g 25 x) (ho : Only (fun k => k = g) w w') : SO w' base st a b :=
  ⟨own_only h.s ho (fun k hk e => by subst e; exact own_blk_ne h.s hb (by decide) hk), own_only h.m ho (fun k hk e => by subst e; exact own_blk_ne h.m hb (by decide) hk)⟩
theorem SO.low {w : World} {base base' : Nat} {st : St} {a b : Value} (h : SO w base st a b) (hb : base' ≤ base) : SO w base' st a b := by
  have low : ∀ {e : TypeId} {size n : Nat} {v : Value} {xs : List Value}, w.ownsRow base e size v n xs → w.ownsRow base' e size v n xs := fun h => by
    obtain ⟨h1, h2⟩ := h
    refine ⟨h1, ?_⟩
    rcases h2 with h2 | ⟨g, cap, cur, rfl, hg, r⟩
    · exact .inl h2
    · exact .inr ⟨g, cap, cur, rfl, Nat.le_trans hb hg, r⟩
  exact ⟨low h.s, low h.m⟩
theorem SO.below {w w' : World} {base : Nat} {st : St} {a b : Value} (h : SO w base st a b) (hb : Below w.heap.size w w') : SO w' base st a b :=
  ⟨own_only h.s (Only.of_below (fun _ => False) hb) (fun _ _ h => h), own_only h.m (Only.of_below (fun _ => False) hb) (fun _ _ h => h)⟩
theorem SO.nil_ (w : World) (base : Nat) : SO w base St.none_ (.slice none 0 0) (.slice none 0 0) := ⟨World.ownsRow_nil _ _ _ _, World.ownsRow_nil _ _ _ _⟩
theorem put3_ret {w wx : World} {g : Nat} {x : Array Value} {r : St × Int} {a b : Value} (hso : SO wx w.heap.size r.1 a b) (hb : Blk wx g 25 x) (hg : w.heap.size ≤ g) (hbel : Below w.heap.size w wx) :
    StRet r w (.returned (.tuple #[.agg #[a, .int .i64 r.1.clock, b], .int .i64 r.2])) (put3 wx g a (.int .i64 r.1.clock) b) := by
  have ho := put3_only wx g a (.int .i64 r.1.clock) b
  exact ⟨a, b, rfl, (hso.only hb ho).sv, hbel.trans (ho.below hbel.size (fun k e => by omega)), (hso.only hb ho).typ⟩
theorem E0.err {w wx : World} {g0 g1 : Nat} {v0 v1 v2 : Value} (h : E0 w wx g0 g1 v0 v1 v2) (er : Int) : StRet (St.none_, er) w (.returned (.tuple #[.agg #[.slice none 0 0, .int .i64 0, .slice none 0 0], .int .i64 er])) (put3 wx g1 (.slice none 0 0) (.int .i64 0) (.slice none 0 0)) :=
  put3_ret (r := (St.none_, er)) (SO.nil_ _ _) h.b1 h.l1 h.bel
/-- a slot of a row of one's own is written -/
theorem slot_put {w : World} {base g n c k j : Nat} {l : List Sl} {t t' : Sl} {u : Value} (h : w.ownsRow base 51 4 (.slice (some ⟨g, 0, none⟩) n c) n (SC l)) (ht : l[k]? = some t) (hj : j < 4) (he : (scells t).set j u = scells t') :
    (w.setCell ⟨g, k * 4 + j, none⟩ u).ownsRow base 51 4 (.slice (some ⟨g, 0, none⟩) n c) n (SC (l.set k t')) := by
  have := (World.ownsRow.stored h (k * 4 + j) u).1
  rw [SC_set l k t j u t' ht hj he] at this
  exact this
theorem own_block2 {w : World} {base : Nat} {e : TypeId} {k g n c : Nat} {xs : List Value} (h : w.ownsRow base e k (.slice (some ⟨g, 0, none⟩) n c) n xs) : ∃ cur : Array Value, Blk w g e cur ∧ n * k ≤ cur.size ∧ base ≤ g := own_block h
theorem SO.setSlot {w : World} {base gs n c i j : Nat} {st : St} {t t' : Sl} {u vb : Value} (h : SO w base st (.slice (some ⟨gs, 0, none⟩) n c) vb) (hn : n = st.slots.length) (ht : st.slots[i]? = some t) (hj : j < 4) (he : (scells t).set j u = scells t') (clock : Int) :
    SO (w.setCell ⟨gs, i * 4 + j, none⟩ u) base ⟨st.slots.set i t', clock, st.missed⟩ (.slice (some ⟨gs, 0, none⟩) n c) vb := by
  subst hn
  obtain ⟨cur, hcur, _, _⟩ := own_block2 h.s
  refine ⟨?_, own_only h.m ((Only.refl (fun k => k = gs) w).setCell (p := ⟨gs, i * 4 + j, none⟩) (.inl rfl) u) (fun k hk e => by subst e; exact own_blk_ne h.m (t := 51) hcur (by decide) hk)⟩
  show World.ownsRow _ _ _ _ _ (st.slots.set i t').length _
  rw [List.length_set]
  exact slot_put h.s ht hj he
theorem SO.clock {w : World} {base : Nat} {st : St} {a b : Value} (h : SO w base st a b) (c : Int) : SO w base ⟨st.slots, c, st.missed⟩ a b := ⟨h.s, h.m⟩
theorem mut_end {w w5 WY : World} {g0 g1 : Nat} {v0 v1 v2 a b : Value} {r : St × Int} (hE : E0 w w5 g0 g1 v0 v1 v2) (hb : Below w5.heap.size w5 WY) (hso : SO WY w5.heap.size r.1 a b) :
    StRet r w (.returned (.tuple #[.agg #[a, .int .i64 r.1.clock, b], .int .i64 r.2])) (put3 WY g1 a (.int .i64 r.1.clock) b) :=
  put3_ret (hso.low hE.bel.size) (hE.up hb).b1 hE.l1 (hE.up hb).bel
theorem mut_end2 {w w5 WY : World} {g0 g1 : Nat} {v0 v1 v2 a b : Value} {r : St × Int} {o : Obj} (hE : E0 w w5 g0 g1 v0 v1 v2) (hb : Below w5.heap.size w5 WY) (hso : SO WY w5.heap.size r.1 a b) :
    StRet r w (.returned (.tuple #[.agg #[a, .int .i64 r.1.clock, b], .int .i64 r.2])) ((put3 WY g1 a (.int .i64 r.1.clock) b).alloc o) := by
  obtain ⟨a', b', e, hsv, hbel, hty⟩ := mut_end hE hb hso
  injection e with e
  injection e with e
  have e1 : a' = a ∧ b' = b := by simp at e; exact ⟨e.1.symm, e.2.symm⟩
  obtain ⟨rfl, rfl⟩ := e1
  exact ⟨a', b', rfl, hsv.up ((Below.refl _ _).al o), hbel.al o, hty.up ((Below.refl _ _).al o)⟩
/-- a row that is not empty: its address, the cells of an element -/
theorem SO.slot {w : World} {base i : Nat} {st : St} {a b : Value} {t : Sl} (h : SO w base st a b) (ht : st.slots[i]? = some t) : ∃ gs c, a = .slice (some ⟨gs, 0, none⟩) st.slots.length c ∧ base ≤ gs ∧ gs < w.heap.size ∧ Four w gs (i * 4) t ∧ ∀ o, w.frozen? ⟨gs, o, none⟩ = false := by
  have hi : i < st.slots.length := (List.getElem?_eq_some_iff.1 ht).1
  obtain ⟨g, cap, e, hlt, hlt2⟩ := h.s.form (by omega)
  subst e
  refine ⟨g, cap, rfl, (h.s.lt g rfl).1, hlt2, ?_, fun o => World.ownsRow.frozenAt h.s o⟩
  have key : ∀ j, j < 4 → ∀ u, (scells t)[j]? = some u → w.cell? ⟨g, i * 4 + j, none⟩ = some u := fun j hj u hu => by
    rw [World.ownsRow.cellAt h.s (i * 4 + j) (by omega), SC_at ht j hj]; exact hu
  exact ⟨key 0 (by omega) _ rfl, key 1 (by omega) _ rfl, key 2 (by omega) _ rfl, key 3 (by omega) _ rfl⟩
end Go.Proofs.Ytmmdckijokiomaa
