/- any: what lies in memory while a state is changed. -/
import Derived.Test.YtmmdckijokiomaaBag
namespace Go.Proofs.Ytmmdckijokiomaa
open Go.RowKit

/-- x is a variable that holds a state, good or not -/
structure XA (B sb : Nat) (w wr : World) (gx : Nat) (st : St) (a b : Value) : Prop where
  x : At wr gx st a b
  l1 : 1 ≤ st.slots.length
  l5 : st.slots.length ≤ 5
  m9 : st.missed.length ≤ 8
  src : SrcOk B wr sb
  only : Only (· = sb) w wr
  res : Blk wr w.heap.size 25 #[.slice none 0 0, .int .i64 0, .slice none 0 0]
  lx : w.heap.size < gx
section
variable {B sb : Nat} {w wr w' : World} {gx : Nat} {st : St} {a b : Value}
theorem XA.up (h : XA B sb w wr gx st a b) (hb : Below wr.heap.size wr w') : XA B sb w w' gx st a b :=
  ⟨h.x.up hb, h.l1, h.l5, h.m9, h.src.below hb, h.only.next hb, h.res.below hb h.res.lt, h.lx⟩
theorem XA.srcd (h : XA B sb w wr gx st a b) (hs : SrcOk B w' sb) (ho : Only (· = sb) wr w') : XA B sb w w' gx st a b := by
  obtain ⟨x, hx⟩ := src_blk h.src
  exact ⟨h.x.srcd h.src ho, h.l1, h.l5, h.m9, hs, h.only.trans ho, h.res.only ho (h.res.ne_ hx (by decide)), h.lx⟩
def AnyRet (B sb : Nat) (w : World) (e : Ending) (w' : World) : Prop := ∃ st a b, e = .returned (.agg #[a, .int .i64 st.clock, b]) ∧ SV w' w'.heap.size st a b ∧ Typ w' a b ∧ 1 ≤ st.slots.length ∧ st.slots.length ≤ 5 ∧ st.missed.length ≤ 9 ∧ SrcOk B w' sb ∧ Only (· = sb) w w'
/-- the state is done: it is copied into the result -/
structure XE (B sb : Nat) (w wr : World) (gx : Nat) (st : St) (a b : Value) : Prop where
  x : At wr gx st a b
  l1 : 1 ≤ st.slots.length
  l5 : st.slots.length ≤ 5
  m9 : st.missed.length ≤ 9
  src : SrcOk B wr sb
  only : Only (· = sb) w wr
  res : Blk wr w.heap.size 25 #[.slice none 0 0, .int .i64 0, .slice none 0 0]
theorem XA.xe (h : XA B sb w wr gx st a b) : XE B sb w wr gx st a b := ⟨h.x, h.l1, h.l5, by have := h.m9; omega, h.src, h.only, h.res⟩
theorem XE.ret (h : XE B sb w wr gx st a b) (hB : B ≤ w.heap.size) : AnyRet B sb w (.returned (.agg #[a, .int .i64 st.clock, b])) (put3 wr w.heap.size a (.int .i64 st.clock) b) :=
  ⟨st, a, b, rfl, (h.x.sv.only_ h.x.typ h.res (by decide) (by decide) (put3_only _ _ _ _ _)).more (put3_only _ _ _ _ _).size, h.x.typ.only_ h.res (by decide) (by decide) (put3_only _ _ _ _ _), h.l1, h.l5, h.m9,
    put_src h.src h.res hB _ _ _, put_only h.only (Nat.le_refl _) _ _ _⟩
theorem XE.rc (h : XE B sb w wr gx st a b) : wr.cell? ⟨w.heap.size, 0, none⟩ = some (.slice none 0 0) ∧ wr.cell? ⟨w.heap.size, 1, none⟩ = some (.int .i64 0) ∧ wr.cell? ⟨w.heap.size, 2, none⟩ = some (.slice none 0 0) ∧ wr.frozen? ⟨w.heap.size, 0, none⟩ = false ∧ wr.frozen? ⟨w.heap.size, 1, none⟩ = false ∧ wr.frozen? ⟨w.heap.size, 2, none⟩ = false :=
  ⟨by rw [h.res.cell]; rfl, by rw [h.res.cell]; rfl, by rw [h.res.cell]; rfl, h.res.frozen 0, h.res.frozen 1, h.res.frozen 2⟩
/-- a cell of x is written -/
theorem XA.putx (h : XA B sb w wr gx st a b) (hB : B ≤ w.heap.size) {st2 : St} {a2 b2 : Value} {k : Nat} {u : Value} (hc : (#[a, .int .i64 st.clock, b] : Array Value).setIfInBounds k u = #[a2, .int .i64 st2.clock, b2]) (l1 : 1 ≤ st2.slots.length) (l5 : st2.slots.length ≤ 5) (m9 : st2.missed.length ≤ 9)
    (hs : SV wr wr.heap.size st2 a2 b2) (ht : Typ wr a2 b2) : XE B sb w (wr.setCell ⟨gx, k, none⟩ u) gx st2 a2 b2 := by
  have ho : Only (fun j => j = gx) wr (wr.setCell ⟨gx, k, none⟩ u) := (Only.refl (fun j => j = gx) wr).setCell (p := ⟨gx, k, none⟩) (.inl rfl) u
  have hx := h.x.blk.set_ k u
  rw [hc] at hx
  obtain ⟨y, hy⟩ := src_blk h.src
  have hlx := h.lx
  exact ⟨⟨hx, (hs.only_ ht h.x.blk (by decide) (by decide) ho).more ho.size, ht.only_ h.x.blk (by decide) (by decide) ho⟩, l1, l5, m9,
    h.src.only ho (hy.ne_ h.x.blk (by decide)) (fun k e => by subst e; omega), h.only.setCell (p := ⟨gx, k, none⟩) (.inr (by show w.heap.size ≤ gx; omega)) u, h.res.only ho (by omega)⟩
/-- the slots of x lie in a row of x's own -/
structure XO (B sb : Nat) (w wr : World) (gx : Nat) (st : St) (base g c : Nat) (b : Value) : Prop where
  xa : XA B sb w wr gx st (.slice (some ⟨g, 0, none⟩) st.slots.length c) b
  own : wr.ownsRow base 51 4 (.slice (some ⟨g, 0, none⟩) st.slots.length c) st.slots.length (SC st.slots)
  hb : w.heap.size ≤ base
  mo : ∀ k, b.ownBlock = some k → k < base
theorem own_dbl {w : World} {base base' k k' n n' : Nat} {e e' : TypeId} {v v' : Value} {xs xs' : List Value} (h : w.ownsRow base e k v n xs) : ∀ g, v.ownBlock = some g → base ≤ g := fun g hg => (h.lt g hg).1
theorem XO.srcd {base g c : Nat} (h : XO B sb w wr gx st base g c b) (hs : SrcOk B w' sb) (ho : Only (· = sb) wr w') : XO B sb w w' gx st base g c b := by
  obtain ⟨x, hx⟩ := src_blk h.xa.src
  exact ⟨h.xa.srcd hs ho, own_only h.own ho (fun k hk e => by subst e; exact own_blk_ne h.own hx (by decide) hk), h.hb, h.mo⟩
theorem XO.drew {base g c : Nat} (h : XO B sb w wr gx st base g c b) : XO B sb w wr.drew gx st base g c b :=
  ⟨h.xa.up (Below.refl _ _).drew, own_only h.own ((Only.refl (fun _ => False) wr).drew) (fun _ _ h => h), h.hb, h.mo⟩
theorem XO.put {base g c i j : Nat} {t t' : Sl} {u : Value} (h : XO B sb w wr gx st base g c b) (hB : B ≤ w.heap.size) (ht : st.slots[i]? = some t) (hj : j < 4) (he : (scells t).set j u = scells t') :
    XE B sb w (wr.setCell ⟨g, i * 4 + j, none⟩ u) gx ⟨st.slots.set i t', st.clock, st.missed⟩ (.slice (some ⟨g, 0, none⟩) st.slots.length c) b := by
  have ho : Only (fun k => k = g) wr (wr.setCell ⟨g, i * 4 + j, none⟩ u) := (Only.refl (fun k => k = g) wr).setCell (p := ⟨g, i * 4 + j, none⟩) (.inl rfl) u
  obtain ⟨cur, hcur, _, hbg⟩ := own_block2 h.own
  obtain ⟨y, hy⟩ := src_blk h.xa.src
  have hlx := h.xa.lx
  have hbb := h.hb
  have hown := slot_put h.own ht hj he
  have h2 : (wr.setCell ⟨g, i * 4 + j, none⟩ u).ownsRow base 51 4 (.slice (some ⟨g, 0, none⟩) st.slots.length c) (st.slots.set i t').length (SC (st.slots.set i t')) := by rw [List.length_set]; exact hown
  obtain ⟨A', c', e', hs'⟩ := own_srow h2
  have ht2 := h.xa.x.typ
  obtain ⟨_, ⟨A2, c2, e2, hr, hc2⟩⟩ := h.xa.x.sv
  have hcap := own_cap hown
  obtain ⟨_, _, ee, hcc⟩ := hcap
  injection ee with _ _ ee
  have hne2 : ∀ k, b.ownBlock = some k → k ≠ g := fun k hk e => by have := h.mo k hk; omega
  refine ⟨⟨h.xa.x.blk.only ho ((h.xa.x.blk.ne_ hcur (by decide))), ⟨⟨A', c', ?_, hs', ?_⟩, ⟨A2, c2, e2, ?_, hc2⟩⟩, ⟨fun k hk => ?_, fun k hk => ?_⟩⟩, ?_, ?_, ?_, ?_, ?_, ?_⟩
  · show Value.slice (some ⟨g, 0, none⟩) st.slots.length c = .slice A' (st.slots.set i t').length c'
    rw [List.length_set] at e' ⊢
    exact e'
  · show (st.slots.set i t').length ≤ c'
    rw [List.length_set] at e' ⊢
    injection e' with _ _ e'
    omega
  · show Reads (wr.setCell ⟨g, i * 4 + j, none⟩ u) (wr.setCell ⟨g, i * 4 + j, none⟩ u).heap.size 1 A2 st.missed.length (I st.missed)
    refine Reads.more ⟨hr.1, fun hn => ?_⟩ ho.size
    obtain ⟨ad, ea, hlt, hcell⟩ := hr.2 hn
    refine ⟨ad, ea, hlt, fun q v hv => ?_⟩
    have hk : b.ownBlock = some ad.block := by rw [e2, ea]; rfl
    exact (ho.cell (by rw [block_of_add]; exact hlt) (by rw [block_of_add]; exact hne2 _ hk)).trans (hcell q v hv)
  · obtain rfl : g = k := by simpa [Value.ownBlock] using hk
    exact ⟨_, hcur.set_ _ _⟩
  · obtain ⟨cs, hcs⟩ := ht2.b k hk
    exact ⟨cs, hcs.only ho (hne2 k hk)⟩
  · show 1 ≤ (st.slots.set i t').length
    rw [List.length_set]; exact h.xa.l1
  · show (st.slots.set i t').length ≤ 5
    rw [List.length_set]; exact h.xa.l5
  · have := h.xa.m9; show st.missed.length ≤ 9; omega
  · exact h.xa.src.only ho (hy.ne_ hcur (by decide)) (fun k e => by subst e; omega)
  · exact h.xa.only.setCell (p := ⟨g, i * 4 + j, none⟩) (.inr (by show w.heap.size ≤ g; omega)) u
  · exact h.xa.res.only ho (h.xa.res.ne_ hcur (by decide))
theorem pick8 {w : World} {g : Nat} (hg : w.heap.size = g) : Reads (w.alloc (.cells #[.int .i64 0, .int .i64 1, .int .i64 (-1), .int .i64 7, .int .i64 16777215, .int .i64 16777216, .int .i64 1099511627776, .int .i64 1099511627777] 3)) (w.alloc (.cells #[.int .i64 0, .int .i64 1, .int .i64 (-1), .int .i64 7, .int .i64 16777215, .int .i64 16777216, .int .i64 1099511627776, .int .i64 1099511627777] 3)).heap.size 1 (some ⟨g, 0, none⟩) 8 (I [0, 1, -1, 7, 16777215, 16777216, 1099511627776, 1099511627777]) := by
  subst hg
  exact Reads.of_own (World.ownsRow_lit (base := w.heap.size) (e := 3) (size := 1) w #[.int .i64 0, .int .i64 1, .int .i64 (-1), .int .i64 7, .int .i64 16777215, .int .i64 16777216, .int .i64 1099511627776, .int .i64 1099511627777] 8 (Nat.le_refl _) (by unfold maxLen; omega) rfl)
/-- the slots were copied and laid into x -/
theorem XA.owned {A n c : Nat} {g0 : Option Addr} {n0 c0 : Nat} (h : XA B sb w wr gx st (.slice g0 n0 c0) b) (hB : B ≤ w.heap.size) {w5 : World} (hg : wr.grownBy w5 none) (ho : w5.ownsRow wr.heap.size 51 4 (.slice (some ⟨A, 0, none⟩) n c) n (SC st.slots)) (hn : n = st.slots.length) :
    XO B sb w (w5.setCell ⟨gx, 0, none⟩ (.slice (some ⟨A, 0, none⟩) n c)) gx st wr.heap.size A c b := by
  subst hn
  have h5 := h.up (grown_bel hg)
  obtain ⟨cur, hcur, _, hbg⟩ := own_block2 ho
  have hx : gx < wr.heap.size := h.x.blk.lt
  have hne : gx ≠ A := by omega
  have ho6 : Only (fun j => j = gx) w5 (w5.setCell ⟨gx, 0, none⟩ (.slice (some ⟨A, 0, none⟩) st.slots.length c)) := (Only.refl (fun j => j = gx) w5).setCell (p := ⟨gx, 0, none⟩) (.inl rfl) _
  obtain ⟨A', c', e', hs'⟩ := own_srow ho
  obtain ⟨_, _, ee, hcc⟩ := own_cap ho
  injection ee with _ _ ee
  injection e' with ea _ ec
  have hsv : SV w5 w5.heap.size st (.slice (some ⟨A, 0, none⟩) st.slots.length c) b := ⟨⟨_, _, rfl, by rw [ea]; exact hs', by omega⟩, h5.x.sv.form2⟩
  have hty : Typ w5 (.slice (some ⟨A, 0, none⟩) st.slots.length c) b := ⟨fun k hk => by
    obtain rfl : A = k := by simpa [Value.ownBlock] using hk
    exact ⟨_, hcur⟩, h5.x.typ.b⟩
  have hE := h5.putx hB (st2 := st) (a2 := .slice (some ⟨A, 0, none⟩) st.slots.length c) (b2 := b) (k := 0) (u := .slice (some ⟨A, 0, none⟩) st.slots.length c) rfl h.l1 h.l5 (by have := h.m9; omega) hsv hty
  exact ⟨⟨hE.x, h.l1, h.l5, h.m9, hE.src, hE.only, hE.res, h.lx⟩, own_only ho ho6 (fun k hk e => by subst e; injection hk with hk; exact hne hk.symm), h.only.size, fun k hk => by
    obtain ⟨cs, hcs⟩ := h.x.typ.b k hk
    exact hcs.lt⟩
theorem own_form2' {w : World} {base g c n : Nat} {l : List Int} (h : w.ownsRow base 3 1 (.slice (some ⟨g, 0, none⟩) n c) n (I l)) (hn : n = l.length) :
    ∃ A c', (Value.slice (some ⟨g, 0, none⟩) n c) = .slice A l.length c' ∧ Reads w w.heap.size 1 A l.length (I l) ∧ l.length ≤ c' := by
  subst hn
  obtain ⟨_, _, ee, hcc⟩ := own_cap h
  injection ee with _ _ ee
  exact ⟨_, _, rfl, Reads.of_own h, by omega⟩
theorem XO.four {base g c i : Nat} {t : Sl} (h : XO B sb w wr gx st base g c b) (ht : st.slots[i]? = some t) : Four wr g (i * 4) t ∧ (∀ o, wr.frozen? ⟨g, o, none⟩ = false) ∧ base ≤ g ∧ g < wr.heap.size := by
  have hi : i < st.slots.length := (List.getElem?_eq_some_iff.1 ht).1
  have key : ∀ j, j < 4 → ∀ u, (scells t)[j]? = some u → wr.cell? ⟨g, i * 4 + j, none⟩ = some u := fun j hj u hu => by
    rw [World.ownsRow.cellAt h.own (i * 4 + j) (by omega), SC_at ht j hj]; exact hu
  obtain ⟨cur, hcur, _, hbg⟩ := own_block2 h.own
  exact ⟨⟨key 0 (by omega) _ rfl, key 1 (by omega) _ rfl, key 2 (by omega) _ rfl, key 3 (by omega) _ rfl⟩, fun o => World.ownsRow.frozenAt h.own o, hbg, hcur.lt⟩
end
end Go.Proofs.Ytmmdckijokiomaa
