/- Spoil: rows of structs as cells, bounds, its state in memory. -/
import Derived.Test.YtdkcfgahdcpkkaaDoorBMkHist
set_option linter.all false
namespace Go.Proofs.YtdkcfgahdcpkkaaDoor
open Go.RowKit
set_option maxRecDepth 100000
section
variable {w : World} {S : Nat → Prop} {p : Addr}
theorem add1 (p : Addr) (j : Nat) : p.add (j + 1) = ⟨p.block, p.off + (j + 1), none⟩ := by unfold Addr.add; rw [if_neg (by omega)]
theorem add00 (p : Addr) : p.add 0 = p := by unfold Addr.add; rw [if_pos rfl]
theorem AtDk.cells {x : Dk} (h : AtDk w S p x) : ∃ c, dkW w S c x ∧ c.length = 7 ∧ ∀ j u, c[j]? = some u → w.cell? (p.add j) = some u := by
 obtain ⟨v0, hc, h0⟩ := h
 refine ⟨(dkA x v0).toList, ⟨v0, rfl, h0⟩, rfl, fun j u hj => ?_⟩
 have hlt : j < 7 := by have := (List.getElem?_eq_some_iff.1 hj).1; simpa [dkA] using this
 obtain ⟨f0, f1, f2, f3, f4, f5, f6⟩ := hc
 rcases (show j = 0 ∨ j = 1 ∨ j = 2 ∨ j = 3 ∨ j = 4 ∨ j = 5 ∨ j = 6 by omega) with rfl | rfl | rfl | rfl | rfl | rfl | rfl <;> simp [dkA] at hj <;> subst hj
 ·rw [add00]; exact f0
 all_goals (rw [add1]; assumption)
theorem AtVo.cells {x : Vo} (h : AtVo w S p x) : ∃ c, voW w S c x ∧ c.length = 6 ∧ ∀ j u, c[j]? = some u → w.cell? (p.add j) = some u := by
 obtain ⟨v0, v1, hc, h0, h1⟩ := h
 refine ⟨(voA x v0 v1).toList, ⟨v0, v1, rfl, h0, h1⟩, rfl, fun j u hj => ?_⟩
 have hlt : j < 6 := by have := (List.getElem?_eq_some_iff.1 hj).1; simpa [voA] using this
 obtain ⟨f0, f1, f2, f3, f4, f5⟩ := hc
 rcases (show j = 0 ∨ j = 1 ∨ j = 2 ∨ j = 3 ∨ j = 4 ∨ j = 5 by omega) with rfl | rfl | rfl | rfl | rfl | rfl <;> simp [voA] at hj <;> subst hj
 ·rw [add00]; exact f0
 all_goals (rw [add1]; assumption)
theorem AtSg.cells {x : Sg} (h : AtSg w S p x) : ∃ c, sgW w S c x ∧ c.length = 11 ∧ ∀ j u, c[j]? = some u → w.cell? (p.add j) = some u := by
 obtain ⟨v0, v1, hc, h0, h1⟩ := h
 refine ⟨(sgA x v0 v1).toList, ⟨v0, v1, rfl, h0, h1⟩, rfl, fun j u hj => ?_⟩
 have hlt : j < 11 := by have := (List.getElem?_eq_some_iff.1 hj).1; simpa [sgA] using this
 obtain ⟨f0, f1, f2, f3, f4, f5, f6, f7, f8, f9, f10⟩ := hc
 rcases (show j = 0 ∨ j = 1 ∨ j = 2 ∨ j = 3 ∨ j = 4 ∨ j = 5 ∨ j = 6 ∨ j = 7 ∨ j = 8 ∨ j = 9 ∨ j = 10 by omega) with rfl | rfl | rfl | rfl | rfl | rfl | rfl | rfl | rfl | rfl | rfl <;> simp [sgA] at hj <;> subst hj
 ·rw [add00]; exact f0
 all_goals (rw [add1]; assumption)
end
theorem k5_ {α β : Type} {P : Nat → α → β → Prop} : ∀ (l : List α), (∀ k x, l[k]? = some x → ∃ y, P k x y) → ∃ ys : List β, ys.length = l.length ∧ ∀ k x y, l[k]? = some x → ys[k]? = some y → P k x y
 | [], _ => ⟨[], rfl, fun k x y h => by simp at h⟩
 | a :: l, h => by
  obtain ⟨y, hy⟩ := h 0 a rfl;obtain ⟨ys, h1, h2⟩ := k5_ (P := fun k x y => P (k + 1) x y) l (fun k x hk => h (k + 1) x (by simpa using hk));refine ⟨y :: ys, by simp [h1], fun k x z hx hz => ?_⟩;cases k with
  | zero => simp at hx hz; subst hx hz; exact hy
  | succ k => exact h2 k x z (by simpa using hx) (by simpa using hz)
theorem Zd_ {α : Type} {size : Nat} {V : World → (Nat → Prop) → List Value → α → Prop} {a : Addr → α → Prop} {w : World} {S : Nat → Prop} {A : Option Addr} {n c : Nat} {l : List α} (hcell : ∀ p x, a p x → ∃ c, V w S c x ∧ c.length = size ∧ ∀ j u, c[j]? = some u → w.cell? (p.add j) = some u) (h : LR w S size a (.slice A n c) l) :
  ∃ css : List (List Value), css.length = l.length ∧ (∀ (k : Nat) (c : List Value) (x : α), css[k]? = some c → l[k]? = some x → V w S c x) ∧ Reads w w.heap.size size A l.length css.flatten := by
 obtain ⟨A', c', e, hc', hh⟩ := h
 injection e with e1 e2 e3
 subst e1
 by_cases h0 : 0 < l.length
 ·obtain ⟨ad, rfl, hs, hlt, hcl⟩ := hh h0
  obtain ⟨css, h1, h2⟩ := k5_ (P := fun k x y => V w S y x ∧ y.length = size ∧ ∀ j u, y[j]? = some u → w.cell? ((ad.add (k * size)).add j) = some u) l (fun k x hk => hcell _ x (hcl k x hk))
  have hl : ∀ d ∈ css, d.length = size := fun d hd => by
   obtain ⟨k, hk⟩ := List.getElem?_of_mem hd;have hk1 := (List.getElem?_eq_some_iff.1 hk).1;exact (h2 k _ d (List.getElem?_eq_getElem (by omega)) hk).2.1
  have hfl := xv_ hl;refine ⟨css, h1, fun k c x hc hx => (h2 k x c hx hc).1, by rw [hfl, h1], fun _ => ⟨ad, rfl, hlt, fun j u hu => ?_⟩⟩;have hj : j < css.length * size := by rw [← hfl]; exact (List.getElem?_eq_some_iff.1 hu).1
  have hsz : 0 < size := by
   rcases Nat.eq_zero_or_pos size with e | e
   ·subst e; simp at hj
   ·exact e
  have hk : j / size < css.length := Nat.div_lt_of_lt_mul (by rw [Nat.mul_comm]; exact hj);have hcs : css[j / size]? = some css[j / size] := List.getElem?_eq_getElem hk;have hf := zT_ css (j / size) (j % size) _ hl hcs (Nat.mod_lt _ hsz);have hdm : j / size * size + j % size = j := by rw [Nat.mul_comm]; exact Nat.div_add_mod j size
  rw [hdm, hu] at hf;have := (h2 (j / size) _ _ (List.getElem?_eq_getElem (by omega)) hcs).2.2 (j % size) u hf.symm;rw [Yd_, hdm] at this;exact this
 ·have hl : l = [] := List.eq_nil_of_length_eq_zero (by omega)
  subst hl;exact ⟨[], rfl, (fun k c x h => by simp at h), (by simp), fun h => absurd h (Nat.lt_irrefl _)⟩
structure BdS (s : Sg) : Prop where
 areas : s.areas.length ≤ 6
 stale : s.stale.length ≤ 3
 on : ∀ a ∈ s.areas, a.on.size ≤ 100
 log : s.log.size ≤ 100
 pool : s.pool.size ≤ 100
structure BdV (v : Vo) : Prop where
 name : v.name.size ≤ 100
 tags : v.tags.length ≤ 4
 tagz : ∀ t ∈ v.tags, t.size ≤ 100
 segs : v.segs.length ≤ 3
 seg : ∀ s ∈ v.segs, BdS s
structure BdD (d : Dk) : Prop where
 name : d.name.size ≤ 100
 tags : d.tags.length ≤ 4
 tagz : ∀ t ∈ d.tags, t.size ≤ 100
structure BdG (γ : Gr) : Prop where
 name : γ.name.size ≤ 100
 tags : γ.tags.length ≤ 4
 tagz : ∀ t ∈ γ.tags, t.size ≤ 100
 disks : 1 ≤ γ.disks.length ∧ γ.disks.length ≤ 4
 vols : γ.vols.length ≤ 40
 hist : γ.hist.length ≤ 40
 histz : ∀ h ∈ γ.hist, h.name.size ≤ 100
 disk : ∀ d ∈ γ.disks, BdD d
 vol : ∀ v ∈ γ.vols, BdV v
structure SP (B Wh W : Nat) (S : Nat → Prop) (sb gb : Nat) (γ : Gr) (v0 v1 v2 v3 : Value) (cd cv : List (List Value)) (wx : World) : Prop where
 blk : Blk wx gb 31 #[.string γ.name, .int .u64 γ.id, .int .i64 γ.seq, .int .i64 γ.extent, .int .i64 γ.next, v0, v1, v2, v3]
 src : SrcOk B wx sb
 tl : TL wx S v0 γ.tags
 ds : OS dkW S wx W 46 7 v1 γ.disks cd
 vs : OS voW S wx W 53 6 v2 γ.vols cv
 hr : wx.ownsRow Wh 70 3 v3 γ.hist.length (rC γ.hist)
 sS : ∀ k, S k → k ≠ sb ∧ k ≠ gb ∧ v1.ownBlock ≠ some k ∧ v2.ownBlock ≠ some k ∧ v3.ownBlock ≠ some k ∧ k < wx.heap.size
 wb : B ≤ Wh ∧ sb < Wh ∧ Wh ≤ gb ∧ gb + 1 < W
 low : W ≤ wx.heap.size
section
variable {B Wh W : Nat} {S S' : Nat → Prop} {sb gb : Nat} {γ γ' : Gr} {v0 v1 v2 v3 u0 u1 u2 u3 : Value} {cd cv cd' cv' : List (List Value)} {wx w' w8 : World}
theorem SP.only {F : Nat → Prop} (h : SP B Wh W S sb gb γ v0 v1 v2 v3 cd cv wx) (hs : SrcOk B w' sb) (ho : Only F wx w') (hF : ∀ k, F k → ¬ S k ∧ k ≠ gb ∧ v1.ownBlock ≠ some k ∧ v2.ownBlock ≠ some k ∧ v3.ownBlock ≠ some k) : SP B Wh W S sb gb γ v0 v1 v2 v3 cd cv w' :=
 have hk : Kept S wx w' := Kept.of_only ho fun k hk e => (hF k e).1 hk
 ⟨h.blk.only ho (fun e => (hF _ e).2.1 rfl), hs, TL.keep h.tl hk (fun _ h => h), h.ds.only dkL ho (fun k hk e => (hF k e).2.2.1 hk) (fun k hk e => (hF k e).1 hk) (fun _ h => h), h.vs.only voL ho (fun k hk e => (hF k e).2.2.2.1 hk) (fun k hk e => (hF k e).1 hk) (fun _ h => h), zb_ h.hr ho (fun k hk e => (hF k e).2.2.2.2 hk),
  fun k hk => ⟨(h.sS k hk).1, (h.sS k hk).2.1, (h.sS k hk).2.2.1, (h.sS k hk).2.2.2.1, (h.sS k hk).2.2.2.2.1, Nat.lt_of_lt_of_le (h.sS k hk).2.2.2.2.2 ho.size⟩, h.wb, Nat.le_trans h.low ho.size⟩
theorem SP.srcd (h : SP B Wh W S sb gb γ v0 v1 v2 v3 cd cv wx) (hs : SrcOk B w' sb) (ho : Only (· = sb) wx w') : SP B Wh W S sb gb γ v0 v1 v2 v3 cd cv w' := h.only hs ho (fun k e => by
 have e' : k = sb := e
 have hwb := h.wb
 exact ⟨fun hk => (h.sS k hk).1 e', by omega, fun hk => by have := (h.ds.lt hk).1; omega, fun hk => by have := (h.vs.lt hk).1; omega, fun hk => by have := (World.ownsRow.lt h.hr k hk).1; omega⟩)
theorem SP.up (h : SP B Wh W S sb gb γ v0 v1 v2 v3 cd cv wx) (hb : Bel wx w') : SP B Wh W S sb gb γ v0 v1 v2 v3 cd cv w' := h.only (h.src.below hb) (Only.of_below (fun _ => False) hb) (fun _ h => h.elim)
theorem SP.weak (h : SP B Wh W S sb gb γ v0 v1 v2 v3 cd cv wx) (hS : ∀ k, S k → S' k) (hn : ∀ k, S' k → k ≠ sb ∧ k ≠ gb ∧ v1.ownBlock ≠ some k ∧ v2.ownBlock ≠ some k ∧ v3.ownBlock ≠ some k ∧ k < wx.heap.size) : SP B Wh W S' sb gb γ v0 v1 v2 v3 cd cv wx :=
 ⟨h.blk, h.src, TL.keep h.tl Kept.same hS, h.ds.imp dkL (fun k h _ => hS k h), h.vs.imp voL (fun k h _ => hS k h), h.hr, hn, h.wb, h.low⟩
theorem SP.ne1 (h : SP B Wh W S sb gb γ v0 v1 v2 v3 cd cv wx) {k : Nat} (hk : v1.ownBlock = some k) : k ≠ gb ∧ k ≠ sb ∧ v2.ownBlock ≠ some k ∧ v3.ownBlock ≠ some k ∧ ¬ S k := by
 have h1 := (h.ds.lt hk).1
 have hwb := h.wb
 exact ⟨by omega, by omega, fun e => zh_ h.ds.own h.vs.own (by decide) k hk e, fun e => zh_ h.ds.own h.hr (by decide) k hk e, fun e => (h.sS k e).2.2.1 hk⟩
theorem SP.ne2 (h : SP B Wh W S sb gb γ v0 v1 v2 v3 cd cv wx) {k : Nat} (hk : v2.ownBlock = some k) : k ≠ gb ∧ k ≠ sb ∧ v1.ownBlock ≠ some k ∧ v3.ownBlock ≠ some k ∧ ¬ S k := by
 have h1 := (h.vs.lt hk).1
 have hwb := h.wb
 exact ⟨by omega, by omega, fun e => zh_ h.ds.own h.vs.own (by decide) k e hk, fun e => zh_ h.vs.own h.hr (by decide) k hk e, fun e => (h.sS k e).2.2.2.1 hk⟩
theorem SP.ne3 (h : SP B Wh W S sb gb γ v0 v1 v2 v3 cd cv wx) {k : Nat} (hk : v3.ownBlock = some k) : k ≠ gb ∧ k ≠ sb ∧ v1.ownBlock ≠ some k ∧ v2.ownBlock ≠ some k ∧ ¬ S k := by
 have h1 := (World.ownsRow.lt h.hr k hk).1
 have hwb := h.wb
 exact ⟨fun e => zv_ h.hr (e ▸ hk) h.blk (by decide), by omega, fun e => zh_ h.ds.own h.hr (by decide) k e hk, fun e => zh_ h.vs.own h.hr (by decide) k e hk, fun e => (h.sS k e).2.2.2.2.1 hk⟩
theorem SP.gset (h : SP B Wh W S sb gb γ v0 v1 v2 v3 cd cv wx) (ho : Only (· = gb) wx w') (hb : Blk w' gb 31 #[.string γ'.name, .int .u64 γ'.id, .int .i64 γ'.seq, .int .i64 γ'.extent, .int .i64 γ'.next, u0, v1, v2, v3])
  (ht : TL wx S u0 γ'.tags) (e1 : γ'.disks = γ.disks) (e2 : γ'.vols = γ.vols) (e3 : γ'.hist = γ.hist) : SP B Wh W S sb gb γ' u0 v1 v2 v3 cd cv w' := by
 have hk : Kept S wx w' := Kept.of_only ho fun k hk e => (h.sS k hk).2.1 e
 have hwb := h.wb
 refine ⟨hb, h.src.only ho (fun e => by have e' : sb = gb := e; omega) (fun k e => by have e' : k = gb := e; omega), TL.keep ht hk (fun _ h => h), e1 ▸ h.ds.only dkL ho (fun k hk e => (h.ne1 hk).1 e) (fun k hk e => (h.sS k hk).2.1 e) (fun _ h => h), e2 ▸ h.vs.only voL ho (fun k hk e => (h.ne2 hk).1 e) (fun k hk e => (h.sS k hk).2.1 e) (fun _ h => h), e3 ▸ zb_ h.hr ho (fun k hk e => (h.ne3 hk).1 e), fun k hk => ?_, h.wb, Nat.le_trans h.low ho.size⟩
 have h1 := h.sS k hk
 exact ⟨h1.1, h1.2.1, h1.2.2.1, h1.2.2.2.1, h1.2.2.2.2.1, Nat.lt_of_lt_of_le h1.2.2.2.2.2 ho.size⟩
theorem yt_ {α : Type} {size : Nat} : ∀ (css : List (List α)) (i f : Nat) (c : List α) (u : α), (∀ d ∈ css, d.length = size) → css[i]? = some c → f < size → css.flatten.set (i * size + f) u = (css.set i (c.set f u)).flatten
 | [], i, f, c, u, _, h, _ => by simp at h
 | d :: r, 0, f, c, u, hl, h, hf => by
  simp at h;subst h;rw [Nat.zero_mul, Nat.zero_add, List.set_cons_zero, List.flatten_cons, List.flatten_cons, List.set_append_left _ _ (by rw [hl _ (by simp)]; exact hf)]
 | d :: r, i + 1, f, c, u, hl, h, hf => by
  have hd := hl d (by simp);rw [List.set_cons_succ, List.flatten_cons, List.flatten_cons, List.set_append_right _ _ (by rw [hd, Nat.succ_mul]; omega), show (i + 1) * size + f - d.length = i * size + f by rw [hd, Nat.succ_mul]; omega];rw [yt_ r i f c u (fun d hd => hl d (by simp [hd])) (by simpa using h) hf]
theorem OS.setC {α : Type} {size : Nat} {V : World → (Nat → Prop) → List Value → α → Prop} {a : World → (Nat → Prop) → Addr → α → Prop} {S : Nat → Prop} {w w' : World} {base g n c i : Nat} {T : TypeId} {l : List α} {css : List (List Value)} {c' : List Value} {x' : α} (L : VLaw size V a) (h : OS V S w base T size (.slice (some ⟨g, 0, none⟩) n c) l css)
  (ho : Only (· = g) w w') (hS : ∀ k, S k → k ≠ g) (hown : w'.ownsRow base T size (.slice (some ⟨g, 0, none⟩) n c) l.length (css.set i c').flatten) (hx : V w S c' x') : OS V S w' base T size (.slice (some ⟨g, 0, none⟩) n c) (l.set i x') (css.set i c') := by
 have hk : Kept S w w' := Kept.of_only ho fun k hk e => hS k hk e
 refine ⟨by simp [h.len], by rw [List.length_set]; exact hown, fun k d y hd hy => ?_⟩
 by_cases e : i = k
 ·subst e
  have h1 := (List.getElem?_eq_some_iff.1 hd).1;have h2 := (List.getElem?_eq_some_iff.1 hy).1;rw [List.length_set] at h1 h2;rw [List.getElem?_set_self h1] at hd;rw [List.getElem?_set_self h2] at hy;injection hd with hd;injection hy with hy;subst hd hy;exact L.keep hx hk (fun _ h => h)
 ·rw [List.getElem?_set_ne e] at hd hy
  exact L.keep (h.val k d y hd hy) hk (fun _ h => h)
theorem SP.dcell {gd n c i f : Nat} {ci : List Value} (h : SP B Wh W S sb gb γ v0 (.slice (some ⟨gd, 0, none⟩) n c) v2 v3 cd cv wx) (hn : n = γ.disks.length) (hc : cd[i]? = some ci) (hf : f < 7) : wx.cell? ⟨gd, i * 7 + f, none⟩ = ci[f]? ∧ wx.frozen? ⟨gd, i * 7 + f, none⟩ = false := by
 subst hn
 have hl := h.ds.lens dkL
 have hi : i < γ.disks.length := by rw [← h.ds.len]; exact (List.getElem?_eq_some_iff.1 hc).1
 have hlt : i * 7 + f < γ.disks.length * 7 := by omega
 exact ⟨by rw [World.ownsRow.cellAt h.ds.own (i * 7 + f) hlt, zT_ cd i f ci hl hc hf], World.ownsRow.frozenAt h.ds.own _⟩
theorem BdG.setDk {i : Nat} {d' : Dk} (h : BdG γ) (hd : BdD d') : BdG { γ with disks := γ.disks.set i d' } :=
 ⟨h.name, h.tags, h.tagz, by show 1 ≤ (γ.disks.set i d').length ∧ _; rw [List.length_set]; exact h.disks, h.vols, h.hist, h.histz, fun d hd' => (List.mem_or_eq_of_mem_set hd').elim (h.disk d) (fun e => e ▸ hd), h.vol⟩
theorem SP.setD {gd n c i f : Nat} {u : Value} {ci : List Value} {d' : Dk} (h : SP B Wh W S sb gb γ v0 (.slice (some ⟨gd, 0, none⟩) n c) v2 v3 cd cv wx) (hn : n = γ.disks.length) (hc : cd[i]? = some ci) (hf : f < 7) (hd : dkW wx S (ci.set f u) d') :
  SP B Wh W S sb gb { γ with disks := γ.disks.set i d' } v0 (.slice (some ⟨gd, 0, none⟩) n c) v2 v3 (cd.set i (ci.set f u)) cv (wx.setCell ⟨gd, i * 7 + f, none⟩ u) ∧ Only (· = gd) wx (wx.setCell ⟨gd, i * 7 + f, none⟩ u) := by
 subst hn
 have hgd : (Value.slice (some ⟨gd, 0, none⟩) γ.disks.length c).ownBlock = some gd := rfl
 have ho : Only (· = gd) wx (wx.setCell ⟨gd, i * 7 + f, none⟩ u) := (Only.refl (· = gd) wx).setCell (p := ⟨gd, i * 7 + f, none⟩) (.inl rfl) u
 have hne := h.ne1 hgd
 have hst := (World.ownsRow.stored h.ds.own (i * 7 + f) u).1
 rw [yt_ cd i f ci u (h.ds.lens dkL) hc hf] at hst
 have hkp : Kept S wx (wx.setCell ⟨gd, i * 7 + f, none⟩ u) := Kept.of_only ho fun k hk e => by have e' : k = gd := e; subst e'; exact hne.2.2.2.2 hk
 refine ⟨⟨h.blk.only ho (fun e => hne.1 (by have e' : gb = gd := e; exact e'.symm)), h.src.only ho (fun e => hne.2.1 (by have e' : sb = gd := e; exact e'.symm)) (fun k e => by have e' : k = gd := e; have h1 := (h.ds.lt hgd).1; have := h.wb; omega), TL.keep h.tl hkp (fun _ h => h), h.ds.setC dkL ho (fun k hk e => by subst e; exact hne.2.2.2.2 hk) hst hd, h.vs.only voL ho (fun k hk e => by have e' : k = gd := e; subst e'; exact hne.2.2.1 hk) (fun k hk e => by have e' : k = gd := e; subst e'; exact hne.2.2.2.2 hk) (fun _ h => h), zb_ h.hr ho (fun k hk e => by have e' : k = gd := e; subst e'; exact hne.2.2.2.1 hk), fun k hk => ?_, h.wb, Nat.le_trans h.low ho.size⟩, ho⟩
 have h1 := h.sS k hk
 exact ⟨h1.1, h1.2.1, h1.2.2.1, h1.2.2.2.1, h1.2.2.2.2.1, Nat.lt_of_lt_of_le h1.2.2.2.2.2 ho.size⟩
theorem SP.g0 (h : SP B Wh W S sb gb γ v0 v1 v2 v3 cd cv wx) (z : ByteArray) : SP B Wh W S sb gb { γ with name := z } v0 v1 v2 v3 cd cv (wx.setCell ⟨gb, 0, none⟩ (.string z)) ∧ Only (· = gb) wx (wx.setCell ⟨gb, 0, none⟩ (.string z)) := by
 have ho : Only (· = gb) wx (wx.setCell ⟨gb, 0, none⟩ (.string z)) := (Only.refl (· = gb) wx).setCell (p := ⟨gb, 0, none⟩) (.inl rfl) _
 have hb := h.blk.set_ 0 (.string z)
 exact ⟨h.gset (γ' := { γ with name := z }) ho (by simpa only [tS] using hb) h.tl rfl rfl rfl, ho⟩
theorem SP.g2 (h : SP B Wh W S sb gb γ v0 v1 v2 v3 cd cv wx) (z : Int) : SP B Wh W S sb gb { γ with seq := z } v0 v1 v2 v3 cd cv (wx.setCell ⟨gb, 2, none⟩ (.int .i64 z)) ∧ Only (· = gb) wx (wx.setCell ⟨gb, 2, none⟩ (.int .i64 z)) := by
 have ho : Only (· = gb) wx (wx.setCell ⟨gb, 2, none⟩ (.int .i64 z)) := (Only.refl (· = gb) wx).setCell (p := ⟨gb, 2, none⟩) (.inl rfl) _
 have hb := h.blk.set_ 2 (.int .i64 z)
 exact ⟨h.gset (γ' := { γ with seq := z }) ho (by simpa only [tS] using hb) h.tl rfl rfl rfl, ho⟩
theorem SP.g3 (h : SP B Wh W S sb gb γ v0 v1 v2 v3 cd cv wx) (z : Int) : SP B Wh W S sb gb { γ with extent := z } v0 v1 v2 v3 cd cv (wx.setCell ⟨gb, 3, none⟩ (.int .i64 z)) ∧ Only (· = gb) wx (wx.setCell ⟨gb, 3, none⟩ (.int .i64 z)) := by
 have ho : Only (· = gb) wx (wx.setCell ⟨gb, 3, none⟩ (.int .i64 z)) := (Only.refl (· = gb) wx).setCell (p := ⟨gb, 3, none⟩) (.inl rfl) _
 have hb := h.blk.set_ 3 (.int .i64 z)
 exact ⟨h.gset (γ' := { γ with extent := z }) ho (by simpa only [tS] using hb) h.tl rfl rfl rfl, ho⟩
theorem SP.g4 (h : SP B Wh W S sb gb γ v0 v1 v2 v3 cd cv wx) (z : Int) : SP B Wh W S sb gb { γ with next := z } v0 v1 v2 v3 cd cv (wx.setCell ⟨gb, 4, none⟩ (.int .i64 z)) ∧ Only (· = gb) wx (wx.setCell ⟨gb, 4, none⟩ (.int .i64 z)) := by
 have ho : Only (· = gb) wx (wx.setCell ⟨gb, 4, none⟩ (.int .i64 z)) := (Only.refl (· = gb) wx).setCell (p := ⟨gb, 4, none⟩) (.inl rfl) _
 have hb := h.blk.set_ 4 (.int .i64 z)
 exact ⟨h.gset (γ' := { γ with next := z }) ho (by simpa only [tS] using hb) h.tl rfl rfl rfl, ho⟩
theorem SP.fresh (h : SP B Wh W S sb gb γ v0 v1 v2 v3 cd cv wx) (o : Obj) : SP B Wh W (fun k => S k ∨ k = wx.heap.size) sb gb γ v0 v1 v2 v3 cd cv (wx.alloc o) := by
 have hu := h.up ((Below.refl _ _).al o)
 have hsz : (wx.alloc o).heap.size = wx.heap.size + 1 := by simp
 have hwb := h.wb
 have hlow := h.low
 exact hu.weak (fun k hk => .inl hk) (fun k hk => hk.elim (hu.sS k) (fun e => ⟨by omega, by omega, fun e' => by have := (h.ds.lt e').2; omega, fun e' => by have := (h.vs.lt e').2; omega, fun e' => by have := (World.ownsRow.lt h.hr k e').2; omega, by omega⟩))
theorem Yg_ {a b : ByteArray} (hS : S wx.heap.size) : TL (wx.alloc (.cells #[.string a, .string b] 9)) S (.slice (some ⟨wx.heap.size, 0, none⟩) 2 2) [a, b] := by
 refine ⟨_, 2, rfl, Nat.le_refl _, fun _ => ⟨_, rfl, hS, by simp, fun k x hk => ?_⟩⟩
 have hlt := (List.getElem?_eq_some_iff.1 hk).1
 rw [Nat.mul_one, add_zero]
 show (wx.alloc (.cells #[.string a, .string b] 9)).cell? ⟨wx.heap.size, k, none⟩ = some (.string x)
 rw [(Blk.new wx _ _).cell]
 rcases (show k = 0 ∨ k = 1 by simp at hlt; omega) with rfl | rfl <;> simp at hk <;> subst hk <;> rfl
theorem SP.g5 (h : SP B Wh W S sb gb γ v0 v1 v2 v3 cd cv wx) (a b : ByteArray) : SP B Wh W (fun k => S k ∨ k = wx.heap.size) sb gb { γ with tags := [a, b] } (.slice (some ⟨wx.heap.size, 0, none⟩) 2 2) v1 v2 v3 cd cv ((wx.alloc (.cells #[.string a, .string b] 9)).setCell ⟨gb, 5, none⟩ (.slice (some ⟨wx.heap.size, 0, none⟩) 2 2)) ∧ Only (fun k => k = gb) wx ((wx.alloc (.cells #[.string a, .string b] 9)).setCell ⟨gb, 5, none⟩ (.slice (some ⟨wx.heap.size, 0, none⟩) 2 2)) := by
 have hf := h.fresh (.cells #[.string a, .string b] 9)
 have ho : Only (· = gb) (wx.alloc (.cells #[.string a, .string b] 9)) ((wx.alloc (.cells #[.string a, .string b] 9)).setCell ⟨gb, 5, none⟩ (.slice (some ⟨wx.heap.size, 0, none⟩) 2 2)) := (Only.refl (· = gb) _).setCell (p := ⟨gb, 5, none⟩) (.inl rfl) _
 have hb := hf.blk.set_ 5 (.slice (some ⟨wx.heap.size, 0, none⟩) 2 2)
 exact ⟨hf.gset (γ' := { γ with tags := [a, b] }) ho (by simpa only [tS] using hb) (Yg_ (.inr rfl)) rfl rfl rfl, ((Only.refl _ wx).alloc _).trans ho⟩
def TnF (sb Wh n : Nat) (vo : Value) (k : Nat) : Prop := k = sb ∨ (Wh ≤ k ∧ (vo.ownBlock = some k ∨ n ≤ k))
theorem TnF.inl {sb Wh n k : Nat} {vo : Value} (h : k = sb) : TnF sb Wh n vo k := Or.inl h
theorem TnF.inr {sb Wh n k : Nat} {vo : Value} (h : Wh ≤ n ∧ n ≤ k) : TnF sb Wh n vo k := Or.inr ⟨Nat.le_trans h.1 h.2, Or.inr h.2⟩
theorem TnF.own {sb Wh n k : Nat} {vo : Value} (h : Wh ≤ k) (e : vo.ownBlock = some k) : TnF sb Wh n vo k := Or.inr ⟨h, Or.inl e⟩
def SpD (B sb : Nat) (w : World) (S0 : Nat → Prop) (Wh : Nat) (γ0 : Gr) (vo : Value) (wx : World) : Prop :=
 ∃ S γ v0 v1 v2 v3 cd cv, BdG γ ∧ SP B Wh (w.heap.size + 1 + 1) S sb w.heap.size γ v0 v1 v2 v3 cd cv wx ∧ (∀ k, S k → (S0 k ∨ Wh ≤ k) ∧ k ≠ w.heap.size + 1) ∧ Blk wx (w.heap.size + 1) 31 #[.string ⟨#[]⟩, .int .u64 0, .int .i64 0, .int .i64 0, .int .i64 0, .slice none 0 0, .slice none 0 0, .slice none 0 0, .slice none 0 0] ∧
  ML wx (fun k => Wh ≤ k ∧ k < w.heap.size) vo γ0.hist ∧ Only (TnF sb Wh w.heap.size vo) w wx
theorem jB_ {hs : List Rm} {v : Value} (h : wx.ownsRow Wh 70 3 v hs.length (rC hs)) : ML wx (fun k => v.ownBlock = some k) v hs := by
 have hos : OS rmW (fun k => v.ownBlock = some k) wx Wh 70 3 v hs (hs.map fun x => (rmA x).toList) := ⟨by simp, h, fun k c y hc hy => by
  rw [List.getElem?_map, hy] at hc;simp at hc;exact hc.symm⟩
 exact hos.lr rmL (by decide) (fun _ h => h) (fun k hk => hk)
def SpRet (B sb : Nat) (w : World) (S0 : Nat → Prop) (Wh : Nat) (γ : Gr) (v3 : Value) (e : Ending) (w' : World) : Prop :=
 ∃ γ' u0 u1 u2 u3, BdG γ' ∧ e = .returned (.agg (grA γ' u0 u1 u2 u3)) ∧ TL w' (fun k => S0 k ∨ Wh ≤ k) u0 γ'.tags ∧ DL w' (fun k => S0 k ∨ Wh ≤ k) u1 γ'.disks ∧ VL w' (fun k => S0 k ∨ Wh ≤ k) u2 γ'.vols ∧ ML w' (fun k => Wh ≤ k) u3 γ'.hist ∧ ML w' (fun k => Wh ≤ k) v3 γ.hist ∧ SrcOk B w' sb ∧ Only (TnF sb Wh w.heap.size v3) w w'
theorem YA_ {w : World} {S0 : Nat → Prop} {γ0 : Gr} {vo : Value} (hb : BdG γ) (h : SP B Wh (w.heap.size + 1 + 1) S sb w.heap.size γ v0 v1 v2 v3 cd cv wx) (hs : ∀ k, S k → (S0 k ∨ Wh ≤ k) ∧ k ≠ w.heap.size + 1) (hrb : Blk wx (w.heap.size + 1) 31 #[.string ⟨#[]⟩, .int .u64 0, .int .i64 0, .int .i64 0, .int .i64 0, .slice none 0 0, .slice none 0 0, .slice none 0 0, .slice none 0 0]) (hm : ML wx (fun k => Wh ≤ k ∧ k < w.heap.size) vo γ0.hist) (hon : Only (TnF sb Wh w.heap.size vo) w wx) (hW : sb < Wh ∧ Wh ≤ w.heap.size) (ho : Only (· = w.heap.size + 1) wx w') :
  SpRet B sb w S0 Wh γ0 vo (.returned (.agg (grA γ v0 v1 v2 v3))) w' := by
 have hwb := h.wb
 have hkS : Kept S wx w' := Kept.of_only ho fun k hk e => (hs k hk).2 e
 have h1 := h.ds.only dkL ho (S' := S) (fun k hk e => by have e' : k = w.heap.size + 1 := e; have := (h.ds.lt hk).1; omega) (fun k hk e => (hs k hk).2 e) (fun _ h => h)
 have h2 := h.vs.only voL ho (S' := S) (fun k hk e => by have e' : k = w.heap.size + 1 := e; have := (h.vs.lt hk).1; omega) (fun k hk e => (hs k hk).2 e) (fun _ h => h)
 refine ⟨γ, v0, v1, v2, v3, hb, rfl, TL.keep h.tl hkS (fun k hk => (hs k hk).1), h1.lr dkL (by decide) (fun k hk => (hs k hk).1) (fun k hk => .inr (by have := (h.ds.lt hk).1; omega)), h2.lr voL (by decide) (fun k hk => (hs k hk).1) (fun k hk => .inr (by have := (h.vs.lt hk).1; omega)), ?_, ?_, h.src.only ho (fun e => by have e' : sb = w.heap.size + 1 := e; omega) (fun k e => by have e' : k = w.heap.size + 1 := e; omega), hon.trans (ho.mono fun k _ e => .inr (by have e' : k = w.heap.size + 1 := e; omega))⟩
 ·exact ML.keep (jB_ h.hr) (Kept.of_only ho fun k hk e => zv_ h.hr ((show k = w.heap.size + 1 from e) ▸ hk) hrb (by decide)) (fun k hk => (World.ownsRow.lt h.hr k hk).1)
 ·exact ML.keep hm (Kept.of_only ho fun k hk e => by have e' : k = w.heap.size + 1 := e; have := hk.2; omega) (fun k hk => hk.1)
end
theorem ql_ {P : Program} {w : World} (base : Nat) (t ty e : TypeId) (i : TypeInfo) (z : Value) (size bytes : Nat) (ht : P.underlying t = some (.slice e)) (hi : P.info? e = some i) (hz : i.zero = some z)
  (hsize : i.size = size) (hby : i.bytes = bytes) (hzs : z.cells.size = size) (hsz : 0 < size)
  (v : Value) (n : Nat) (xs : List Value) (hown : w.ownsRow base e size v n xs)
  (a : Addr) (m c : Nat) (news : List Value) (hl : news.length = m * size) (hnews : ∀ j u, news[j]? = some u → w.cell? (a.add j) = some u) (h1 : ∀ u ∈ news, u.oneCell' = true)
  (hm : 0 < m) (h63 : n + m ≤ maxLen) (hbytes : (n + m) * bytes ≤ 140737488355328) (hbase : base ≤ w.heap.size) :
  ∃ v' w', (Builtin.append_ #[t, t] ty #[v, .slice (some a) m c]).run P w = .ok v' w' ∧ w'.ownsRow base e size v' (n + m) (xs ++ news) ∧ w.grownBy w' v.ownBlock ∧ (v'.ownBlock = v.ownBlock ∨ v'.ownBlock = some w.heap.size) ∧
   ∀ g, v.ownBlock = some g → ∀ j u, xs[j]? = some u → w'.cell? ⟨g, j, none⟩ = some u := by
 obtain ⟨v', w', hrun, h2, h3, _, h5⟩ := run_append_own_at (P := P) w base t ty e i z size bytes ht hi hz hsize hby hzs hsz v n xs hown a m c news hl hnews h1 h63 hbytes hbase
 refine ⟨v', w', hrun, h2, h3, h5, fun g hg j u hj => ?_⟩
 have hjl : j < n * size := by rw [← hown.1]; exact (List.getElem?_eq_some_iff.1 hj).1
 rcases id hown.2 with ⟨rfl, _⟩ | ⟨g', cap, cur, rfl, hbg, hgc, hnc, hcm, hcs, htake⟩
 ·cases hg
 ·injection hg with hg
  subst hg;by_cases hroom : n + m ≤ cap
  ·have hfit : n * i.size + news.length ≤ cur.size := by rw [hl, hcs, hsize, ← Nat.add_mul]; exact Nat.mul_le_mul_right _ hroom
   have hr := run_append_room (P := P) w t ty e i ht hi g' n cap cur hgc a m c news (by rw [hl, hsize]) hnews h1 hroom hfit;have hvv := hrun.symm.trans hr;injection hvv with e1 e2;subst e1;rw [World.ownsRow.cellAt h2 j (by rw [Nat.add_mul]; omega), List.getElem?_append_left (by rw [hown.1]; exact hjl)];exact hj
  ·have hr := run_append_grow (P := P) w t ty e i z ht hi hz ⟨g', 0, none⟩ n cap xs (by rw [hown.1, hsize]) (hown.cells (g := g') rfl) a m c news (by rw [hl, hsize]) hnews (by omega) (by simp only [maxLen] at h63; omega) (growslice_fits (by omega) (by rw [hby]; exact hbytes))
   have hvv := hrun.symm.trans hr;injection hvv with e1 e2;have hb : Bel w w' := e2 ▸ ((Below.refl _ _).drew.al _);rw [hb.cell (p := ⟨g', j, none⟩) (Blk.lt (t := e) hgc), World.ownsRow.cellAt hown j hjl];exact hj
theorem xk_ {P : Program} (w : World) {ops : Array Oper} {rest : List Oper} {o : Oper} {a : Act} {Q : Exit → Act → World → Prop} (hgd : o.guard = none) (s x : Operand) (t : TypeId)
  (ho : o.op = .call { callee := .builtin .append, args := #[s, x], argTypes := #[t, t] })
  (base : Nat) (e : TypeId) (i : TypeInfo) (z : Value) (size bytes : Nat) (ht : P.underlying t = some (.slice e)) (hi : P.info? e = some i) (hz : i.zero = some z)
  (hsize : i.size = size) (hby : i.bytes = bytes) (hzs : z.cells.size = size) (hsz : 0 < size)
  (v : Value) (n : Nat) (xs : List Value) (hs : a.eval s = v) (hown : w.ownsRow base e size v n xs)
  (ad : Addr) (m c : Nat) (news : List Value) (hx : a.eval x = .slice (some ad) m c) (hl : news.length = m * size) (hnews : ∀ j u, news[j]? = some u → w.cell? (ad.add j) = some u) (h1 : ∀ u ∈ news, u.oneCell' = true)
  (hm : 0 < m) (h63 : n + m ≤ maxLen) (hbytes : (n + m) * bytes ≤ 140737488355328) (hbase : base ≤ w.heap.size)
  (h : ∀ v' w', w'.ownsRow base e size v' (n + m) (xs ++ news) → w.grownBy w' v.ownBlock → (v'.ownBlock = v.ownBlock ∨ v'.ownBlock = some w.heap.size) → (∀ g, v.ownBlock = some g → ∀ j u, xs[j]? = some u → w'.cell? ⟨g, j, none⟩ = some u) → wpList P ops Q rest (a.put o.dst v') w') : wpList P ops Q (o :: rest) a w :=
 wpList_plain hgd fun _ hK => by
  obtain ⟨v', w', hrun, h2, h3, h4, h5⟩ := ql_ (P := P) base t o.type e i z size bytes ht hi hz hsize hby hzs hsz v n xs hown ad m c news hl hnews h1 hm h63 hbytes hbase;unfold Oper.wp execOp;simp only [ho, resolve, invoke, builtin, Sem.run_bind, Sem.run_pure, Result.andThen_ok, List.map_toArray, List.map_cons, List.map_nil, hs, hx, hrun];exact hK _ _ (h v' w' h2 h3 h4 h5)
theorem Jn_ {w w' : World} {Wh : Nat} {hs : List Rm} {v : Value} (h : w.ownsRow Wh 70 3 v hs.length (rC hs)) (hk : ∀ g, v.ownBlock = some g → ∀ j u, (rC hs)[j]? = some u → w'.cell? ⟨g, j, none⟩ = some u) (hsz : w.heap.size ≤ w'.heap.size) : ML w' (fun k => v.ownBlock = some k) v hs := by
 rcases id h.2 with ⟨rfl, h0⟩ | ⟨g, cap, cur, rfl, _, _, hc, _⟩
 ·have : hs = [] := List.eq_nil_of_length_eq_zero h0
  subst this;exact LR.nil
 ·refine ⟨_, cap, rfl, hc, fun _ => ⟨_, rfl, rfl, Nat.lt_of_lt_of_le (World.ownsRow.lt h g rfl).2 hsz, fun k x hx => ?_⟩⟩
  rw [add_zero];refine rmL.at_ (w := w') (S := fun _ => True) (c := (rmA x).toList) rfl (fun j u hu => ?_);have hj : j < 3 := by have := (List.getElem?_eq_some_iff.1 hu).1; simpa [rmA] using this
  refine hk g rfl (k * 3 + j) u ?_;unfold rC;rw [zT_ (size := 3) _ k j (rmA x).toList (fun c hc => by obtain ⟨y, _, rfl⟩ := List.mem_map.1 hc; rfl) (by rw [List.getElem?_map, hx]; rfl) hj];exact hu
theorem SP.pushH {B Wh W : Nat} {S : Nat → Prop} {sb gb : Nat} {γ : Gr} {v0 v1 v2 v3 v3' : Value} {cd cv : List (List Value)} {wx w8 : World} {x : Rm} (h : SP B Wh W S sb gb γ v0 v1 v2 v3 cd cv wx) (ho : w8.ownsRow Wh 70 3 v3' (γ.hist.length + 1) (rC γ.hist ++ (rmA x).toList)) (hg : wx.grownBy w8 v3.ownBlock) (hd : v3'.ownBlock = v3.ownBlock ∨ v3'.ownBlock = some wx.heap.size) :
  SP B Wh W S sb gb { γ with hist := γ.hist ++ [x] } v0 v1 v2 v3' cd cv (w8.setCell ⟨gb, 8, none⟩ v3') ∧ Only (fun k => k = gb ∨ v3.ownBlock = some k) wx (w8.setCell ⟨gb, 8, none⟩ v3') := by
 have hon : Only (fun k => v3.ownBlock = some k) wx w8 := (Only.refl (fun k => v3.ownBlock = some k) wx).grown hg (fun k e => .inl e)
 have ho2 : Only (· = gb) w8 (w8.setCell ⟨gb, 8, none⟩ v3') := (Only.refl (· = gb) w8).setCell (p := ⟨gb, 8, none⟩) (.inl rfl) v3'
 have hwb := h.wb
 have hk1 : Kept S wx w8 := Kept.of_only hon fun k hk e => (h.ne3 e).2.2.2.2 hk
 have hk2 : Kept S w8 (w8.setCell ⟨gb, 8, none⟩ v3') := Kept.of_only ho2 fun k hk e => (h.sS k hk).2.1 e
 have hb8 := h.blk.only hon (fun e => (h.ne3 e).1 rfl)
 have hg3 : ∀ k, v3'.ownBlock = some k → k ≠ gb := fun k hk e => zv_ ho (e ▸ hk) hb8 (by decide)
 have hall : Only (fun k => k = gb ∨ v3.ownBlock = some k) wx (w8.setCell ⟨gb, 8, none⟩ v3') := (hon.mono fun k _ e => .inr e).trans_ ho2 (fun k _ e => .inl e)
 refine ⟨⟨hb8.set_ 8 v3', (h.src.only hon (fun e => (h.ne3 e).2.1 rfl) (fun k e => by have := (World.ownsRow.lt h.hr k e).1; omega)).only ho2 (fun e => by have e' : sb = gb := e; omega) (fun k e => by have e' : k = gb := e; omega), TL.keep (TL.keep h.tl hk1 (fun _ h => h)) hk2 (fun _ h => h),
  (h.ds.only dkL hon (fun k hk e => (h.ne3 e).2.2.1 hk) (fun k hk e => (h.ne3 e).2.2.2.2 hk) (fun _ h => h)).only dkL ho2 (fun k hk e => (h.ne1 hk).1 e) (fun k hk e => (h.sS k hk).2.1 e) (fun _ h => h), (h.vs.only voL hon (fun k hk e => (h.ne3 e).2.2.2.1 hk) (fun k hk e => (h.ne3 e).2.2.2.2 hk) (fun _ h => h)).only voL ho2 (fun k hk e => (h.ne2 hk).1 e) (fun k hk e => (h.sS k hk).2.1 e) (fun _ h => h), ?_, fun k hk => ?_, h.wb, Nat.le_trans h.low hall.size⟩, hall⟩
 ·show (w8.setCell ⟨gb, 8, none⟩ v3').ownsRow Wh 70 3 v3' (γ.hist ++ [x]).length (rC (γ.hist ++ [x]))
  rw [List.length_append, YM_];exact zb_ ho ho2 (fun k hk e => hg3 k hk e)
 ·have h1 := h.sS k hk
  refine ⟨h1.1, h1.2.1, h1.2.2.1, h1.2.2.2.1, fun e => ?_, Nat.lt_of_lt_of_le h1.2.2.2.2.2 hall.size⟩;rcases hd with hd | hd
  ·exact h1.2.2.2.2.1 (hd ▸ e)
  ·rw [e] at hd; injection hd with hd; have := h1.2.2.2.2.2; omega
end Go.Proofs.YtdkcfgahdcpkkaaDoor
