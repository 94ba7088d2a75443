/- The builder: the states of the regions of 'more'. -/
import Derived.Test.YtdkcfgahdcpkkaaDoorBMkMore0
set_option linter.all false
set_option linter.unusedVariables false
set_option linter.unusedSimpArgs false
namespace Go.Proofs.YtdkcfgahdcpkkaaDoor
open Go.RowKit
set_option maxRecDepth 100000
theorem three {W : World} {g : Nat} {T : TypeId} {v0 v1 v2 : Value} (h : Blk W g T #[v0, v1, v2]) : W.cell? ⟨g, 0, none⟩ = some v0 ∧ W.cell? ⟨g, 1, none⟩ = some v1 ∧ W.cell? ⟨g, 2, none⟩ = some v2 :=
 ⟨by rw [h.cell 0]; rfl, by rw [h.cell 1]; rfl, by rw [h.cell 2]; rfl⟩
theorem own_blk {w : World} {g base size n : Nat} {T : TypeId} {cs : Array Value} (h : Blk w g T cs) (hn : cs.size = n * size) (hb : base ≤ g) (hm : n ≤ maxLen) : w.ownsRow base T size (.slice (some ⟨g, 0, none⟩) n n) n cs.toList :=
 ⟨by rw [Array.length_toList, hn], .inr ⟨g, n, cs, rfl, hb, h, Nat.le_refl _, hm, hn, by rw [← hn, ← Array.length_toList, List.take_length]⟩⟩
theorem own_ne_blk {w : World} {base size n k : Nat} {e T : TypeId} {v : Value} {xs : List Value} {cs : Array Value} (h : w.ownsRow base e size v n xs) (hk : v.ownBlock = some k) (hb : Blk w k T cs) (hne : e ≠ T) : False := by
 rcases h.2 with ⟨rfl, _⟩ | ⟨g, cap, cur, rfl, _, hg, _⟩
 ·cases hk
 ·injection hk with hk
  subst hk
  have h1 : w.heap[g]? = some (.cells cs T (0, 0)) := hb
  have h2 := hg.symm.trans h1
  injection h2 with h2
  injection h2 with _ h2 _
  exact hne h2
theorem ar_ne {w : World} {base size n size2 n2 k : Nat} {e T : TypeId} {v v2 : Value} {xs xs2 : List Value} (h : w.ownsRow base e size v n xs) (h2 : ARow w base T size2 v2 n2 xs2) (hk : v.ownBlock = some k) (hk2 : v2.ownBlock = some k) (hne : e ≠ T) : False := by
 have hb := (World.ownsRow.lt h k hk).1
 rcases h2 with h2 | ⟨g, rfl, hg, _⟩
 ·exact own_ne_own h h2 hne k hk hk2
 ·injection hk2 with hk2
  subst hk2
  have : g < base := hg
  exact absurd hb (Nat.not_le_of_lt this)
theorem own_far {g n c k : Nat} {A B : Prop} (hk : (Value.slice (some ⟨g, 0, none⟩) n c).ownBlock = some k) (e : A ∨ B) (h1 : A → ¬ g = k) (h2 : B → ¬ g = k) : False := by
 injection hk with hk
 exact e.elim (fun a => h1 a hk) (fun b => h2 b hk)
theorem reads_row {w : World} {cs : Array Value} {T : TypeId} {n : Nat} (hn : cs.size = n) : Reads (w.alloc (.cells cs T)) (w.alloc (.cells cs T)).heap.size 1 (some ⟨w.heap.size, 0, none⟩) n cs.toList := by
 refine ⟨by simp [hn], fun _ => ⟨_, rfl, by simp, fun j u hu => ?_⟩⟩
 rw [add_zero, (Blk.new w T cs).cell]
 simpa using hu
/-- what area returns -/
def arT (r : Option Ar) : Value := .tuple #[.agg (arA (r.getD zAr)), .bool r.isSome]
/-- an area is taken: 0 the disk, 1 the area, 2 its box, 3 what came, 4 the area, 5 whether, 6 the store -/
structure ArF (B : Nat) (S : Nat → Prop) (w : World) (bb sb : Nat) (vt vd vv vn : Value) (css : List (List Value)) (v0 : Vo) (vT : Value) (β1 : Be) (n : Int) (l1 : List Sg) (vS : Value) (cs : List (List Value)) (S3 : Nat → Prop) (wr : World) (d : Nat → Bool) (x : Nat → Value) (wx : World) : Prop where
 mm : ∃ β2, MM B S w bb sb vt vd vv vn css v0 vT β2 l1 vS cs S3 wx ∧ (d 1 = false → β2 = β1) ∧ (d 1 = true → ∃ dd r, AreaR β1 dd n r β2 ∧ x 1 = arT r ∧ (d 3 = true → x 3 = arT r) ∧ (d 4 = true → x 4 = .agg (arA (r.getD zAr))) ∧ (d 5 = true → x 5 = .bool r.isSome) ∧ (d 6 = true → ∃ q, x 2 = .pointer (some ⟨q, 0, none⟩) ∧ wr.heap.size ≤ q ∧ Blk wx q 60 (arA (r.getD zAr))))
 on : Only (fun k => Mt bb sb vv vn k ∨ wr.heap.size ≤ k) wr wx
 f0 : d 0 = true → ∃ dd : Nat, dd < β1.g.disks.length ∧ x 0 = .int .i64 (dd : Int)
 f2 : d 2 = true → d 6 = false → ∃ q, x 2 = .pointer (some ⟨q, 0, none⟩) ∧ wr.heap.size ≤ q ∧ Blk wx q 60 #[.bool false, .string ⟨#[]⟩, .int .i64 0]
section
variable {B : Nat} {S : Nat → Prop} {w wr wx w' : World} {bb sb : Nat} {β1 β2 : Be} {vt vd vv vn : Value} {css : List (List Value)} {v0 : Vo} {vT vS : Value} {n : Int} {l1 : List Sg} {cs : List (List Value)} {S3 : Nat → Prop} {d : Nat → Bool} {x : Nat → Value}
theorem ArF.start (h : MM B S w bb sb vt vd vv vn css v0 vT β1 l1 vS cs S3 wr) (x : Nat → Value) : ArF B S w bb sb vt vd vv vn css v0 vT β1 n l1 vS cs S3 wr none_ x wr.drew :=
 ⟨⟨β1, h.up (Below.refl _ _).drew, fun _ => rfl, (fun h => by cases h)⟩, (Only.refl _ _).drew, (fun h => by cases h), (fun h => by cases h)⟩
theorem ArF.cells (h : ArF B S w bb sb vt vd vv vn css v0 vT β1 n l1 vS cs S3 wr d x wx) : wx.cell? ⟨bb, 0, none⟩ = some (.pointer (some ⟨sb, 0, none⟩)) ∧ wx.cell? ⟨bb, 7, none⟩ = some vd := by
 obtain ⟨β2, hm, _⟩ := h.mm
 exact ⟨hm.bu.cells.1, hm.bu.cells.2.2.2.2.2.2.2.1⟩
theorem ArF.mt (h : ArF B S w bb sb vt vd vv vn css v0 vT β1 n l1 vS cs S3 wr d x wx) (hw : w.heap.size ≤ wr.heap.size) : ∀ k, Mt bb sb vv vn k → k < wr.heap.size := fun k hk => by
 obtain ⟨β2, hm, _⟩ := h.mm
 exact Nat.lt_of_lt_of_le (hm.mt k hk) hw
theorem ArF.s0 {dd : Nat} (h : ArF B S w bb sb vt vd vv vn css v0 vT β1 n l1 vS cs S3 wr d x wx) (hw : w.heap.size ≤ wr.heap.size) (h1 : d 1 = false) (hd : dd < β1.g.disks.length) (hs : SrcOk B w' sb) (ho : Only (· = sb) wx w') : ArF B S w bb sb vt vd vv vn css v0 vT β1 n l1 vS cs S3 wr (upd d 0 true) (upd x 0 (.int .i64 (dd : Int))) w' := by
 have hmt := h.mt hw
 obtain ⟨β2, hm, e1, _⟩ := h.mm
 refine ⟨⟨β2, hm.src hs ho, e1, fun e => tf e h1⟩, h.on.trans (ho.mono fun _ _ e => .inl (.inr (.inl e))), fun _ => ⟨dd, hd, rfl⟩, fun e e6 => ?_⟩
 obtain ⟨q, e, hq, hb⟩ := h.f2 e e6
 exact ⟨q, e, hq, fresh_keep hb hq (ho.mono fun _ _ e => .inr (.inl e)) hmt⟩
theorem ArF.s1 {dd : Nat} {r : Option Ar} (h : ArF B S w bb sb vt vd vv vn css v0 vT β1 n l1 vS cs S3 wr d x wx) (hw : w.heap.size ≤ wr.heap.size) (h3 : d 3 = false) (h4 : d 4 = false) (h5 : d 5 = false) (h6 : d 6 = false) (hr : AreaR β1 dd n r β2) (hb : BU B S3 w' bb sb β2 vt vd vv vn css) (ho : Only (Mt bb sb vv vn) wx w') :
  ArF B S w bb sb vt vd vv vn css v0 vT β1 n l1 vS cs S3 wr (upd d 1 true) (upd x 1 (arT r)) w' := by
 have hmt := h.mt hw
 obtain ⟨β', hm, e1, _⟩ := h.mm
 refine ⟨⟨β2, hm.area hb ho, fun e => (by cases e), fun _ => ⟨dd, r, hr, rfl, fun e => tf e h3, fun e => tf e h4, fun e => tf e h5, fun e => tf e h6⟩⟩, h.on.trans (ho.mono fun _ _ e => .inl e), h.f0, fun e e6 => ?_⟩
 obtain ⟨q, e, hq, hb⟩ := h.f2 e e6
 exact ⟨q, e, hq, fresh_keep hb hq ho hmt⟩
theorem ArF.s2 (h : ArF B S w bb sb vt vd vv vn css v0 vT β1 n l1 vS cs S3 wr d x wx) (h6 : d 6 = false) : ArF B S w bb sb vt vd vv vn css v0 vT β1 n l1 vS cs S3 wr (upd d 2 true) (upd x 2 (.pointer (some ⟨wx.heap.size, 0, none⟩))) (wx.alloc (.cells #[.bool false, .string ⟨#[]⟩, .int .i64 0] 60)) := by
 obtain ⟨β', hm, e1, e2⟩ := h.mm
 refine ⟨⟨β', hm.up ((Below.refl _ _).al _), e1, fun e => ?_⟩, h.on.alloc _, h.f0, fun _ _ => ⟨_, rfl, h.on.size, Blk.new wx _ _⟩⟩
 obtain ⟨dd, r, hr, q1, q3, q4, q5, q6⟩ := e2 e
 exact ⟨dd, r, hr, q1, q3, q4, q5, fun e => tf e h6⟩
theorem ArF.tu (h : ArF B S w bb sb vt vd vv vn css v0 vT β1 n l1 vS cs S3 wr d x wx) (h1 : d 1 = true) : ∃ β2 dd r, MM B S w bb sb vt vd vv vn css v0 vT β2 l1 vS cs S3 wx ∧ AreaR β1 dd n r β2 ∧ x 1 = arT r ∧ (d 3 = true → x 3 = arT r) ∧ (d 4 = true → x 4 = .agg (arA (r.getD zAr))) ∧ (d 5 = true → x 5 = .bool r.isSome) ∧ (d 6 = true → ∃ q, x 2 = .pointer (some ⟨q, 0, none⟩) ∧ wr.heap.size ≤ q ∧ Blk wx q 60 (arA (r.getD zAr))) := by
 obtain ⟨β', hm, _, e2⟩ := h.mm
 obtain ⟨dd, r, hr⟩ := e2 h1
 exact ⟨β', dd, r, hm, hr⟩
theorem ArF.s3 {β2 : Be} {dd : Nat} {r : Option Ar} (h : ArF B S w bb sb vt vd vv vn css v0 vT β1 n l1 vS cs S3 wr d x wx) (h1 : d 1 = true) (hm : MM B S w bb sb vt vd vv vn css v0 vT β2 l1 vS cs S3 wx) (hr : AreaR β1 dd n r β2 ∧ x 1 = arT r ∧ (d 3 = true → x 3 = arT r) ∧ (d 4 = true → x 4 = .agg (arA (r.getD zAr))) ∧ (d 5 = true → x 5 = .bool r.isSome) ∧ (d 6 = true → ∃ q, x 2 = .pointer (some ⟨q, 0, none⟩) ∧ wr.heap.size ≤ q ∧ Blk wx q 60 (arA (r.getD zAr)))) :
  ArF B S w bb sb vt vd vv vn css v0 vT β1 n l1 vS cs S3 wr (upd d 3 true) (upd x 3 (arT r)) wx :=
 ⟨⟨β2, hm, fun e => tf h1 e, fun _ => ⟨dd, r, hr.1, hr.2.1, fun _ => rfl, hr.2.2.2⟩⟩, h.on, h.f0, h.f2⟩
theorem ArF.s4 {β2 : Be} {dd : Nat} {r : Option Ar} (h : ArF B S w bb sb vt vd vv vn css v0 vT β1 n l1 vS cs S3 wr d x wx) (h1 : d 1 = true) (hm : MM B S w bb sb vt vd vv vn css v0 vT β2 l1 vS cs S3 wx) (hr : AreaR β1 dd n r β2 ∧ x 1 = arT r ∧ (d 3 = true → x 3 = arT r) ∧ (d 4 = true → x 4 = .agg (arA (r.getD zAr))) ∧ (d 5 = true → x 5 = .bool r.isSome) ∧ (d 6 = true → ∃ q, x 2 = .pointer (some ⟨q, 0, none⟩) ∧ wr.heap.size ≤ q ∧ Blk wx q 60 (arA (r.getD zAr)))) :
  ArF B S w bb sb vt vd vv vn css v0 vT β1 n l1 vS cs S3 wr (upd d 4 true) (upd x 4 (.agg (arA (r.getD zAr)))) wx :=
 ⟨⟨β2, hm, fun e => tf h1 e, fun _ => ⟨dd, r, hr.1, hr.2.1, hr.2.2.1, fun _ => rfl, hr.2.2.2.2⟩⟩, h.on, h.f0, h.f2⟩
theorem ArF.s5 {β2 : Be} {dd : Nat} {r : Option Ar} (h : ArF B S w bb sb vt vd vv vn css v0 vT β1 n l1 vS cs S3 wr d x wx) (h1 : d 1 = true) (hm : MM B S w bb sb vt vd vv vn css v0 vT β2 l1 vS cs S3 wx) (hr : AreaR β1 dd n r β2 ∧ x 1 = arT r ∧ (d 3 = true → x 3 = arT r) ∧ (d 4 = true → x 4 = .agg (arA (r.getD zAr))) ∧ (d 5 = true → x 5 = .bool r.isSome) ∧ (d 6 = true → ∃ q, x 2 = .pointer (some ⟨q, 0, none⟩) ∧ wr.heap.size ≤ q ∧ Blk wx q 60 (arA (r.getD zAr)))) :
  ArF B S w bb sb vt vd vv vn css v0 vT β1 n l1 vS cs S3 wr (upd d 5 true) (upd x 5 (.bool r.isSome)) wx :=
 ⟨⟨β2, hm, fun e => tf h1 e, fun _ => ⟨dd, r, hr.1, hr.2.1, hr.2.2.1, hr.2.2.2.1, fun _ => rfl, hr.2.2.2.2.2⟩⟩, h.on, h.f0, h.f2⟩
theorem ArF.s6 {β2 : Be} {dd q : Nat} {r : Option Ar} {v : Value} (h : ArF B S w bb sb vt vd vv vn css v0 vT β1 n l1 vS cs S3 wr d x wx) (h0 : MM B S w bb sb vt vd vv vn css v0 vT β1 l1 vS cs S3 wr) (h1 : d 1 = true) (hm : MM B S w bb sb vt vd vv vn css v0 vT β2 l1 vS cs S3 wx) (hr : AreaR β1 dd n r β2 ∧ x 1 = arT r ∧ (d 3 = true → x 3 = arT r) ∧ (d 4 = true → x 4 = .agg (arA (r.getD zAr))) ∧ (d 5 = true → x 5 = .bool r.isSome) ∧ (d 6 = true → ∃ q, x 2 = .pointer (some ⟨q, 0, none⟩) ∧ wr.heap.size ≤ q ∧ Blk wx q 60 (arA (r.getD zAr)))) (hq : x 2 = .pointer (some ⟨q, 0, none⟩)) (hq2 : wr.heap.size ≤ q) (hb : Blk wx q 60 #[.bool false, .string ⟨#[]⟩, .int .i64 0]) :
  ArF B S w bb sb vt vd vv vn css v0 vT β1 n l1 vS cs S3 wr (upd d 6 true) (upd x 6 v) (((wx.setCell ⟨q, 0, none⟩ (.bool (r.getD zAr).vol)).setCell ⟨q, 1, none⟩ (.string (r.getD zAr).on)).setCell ⟨q, 2, none⟩ (.int .i64 (r.getD zAr).start)) := by
 have ho : Only (· = q) wx (((wx.setCell ⟨q, 0, none⟩ (.bool (r.getD zAr).vol)).setCell ⟨q, 1, none⟩ (.string (r.getD zAr).on)).setCell ⟨q, 2, none⟩ (.int .i64 (r.getD zAr).start)) := (((Only.refl (· = q) wx).setCell (p := ⟨q, 0, none⟩) (.inl rfl) _).setCell (p := ⟨q, 1, none⟩) (.inl rfl) _).setCell (p := ⟨q, 2, none⟩) (.inl rfl) _
 have hb3 := ((hb.set_ 0 (.bool (r.getD zAr).vol)).set_ 1 (.string (r.getD zAr).on)).set_ 2 (.int .i64 (r.getD zAr).start)
 have hb4 : Blk (((wx.setCell ⟨q, 0, none⟩ (.bool (r.getD zAr).vol)).setCell ⟨q, 1, none⟩ (.string (r.getD zAr).on)).setCell ⟨q, 2, none⟩ (.int .i64 (r.getD zAr).start)) q 60 (arA (r.getD zAr)) := by
  unfold arA; simpa only [tS] using hb3
 exact ⟨⟨β2, hm.own ho (fun k e => h0.fresh (by rw [e]; exact hq2)), fun e => tf h1 e, fun _ => ⟨dd, r, hr.1, hr.2.1, hr.2.2.1, hr.2.2.2.1, hr.2.2.2.2.1, fun _ => ⟨q, hq, hq2, hb4⟩⟩⟩, h.on.trans (ho.mono fun k _ e => .inr (by rw [e]; exact hq2)), h.f0, fun _ e => by cases e⟩
theorem ArF.bu (h : ArF B S w bb sb vt vd vv vn css v0 vT β1 n l1 vS cs S3 wr d x wx) (h1 : d 1 = false) : MM B S w bb sb vt vd vv vn css v0 vT β1 l1 vS cs S3 wx := by
 obtain ⟨β', hm, e1, e2⟩ := h.mm
 rw [e1 h1] at hm
 exact hm
end
/-- an area is appended: 0 the areas, 1 the row of the new one, 2 the new areas -/
structure AG (M : World → Prop) (W xb q : Nat) (XC : Array Value) (vA : Value) (al : List Ar) (a2 : Ar) (d : Nat → Bool) (x : Nat → Value) (wx : World) : Prop where
 mm : M wx
 xblk : Blk wx xb 58 XC
 qblk : Blk wx q 60 (arA a2)
 low : W ≤ wx.heap.size
 ra : d 2 = false → wx.ownsRow W 60 3 vA al.length (aC al)
 f0 : d 0 = true → x 0 = vA
 f1 : d 1 = true → d 2 = false → ∃ g, x 1 = .slice (some ⟨g, 0, none⟩) 1 1 ∧ Blk wx g 60 (arA a2)
 f2 : d 2 = true → wx.ownsRow W 60 3 (x 2) (al.length + 1) (aC al ++ (arA a2).toList)
section
variable {M : World → Prop} {W xb q : Nat} {XC : Array Value} {vA v8 : Value} {al : List Ar} {a2 : Ar} {d : Nat → Bool} {x : Nat → Value} {wx w' : World}
theorem AG.s0 (h : AG M W xb q XC vA al a2 d x wx) : AG M W xb q XC vA al a2 (upd d 0 true) (upd x 0 vA) wx := ⟨h.mm, h.xblk, h.qblk, h.low, h.ra, fun _ => rfl, h.f1, h.f2⟩
theorem AG.s1 (hM : ∀ w w', M w → Bel w w' → M w') (h : AG M W xb q XC vA al a2 d x wx) (h2 : d 2 = false) : AG M W xb q XC vA al a2 (upd d 1 true) (upd x 1 (.slice (some ⟨wx.heap.size, 0, none⟩) 1 1)) (wx.alloc (.cells (arA a2) 60)) :=
 ⟨hM _ _ h.mm ((Below.refl _ _).al _), h.xblk.alloc _, h.qblk.alloc _, Nat.le_trans h.low (by simp), fun _ => own_al (h.ra h2) _, h.f0, fun _ _ => ⟨_, rfl, Blk.new wx _ _⟩, fun e => tf e h2⟩
theorem AG.s2 (hM : ∀ w w', M w → Only (fun k => vA.ownBlock = some k) w w' → M w') (hx : vA.ownBlock ≠ some xb) (hq : vA.ownBlock ≠ some q) (h : AG M W xb q XC vA al a2 d x wx) (ho : w'.ownsRow W 60 3 v8 (al.length + 1) (aC al ++ (arA a2).toList)) (hg : wx.grownBy w' vA.ownBlock) : AG M W xb q XC vA al a2 (upd d 2 true) (upd x 2 v8) w' := by
 have hon : Only (fun k => vA.ownBlock = some k) wx w' := (Only.refl (fun k => vA.ownBlock = some k) _).grown hg (fun k e => .inl e)
 exact ⟨hM _ _ h.mm hon, h.xblk.only hon hx, h.qblk.only hon hq, Nat.le_trans h.low hon.size, (fun e => by cases e), h.f0, (fun _ e => by cases e), fun _ => ho⟩
end
end Go.Proofs.YtdkcfgahdcpkkaaDoor
