/- The builder: what was removed is added; the group is read out. -/
import Derived.Test.YtdkcfgahdcpkkaaDoorCMkGrpP
import Derived.Deep.MidRow
set_option linter.all false
namespace Go.Proofs.YtdkcfgahdcpkkaaDoor
open Go.RowKit
set_option maxRecDepth 100000
theorem kf_ {B : Nat} {S : Nat → Prop} {w : World} {bb sb : Nat} {β : Be} {vt vd vv vn : Value} {css : List (List Value)} (h : BU B S w bb sb β vt vd vv vn css) (hnx : 0 ≤ β.g.next ∧ β.g.next ≤ 800000) (hvl : β.g.vols.length ≤ 800) (name : ByteArray) (hname : name.size ≤ 100) {kind : Int} (hk : kind = 3 ∨ kind = 4 ∨ kind = 5 ∨ kind = 7) :
  Calls Tryd.prog 31 #[.pointer (some ⟨bb, 0, none⟩), .string name, .int .i64 kind] w (xf_ B S w bb sb β vt vd vv vn name kind) := by
 rcases hk with rfl | rfl | rfl | rfl
 ·exact jB_ h hnx hvl name hname
 ·exact jA_ h hnx hvl name hname
 ·exact jz_ h hnx hvl name hname
 ·exact jy_ h hnx hvl name hname
theorem yE_ {α : Type} (A l : List α) (k i : Nat) (u : α) (h : A.length = k) : (A ++ l).set (k + i) u = A ++ l.set i u := by
 rw [List.set_append_right _ _ (by omega), h, Nat.add_sub_cancel_left]
section
variable {B : Nat} {S : Nat → Prop} {w : World} {bb sb : Nat} {β : Be} {vt vd vn : Value} {css : List (List Value)} {gv L c : Nat}
theorem BU.lastc (h : BU B S w bb sb β vt vd (.slice (some ⟨gv, 0, none⟩) (L + 1) c) vn css) (hL : β.g.vols.length = L + 1) {c0 : List (List Value)} {cl : List Value} (hc : css = c0 ++ [cl]) {i : Nat} (hi : i < 6) : w.cell? ⟨gv, L * 6 + i, none⟩ = cl[i]? := by
 have hl := h.vs.lens voL
 have hlen : c0.length = L := by have h1 := h.vs.len; rw [hc, hL] at h1; simp at h1; exact h1
 have hown := h.vs.own
 rw [hL] at hown
 rw [World.ownsRow.cellAt hown (L * 6 + i) (by omega), y0_ css L i cl hl (by rw [hc, ← hlen]; simp) hi]
theorem BU.setLast {x : Vo} {u0 u1 u2 u3 u4 u5 : Value} (h : BU B S w bb sb β vt vd (.slice (some ⟨gv, 0, none⟩) (L + 1) c) vn css) (hL : β.g.vols.length = L + 1) (hx : voW w S [u0, u1, u2, u3, u4, u5] x) :
  BU B S ((((((w.setCell ⟨gv, L * 6, none⟩ u0).setCell ⟨gv, L * 6 + 1, none⟩ u1).setCell ⟨gv, L * 6 + 2, none⟩ u2).setCell ⟨gv, L * 6 + 3, none⟩ u3).setCell ⟨gv, L * 6 + 4, none⟩ u4).setCell ⟨gv, L * 6 + 5, none⟩ u5) bb sb (β.setLast x) vt vd (.slice (some ⟨gv, 0, none⟩) (L + 1) c) vn (css.dropLast ++ [[u0, u1, u2, u3, u4, u5]]) ∧
   Only (Mt bb sb (.slice (some ⟨gv, 0, none⟩) (L + 1) c) vn) w ((((((w.setCell ⟨gv, L * 6, none⟩ u0).setCell ⟨gv, L * 6 + 1, none⟩ u1).setCell ⟨gv, L * 6 + 2, none⟩ u2).setCell ⟨gv, L * 6 + 3, none⟩ u3).setCell ⟨gv, L * 6 + 4, none⟩ u4).setCell ⟨gv, L * 6 + 5, none⟩ u5) := by
 obtain ⟨w9, hw9⟩ : ∃ w9, w9 = ((((((w.setCell ⟨gv, L * 6, none⟩ u0).setCell ⟨gv, L * 6 + 1, none⟩ u1).setCell ⟨gv, L * 6 + 2, none⟩ u2).setCell ⟨gv, L * 6 + 3, none⟩ u3).setCell ⟨gv, L * 6 + 4, none⟩ u4).setCell ⟨gv, L * 6 + 5, none⟩ u5) := ⟨_, rfl⟩
 have ho : Only (· = gv) w w9 := hw9 ▸ ((((((Only.refl (· = gv) w).setCell (p := ⟨gv, L * 6, none⟩) (.inl rfl) u0).setCell (p := ⟨gv, L * 6 + 1, none⟩) (.inl rfl) u1).setCell (p := ⟨gv, L * 6 + 2, none⟩) (.inl rfl) u2).setCell (p := ⟨gv, L * 6 + 3, none⟩) (.inl rfl) u3).setCell (p := ⟨gv, L * 6 + 4, none⟩) (.inl rfl) u4).setCell (p := ⟨gv, L * 6 + 5, none⟩) (.inl rfl) u5
 have hgv : (Value.slice (some ⟨gv, 0, none⟩) (L + 1) c).ownBlock = some gv := rfl
 have hl := h.vs.lens voL
 have hlen : css.length = L + 1 := h.vs.len.trans hL
 have hne : css ≠ [] := fun e => by rw [e] at hlen; simp at hlen
 have hcs : css = css.dropLast ++ [css.getLast hne] := (List.dropLast_concat_getLast hne).symm
 have hdl : css.dropLast.length = L := by simp [hlen]
 have h6 := hl _ (List.getLast_mem hne)
 obtain ⟨a0, a1, a2, a3, a4, a5, ha⟩ : ∃ a0 a1 a2 a3 a4 a5, css.getLast hne = [a0, a1, a2, a3, a4, a5] := by
  generalize css.getLast hne = l at h6;match l, h6 with
  | [a0, a1, a2, a3, a4, a5], _ => exact ⟨a0, a1, a2, a3, a4, a5, rfl⟩
 have hA : css.dropLast.flatten.length = L * 6 := by rw [qa_ (size := 6) (fun c hc => hl c ((List.dropLast_sublist css).subset hc)), hdl]
 have hfl : css.flatten = css.dropLast.flatten ++ [a0, a1, a2, a3, a4, a5] := by
  conv => lhs; rw [hcs]
  rw [List.flatten_append, ha]; simp
 have hown := h.vs.own
 rw [hL] at hown
 have hst := (World.ownsRow.stored (World.ownsRow.stored (World.ownsRow.stored (World.ownsRow.stored (World.ownsRow.stored (World.ownsRow.stored hown (L * 6) u0).1 (L * 6 + 1) u1).1 (L * 6 + 2) u2).1 (L * 6 + 3) u3).1 (L * 6 + 4) u4).1 (L * 6 + 5) u5).1
 have hset : ((((((css.flatten.set (L * 6) u0).set (L * 6 + 1) u1).set (L * 6 + 2) u2).set (L * 6 + 3) u3).set (L * 6 + 4) u4).set (L * 6 + 5) u5) = css.dropLast.flatten ++ [u0, u1, u2, u3, u4, u5] := by
  rw [hfl];have e0 := yE_ css.dropLast.flatten [a0, a1, a2, a3, a4, a5] (L * 6) 0 u0 hA;rw [Nat.add_zero] at e0;rw [e0, yE_ _ _ _ 1 u1 hA, yE_ _ _ _ 2 u2 hA, yE_ _ _ _ 3 u3 hA, yE_ _ _ _ 4 u4 hA, yE_ _ _ _ 5 u5 hA];rfl
 rw [hset, ← hw9] at hst
 rw [← hw9]
 have hk : Kept S w w9 := Kept.of_only ho (fun k hk e => h.sd k hk (.inr (.inr (.inl (by have e' : k = gv := e; rw [e']; rfl)))))
 have hvl : ((β.setLast x).g.vols).length = L + 1 := by show (β.g.vols.dropLast ++ [x]).length = _; simp [hL]
 refine ⟨⟨h.blk.only ho (fun e => h.d2.1 (by have e' : bb = gv := e; rw [e']; rfl)), h.src.only ho (fun e => h.d2.2 (by have e' : sb = gv := e; rw [e']; rfl)) (fun k e => by have e' : k = gv := e; have := (h.vs.lt hgv).1; omega), TL.keep h.tl hk (fun _ h => h), DL.keep h.dl hk (fun _ h => h), ⟨by rw [hvl]; simp [hdl], ?_, fun k d y hd hy => ?_⟩, zb_ h.nx ho (fun k hk e => h.d4 k (by have e' : k = gv := e; rw [e']; rfl) hk), h.sd, h.low, h.d1, h.d2, h.d3, h.d4, h.hist, ⟨h.ok.nd, h.ok.nn, h.ok.ext, h.ok.nz, h.ok.ex⟩⟩, ho.mono fun k _ e => .inr (.inr (.inl (by have e' : k = gv := e; rw [e']; rfl)))⟩
 ·rw [hvl, List.flatten_append]; simpa using hst
 ·have hy' : (β.g.vols.dropLast ++ [x])[k]? = some y := hy
  rcases Nat.lt_or_ge k L with hlt | hge
  ·rw [List.getElem?_append_left (by simp [hL]; omega)] at hy'
   rw [List.getElem?_append_left (by omega)] at hd;have hy2 : β.g.vols[k]? = some y := by rw [List.getElem?_dropLast, if_pos (by omega)] at hy'; exact hy'
   have hd2 : css[k]? = some d := by rw [List.getElem?_dropLast, if_pos (by omega)] at hd; exact hd
   exact voL.keep (h.vs.val k d y hd2 hy2) hk (fun _ h => h)
  ·rw [List.getElem?_append_right (by simp [hL]; omega)] at hy'
   rw [List.getElem?_append_right (by omega)] at hd;have h1 := List.mem_of_getElem? hy';have h2 := List.mem_of_getElem? hd;simp at h1 h2;subst h1 h2;exact voL.keep hx hk (fun _ h => h)
end
theorem XO_ {w : World} {g : Nat} {x : Sg} {u0 u1 : Value} (h : SgC w ⟨g, 0, none⟩ x u0 u1) : ∀ j u, ([(sgA x u0 u1).toList] : List (List Value)).flatten[j]? = some u → w.cell? ⟨g, j, none⟩ = some u := by
 intro j u hj
 have hlt : j < 11 := by have := (List.getElem?_eq_some_iff.1 hj).1; simpa [sgA] using this
 obtain ⟨f0, f1, f2, f3, f4, f5, f6, f7, f8, f9, f10⟩ := h
 rcases (show j = 0 ∨ j = 1 ∨ j = 2 ∨ j = 3 ∨ j = 4 ∨ j = 5 ∨ j = 6 ∨ j = 7 ∨ j = 8 ∨ j = 9 ∨ j = 10 by omega) with rfl | rfl | rfl | rfl | rfl | rfl | rfl | rfl | rfl | rfl | rfl <;> simp [sgA] at hj <;> subst hj <;> assumption
theorem X3_ {B : Nat} {S : Nat → Prop} {w : World} {bb sb : Nat} {β : Be} {vt vd vv vn : Value} {css c0 : List (List Value)} {nm : ByteArray} {id n : Int} {hid : Bool} {a : Ar} {g : Nat} {vs0 : List Vo} (h : BU B S w bb sb β vt vd vv vn css) (hcs : css = c0 ++ [[.string nm, .int .u64 id, .bool hid, .bool false, .slice none 0 0, .slice (some ⟨g, 0, none⟩) 1 1]])
  (hl : β.g.vols = vs0 ++ [zP_ nm id hid n a]) (hn : 1 ≤ n ∧ n ≤ 1000) :
  Calls Tryd.prog 29 #[.pointer (some ⟨bb, 0, none⟩), .agg #[.string nm, .int .u64 id, .bool hid, .bool false, .slice none 0 0, .slice (some ⟨g, 0, none⟩) 1 1]] w (fun e w' => ∃ k β' l' vS' S', k ≤ 2 ∧ MoreR k β [linSeg n a] β' l' ∧ e = .returned (.agg #[.string nm, .int .u64 id, .bool hid, .bool false, .slice none 0 0, vS']) ∧ SL w' S' vS' l' ∧ BU B S' w' bb sb β' vt vd vv vn css ∧ Nx S (Mt bb sb vv vn) w S' (Mt bb sb vv vn) w') := by
 have hlen : c0.length = vs0.length := by have h1 := h.vs.len; rw [hcs, hl] at h1; simpa using h1
 obtain ⟨v0, v1, e, _, hsl⟩ := h.vs.val vs0.length [.string nm, .int .u64 id, .bool hid, .bool false, .slice none 0 0, .slice (some ⟨g, 0, none⟩) 1 1] (zP_ nm id hid n a) (by rw [hcs, ← hlen]; simp) (by rw [hl]; simp)
 simp [voA, zP_] at e
 obtain ⟨rfl, rfl⟩ := e
 obtain ⟨ad, x, ha, hx, hS, hlt, u0, u1, hc, har, hst⟩ := LR.at_ (k := 0) hsl (by show 0 < [linSeg n a].length; simp)
 injection ha with ha
 subst ha
 have hx' : linSeg n a = x := by have h1 : ([linSeg n a] : List Sg)[0]? = some x := hx; simpa using h1
 subst hx'
 rw [Nat.zero_mul, add_zero] at hc
 refine (X4_ (v0 := zP_ nm id hid n a) (vT := .slice none 0 0) (g := g) (cs := [(sgA (linSeg n a) u0 u1).toList]) h LR.nil ⟨hlt, hS⟩ rfl (XO_ hc) (fun k c x hk hx => ?_) (by show [linSeg n a].length ≤ 10; simp) (fun s hs => ?_)).mono ?_
 ·have hk0 : k = 0 := by have := (List.getElem?_eq_some_iff.1 hk).1; simpa using this
  subst hk0;have hx2 : ([linSeg n a] : List Sg)[0]? = some x := hx;simp at hk hx2;subst hk hx2;exact ⟨u0, u1, rfl, har, hst⟩
 ·have hs' : s ∈ [linSeg n a] := hs
  simp at hs';subst hs';exact hn
 ·rintro e w' ⟨k, β', l', vS', S', h1, h2, h3, h4, h5, h6, h7⟩
  exact ⟨k, β', l', vS', S', h1, h2, h3, h5, h6, h7⟩
theorem qN_ {P : Program} {ops : Array Oper} {op : Oper} {a : Act} {w : World} {K : Act → World → Prop} {Q : Exit → Act → World → Prop} {E : Prop} (hgd : op.guard = none) (ty : TypeId) (x y : Operand) (ho : op.op = .store ty x y)
  (b o : Nat) (cells : Array Value) (hx : a.eval x = .pointer (some ⟨b, o, none⟩)) (hy : a.eval y = .agg cells)
  (ht : w.there b o cells.size) (hi : (P.info? ty).map (·.size) = some cells.size) (h1 : cells.all (·.oneCell') = true)
  (h : K (a.put op.dst undef) (w.setCells b o cells.toList)) : if Region.wanted op (yielded ops a.tmps) = true then Oper.wp P op a w K Q else E := by
 have hw : Region.wanted op (yielded ops a.tmps) = true := by simp [Region.wanted, hgd]
 rw [if_pos hw]
 exact wp_store_mid ty x y ho b o cells hx hy ht hi h1 h
theorem Yr_ {w : World} {base n size c g : Nat} {T : TypeId} {xs : List Value} (h : w.ownsRow base T size (.slice (some ⟨g, 0, none⟩) n c) n xs) {o m : Nat} (hm : o + m ≤ n * size) : w.there g o m := fun j hj => by
 refine ⟨?_, World.ownsRow.frozenAt h (o + j)⟩
 rw [World.ownsRow.cellAt h (o + j) (by omega), List.getElem?_eq_getElem (by rw [h.1]; omega)]
 rfl
theorem Ja_ {w : World} {base size n : Nat} {T : TypeId} {v : Value} {xs : List Value} (h : w.ownsRow base T size v n xs) : n ≤ maxLen := by
 rcases h.2 with ⟨_, h3⟩ | ⟨g, cap, cur, _, _, _, h1, h2, _⟩
 ·omega
 ·omega
theorem infoR : (Tryd.prog.info? 70).map (fun i => (i.zero, i.size, i.bytes)) = some (some (.agg #[.string ⟨#[]⟩, .int .u64 0, .int .i64 0]), 3, 32) := by kernel_rfl
def rC (l : List Rm) : List Value := (l.map fun x => (rmA x).toList).flatten
theorem Q5_ (l : List Rm) (x : Rm) : rC (l ++ [x]) = rC l ++ (rmA x).toList := by simp [rC]
structure HU (B W2 : Nat) (S : Nat → Prop) (sb bb : Nat) (γ : Gr) (vt vd vv vn vh : Value) (hs : List Rm) (wx : World) : Prop where
 blk : Blk wx bb 75 #[.pointer (some ⟨sb, 0, none⟩), .string γ.name, .int .u64 γ.id, .int .i64 γ.seq, .int .i64 γ.extent, .int .i64 γ.next, vt, vd, vv, vh, vn]
 src : SrcOk B wx sb
 tl : TL wx S vt γ.tags
 dl : DL wx S vd γ.disks
 vl : VL wx S vv γ.vols
 hr : wx.ownsRow W2 70 3 vh hs.length (rC hs)
 sS : ∀ k, S k → k < W2 ∧ k ≠ bb
 bl : bb < W2 ∧ sb < W2 ∧ sb ≠ bb ∧ B ≤ bb
 low : W2 ≤ wx.heap.size
section
variable {B W2 : Nat} {S : Nat → Prop} {sb bb : Nat} {β : Be} {γ : Gr} {vt vd vv vn vh vh' : Value} {hs : List Rm} {css : List (List Value)} {wx w' w8 : World}
theorem BU.hu (h : BU B S wx bb sb β vt vd vv vn css) : HU B wx.heap.size (fun k => (S k ∨ vv.ownBlock = some k) ∧ k < wx.heap.size) sb bb β.g vt vd vv vn (.slice none 0 0) [] wx := by
 have hk : ∀ k, S k → k < wx.heap.size → (S k ∨ vv.ownBlock = some k) ∧ k < wx.heap.size := fun k h1 h2 => ⟨.inl h1, h2⟩
 refine ⟨h.blk, h.src, TL.keep h.tl.low1 Kept.same (fun k h => hk k h.1 h.2), DL.keep (h.dl.low (fun _ _ _ _ h => h.low)) Kept.same (fun k h => hk k h.1 h.2), ?_, World.ownsRow_nil _ _ _ _, fun k hk => ⟨hk.2, fun e => ?_⟩, ⟨h.blk.lt, h.src.lt.2.1, fun e => h.d1 e.symm, h.low⟩, Nat.le_refl _⟩
 ·exact (h.vs.imp voL (S' := fun k => S k ∧ k < wx.heap.size) (fun _ h1 h2 => ⟨h1, h2⟩)).lr voL (by decide) (fun k h => hk k h.1 h.2) (fun k hk => ⟨.inr hk, (h.vs.lt hk).2⟩)
 ·subst e
  exact hk.1.elim (fun h1 => h.sd _ h1 (.inl rfl)) (fun h1 => h.d2.1 h1)
theorem HU.up (h : HU B W2 S sb bb γ vt vd vv vn vh hs wx) (hb : Bel wx w') : HU B W2 S sb bb γ vt vd vv vn vh hs w' :=
 ⟨h.blk.below hb h.blk.lt, h.src.below hb, TL.up h.tl hb, DL.up h.dl hb, VL.up h.vl hb, zb_ h.hr (Only.of_below (fun _ => False) hb) (fun _ _ h => h), h.sS, h.bl, Nat.le_trans h.low hb.size⟩
theorem HU.push {x : Rm} (h : HU B W2 S sb bb γ vt vd vv vn vh hs wx) (ho : w8.ownsRow W2 70 3 vh' (hs.length + 1) (rC hs ++ (rmA x).toList)) (hg : wx.grownBy w8 vh.ownBlock) :
  HU B W2 S sb bb γ vt vd vv vn vh' (hs ++ [x]) (w8.setCell ⟨bb, 9, none⟩ vh') ∧ Only (fun k => k = bb ∨ W2 ≤ k) wx (w8.setCell ⟨bb, 9, none⟩ vh') := by
 have hon : Only (fun k => W2 ≤ k) wx w8 := ((Only.refl (fun k => vh.ownBlock = some k) wx).grown hg (fun k e => .inl e)).mono fun k _ e => (World.ownsRow.lt h.hr k e).1
 have ho2 : Only (· = bb) w8 (w8.setCell ⟨bb, 9, none⟩ vh') := (Only.refl (· = bb) w8).setCell (p := ⟨bb, 9, none⟩) (.inl rfl) vh'
 have hbl := h.bl
 have hk : Kept S wx w8 := Kept.of_only hon fun k hk e => by have h1 := (h.sS k hk).1; have e' : W2 ≤ k := e; omega
 have hk2 : Kept S w8 (w8.setCell ⟨bb, 9, none⟩ vh') := Kept.of_only ho2 fun k hk e => (h.sS k hk).2 e
 refine ⟨⟨(h.blk.only hon (fun e => by have e' : W2 ≤ bb := e; omega)).set_ 9 vh', (h.src.only hon (fun e => by have e' : W2 ≤ sb := e; omega) (fun k e => by have e' : W2 ≤ k := e; omega)).only ho2 (fun e => hbl.2.2.1 e) (fun k e => by have e' : k = bb := e; omega), TL.keep (TL.keep h.tl hk (fun _ h => h)) hk2 (fun _ h => h), DL.keep (DL.keep h.dl hk (fun _ h => h)) hk2 (fun _ h => h), VL.keep (VL.keep h.vl hk (fun _ h => h)) hk2 (fun _ h => h), ?_, h.sS, hbl, Nat.le_trans h.low (Nat.le_trans hon.size ho2.size)⟩, (hon.mono fun k _ e => .inr e).trans_ ho2 (fun k _ e => .inl e)⟩
 rw [List.length_append, Q5_]
 exact zb_ ho ho2 (fun k hk e => by have e' : k = bb := e; have := (World.ownsRow.lt ho k hk).1; omega)
end
end Go.Proofs.YtdkcfgahdcpkkaaDoor
