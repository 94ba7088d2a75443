/- Spoil: a volume that is changed, with what stands around it. -/
import Derived.Test.YtdkcfgahdcpkkaaDoorBSp0
set_option linter.all false
namespace Go.Proofs.YtdkcfgahdcpkkaaDoor
open Go.RowKit
set_option maxRecDepth 100000
section
variable {B Wh W : Nat} {S : Nat → Prop} {sb gb : Nat} {γ : Gr} {v0 v1 v2 v3 v8 : Value} {cd cv : List (List Value)} {wx w' w8 : World}
theorem BdG.setVo {k : Nat} {v' : Vo} (h : BdG γ) (hv : BdV v') : BdG { γ with vols := γ.vols.set k v' } :=
 ⟨h.name, h.tags, h.tagz, h.disks, by show (γ.vols.set k v').length ≤ _; rw [List.length_set]; exact h.vols, h.hist, h.histz, h.disk, fun d hd => (List.mem_or_eq_of_mem_set hd).elim (h.vol d) (fun e => e ▸ hv)⟩
theorem SP.setV {gv n c k : Nat} {u0 u1 u2 u3 u4 u5 : Value} {v' : Vo} (h : SP B Wh W S sb gb γ v0 v1 (.slice (some ⟨gv, 0, none⟩) n c) v3 cd cv wx) (hn : n = γ.vols.length) (hk : k < n) (hv : voW wx S [u0, u1, u2, u3, u4, u5] v') :
  SP B Wh W S sb gb { γ with vols := γ.vols.set k v' } v0 v1 (.slice (some ⟨gv, 0, none⟩) n c) v3 cd (cv.set k [u0, u1, u2, u3, u4, u5]) ((((((wx.setCell ⟨gv, k * 6, none⟩ u0).setCell ⟨gv, k * 6 + 1, none⟩ u1).setCell ⟨gv, k * 6 + 2, none⟩ u2).setCell ⟨gv, k * 6 + 3, none⟩ u3).setCell ⟨gv, k * 6 + 4, none⟩ u4).setCell ⟨gv, k * 6 + 5, none⟩ u5) ∧
   Only (· = gv) wx ((((((wx.setCell ⟨gv, k * 6, none⟩ u0).setCell ⟨gv, k * 6 + 1, none⟩ u1).setCell ⟨gv, k * 6 + 2, none⟩ u2).setCell ⟨gv, k * 6 + 3, none⟩ u3).setCell ⟨gv, k * 6 + 4, none⟩ u4).setCell ⟨gv, k * 6 + 5, none⟩ u5) := by
 subst hn
 obtain ⟨w9, hw9⟩ : ∃ w9, w9 = ((((((wx.setCell ⟨gv, k * 6, none⟩ u0).setCell ⟨gv, k * 6 + 1, none⟩ u1).setCell ⟨gv, k * 6 + 2, none⟩ u2).setCell ⟨gv, k * 6 + 3, none⟩ u3).setCell ⟨gv, k * 6 + 4, none⟩ u4).setCell ⟨gv, k * 6 + 5, none⟩ u5) := ⟨_, rfl⟩
 have ho : Only (· = gv) wx w9 := hw9 ▸ ((((((Only.refl (· = gv) wx).setCell (p := ⟨gv, k * 6, none⟩) (.inl rfl) u0).setCell (p := ⟨gv, k * 6 + 1, none⟩) (.inl rfl) u1).setCell (p := ⟨gv, k * 6 + 2, none⟩) (.inl rfl) u2).setCell (p := ⟨gv, k * 6 + 3, none⟩) (.inl rfl) u3).setCell (p := ⟨gv, k * 6 + 4, none⟩) (.inl rfl) u4).setCell (p := ⟨gv, k * 6 + 5, none⟩) (.inl rfl) u5
 have hgv : (Value.slice (some ⟨gv, 0, none⟩) γ.vols.length c).ownBlock = some gv := rfl
 have hne := h.ne2 hgv
 have hl := h.vs.lens voL
 obtain ⟨ci, hci⟩ : ∃ ci, cv[k]? = some ci := ⟨_, List.getElem?_eq_getElem (by rw [h.vs.len]; exact hk)⟩
 have h6 := hl ci (List.mem_of_getElem? hci)
 obtain ⟨a0, a1, a2, a3, a4, a5, rfl⟩ : ∃ a0 a1 a2 a3 a4 a5, ci = [a0, a1, a2, a3, a4, a5] := by
  match ci, h6 with
  | [a0, a1, a2, a3, a4, a5], _ => exact ⟨a0, a1, a2, a3, a4, a5, rfl⟩
 have hcl := (List.getElem?_eq_some_iff.1 hci).1
 have hset : ∀ (c' : List Value) (f : Nat) (u : Value), c'.length = 6 → f < 6 → (cv.set k c').flatten.set (k * 6 + f) u = (cv.set k (c'.set f u)).flatten := fun c' f u h1 h2 => by
  rw [yt_ (cv.set k c') k f c' u (fun d hd => (List.mem_or_eq_of_mem_set hd).elim (hl d) (fun e => e ▸ h1)) (by rw [List.getElem?_set_self hcl]) h2, List.set_set]
 have hst := (World.ownsRow.stored (World.ownsRow.stored (World.ownsRow.stored (World.ownsRow.stored (World.ownsRow.stored (World.ownsRow.stored h.vs.own (k * 6) u0).1 (k * 6 + 1) u1).1 (k * 6 + 2) u2).1 (k * 6 + 3) u3).1 (k * 6 + 4) u4).1 (k * 6 + 5) u5).1
 have e0 := yt_ cv k 0 _ u0 hl hci (by decide)
 rw [Nat.add_zero] at e0
 rw [e0, hset _ 1 u1 rfl (by decide), hset _ 2 u2 rfl (by decide), hset _ 3 u3 rfl (by decide), hset _ 4 u4 rfl (by decide), hset _ 5 u5 rfl (by decide), ← hw9] at hst
 rw [← hw9]
 have hkp : Kept S wx w9 := Kept.of_only ho fun q hq e => by have e' : q = gv := e; subst e'; exact hne.2.2.2.2 hq
 refine ⟨⟨h.blk.only ho (fun e => hne.1 (by have e' : gb = gv := e; exact e'.symm)), h.src.only ho (fun e => hne.2.1 (by have e' : sb = gv := e; exact e'.symm)) (fun q e => by have e' : q = gv := e; have h1 := (h.vs.lt hgv).1; have := h.wb; omega), TL.keep h.tl hkp (fun _ h => h), h.ds.only dkL ho (fun q hq e => by have e' : q = gv := e; subst e'; exact hne.2.2.1 hq) (fun q hq e => by have e' : q = gv := e; subst e'; exact hne.2.2.2.2 hq) (fun _ h => h), h.vs.setC voL ho (fun q hq e => by subst e; exact hne.2.2.2.2 hq) hst hv, zb_ h.hr ho (fun q hq e => by have e' : q = gv := e; subst e'; exact hne.2.2.2.1 hq), fun q hq => ?_, h.wb, Nat.le_trans h.low ho.size⟩, ho⟩
 have h1 := h.sS q hq
 exact ⟨h1.1, h1.2.1, h1.2.2.1, h1.2.2.2.1, h1.2.2.2.2.1, Nat.lt_of_lt_of_le h1.2.2.2.2.2 ho.size⟩
theorem SP.vcell {gv n c i f : Nat} {ci : List Value} (h : SP B Wh W S sb gb γ v0 v1 (.slice (some ⟨gv, 0, none⟩) n c) v3 cd cv wx) (hn : n = γ.vols.length) (hc : cv[i]? = some ci) (hf : f < 6) : wx.cell? ⟨gv, i * 6 + f, none⟩ = ci[f]? ∧ wx.frozen? ⟨gv, i * 6 + f, none⟩ = false := by
 subst hn
 have hl := h.vs.lens voL
 have hi : i < γ.vols.length := by rw [← h.vs.len]; exact (List.getElem?_eq_some_iff.1 hc).1
 have hlt : i * 6 + f < γ.vols.length * 6 := by omega
 exact ⟨by rw [World.ownsRow.cellAt h.vs.own (i * 6 + f) hlt, zT_ cv i f ci hl hc hf], World.ownsRow.frozenAt h.vs.own _⟩
theorem SP.pushV {x : Vo} {new : List Value} (h : SP B Wh W S sb gb γ v0 v1 v2 v3 cd cv wx) (hn : voW wx S new x) (ho : w8.ownsRow W 53 6 v8 (γ.vols.length + 1) (cv.flatten ++ new)) (hg : wx.grownBy w8 v2.ownBlock) (hd : v8.ownBlock = v2.ownBlock ∨ v8.ownBlock = some wx.heap.size) :
  SP B Wh W S sb gb { γ with vols := γ.vols ++ [x] } v0 v1 v8 v3 cd (cv ++ [new]) (w8.setCell ⟨gb, 7, none⟩ v8) ∧ Only (fun k => k = gb ∨ v2.ownBlock = some k) wx (w8.setCell ⟨gb, 7, none⟩ v8) := by
 have hon : Only (fun k => v2.ownBlock = some k) wx w8 := (Only.refl (fun k => v2.ownBlock = some k) wx).grown hg (fun k e => .inl e)
 have ho2 : Only (· = gb) w8 (w8.setCell ⟨gb, 7, none⟩ v8) := (Only.refl (· = gb) w8).setCell (p := ⟨gb, 7, none⟩) (.inl rfl) v8
 have hwb := h.wb
 have hk1 : Kept S wx w8 := Kept.of_only hon fun k hk e => (h.ne2 e).2.2.2.2 hk
 have hk2 : Kept S w8 (w8.setCell ⟨gb, 7, none⟩ v8) := Kept.of_only ho2 fun k hk e => (h.sS k hk).2.1 e
 have hb8 := h.blk.only hon (fun e => (h.ne2 e).1 rfl)
 have hg3 : ∀ k, v8.ownBlock = some k → k ≠ gb := fun k hk e => zv_ ho (e ▸ hk) hb8 (by decide)
 have hall : Only (fun k => k = gb ∨ v2.ownBlock = some k) wx (w8.setCell ⟨gb, 7, none⟩ v8) := (hon.mono fun k _ e => .inr e).trans_ ho2 (fun k _ e => .inl e)
 have hvs := h.vs.push voL ho hg (fun k hk hS => (h.ne2 hk).2.2.2.2 hS) hn (S' := S) (fun k h _ => h)
 refine ⟨⟨hb8.set_ 7 v8, (h.src.only hon (fun e => (h.ne2 e).2.1 rfl) (fun k e => by have := (h.vs.lt e).1; omega)).only ho2 (fun e => by have e' : sb = gb := e; omega) (fun k e => by have e' : k = gb := e; omega), TL.keep (TL.keep h.tl hk1 (fun _ h => h)) hk2 (fun _ h => h),
  (h.ds.only dkL hon (fun k hk e => (h.ne2 e).2.2.1 hk) (fun k hk e => (h.ne2 e).2.2.2.2 hk) (fun _ h => h)).only dkL ho2 (fun k hk e => (h.ne1 hk).1 e) (fun k hk e => (h.sS k hk).2.1 e) (fun _ h => h), hvs.only voL ho2 (fun k hk e => hg3 k hk e) (fun k hk e => (h.sS k hk).2.1 e) (fun _ h => h), zb_ (zb_ h.hr hon (fun k hk e => (h.ne2 e).2.2.2.1 hk)) ho2 (fun k hk e => (h.ne3 hk).1 e), fun k hk => ?_, h.wb, Nat.le_trans h.low hall.size⟩, hall⟩
 have h1 := h.sS k hk
 refine ⟨h1.1, h1.2.1, h1.2.2.1, fun e => ?_, h1.2.2.2.2.1, Nat.lt_of_lt_of_le h1.2.2.2.2.2 hall.size⟩
 rcases hd with hd | hd
 ·exact h1.2.2.2.1 (hd ▸ e)
 ·rw [e] at hd; injection hd with hd; have := h1.2.2.2.2.2; omega
end
def rbc : Array Value := #[.string ⟨#[]⟩, .int .u64 0, .int .i64 0, .int .i64 0, .int .i64 0, .slice none 0 0, .slice none 0 0, .slice none 0 0, .slice none 0 0]
structure SV (B Wh W : Nat) (S : Nat → Prop) (sb gb rb vb : Nat) (γ : Gr) (v0 v1 v2 v3 : Value) (cd cv : List (List Value)) (v : Vo) (vt vs : Value) (i : Nat) (cs : List (List Value)) (si : Sg) (va vst : Value) (ca : List (List Value)) (wx : World) : Prop where
 sp : SP B Wh W S sb gb γ v0 v1 v2 v3 cd cv wx
 rblk : Blk wx rb 31 rbc
 vblk : Blk wx vb 53 #[.string v.name, .int .u64 v.id, .bool v.hid, .bool v.ro, vt, vs]
 tl : TL wx S vt v.tags
 len : cs.length = v.segs.length
 own : wx.ownsRow W 58 11 vs v.segs.length cs.flatten
 val : ∀ (k : Nat) (c : List Value) (x : Sg), k ≠ i → cs[k]? = some c → v.segs[k]? = some x → sgW wx S c x
 ci : cs[i]? = some (sgA si va vst).toList
 sie : v.segs[i]? = some si
 stl : IL wx S vst si.stale
 ar : OS arW S wx W 60 3 va si.areas ca
 nvb : W ≤ vb ∧ rb < W ∧ rb ≠ gb ∧ rb ≠ sb ∧ v1.ownBlock ≠ some vb ∧ v2.ownBlock ≠ some vb ∧ v3.ownBlock ≠ some vb ∧ v3.ownBlock ≠ some rb
 sV : ∀ k, S k → k ≠ vb ∧ k ≠ rb ∧ vs.ownBlock ≠ some k ∧ va.ownBlock ≠ some k
def SVoff (S : Nat → Prop) (gb rb vb : Nat) (v1 v2 v3 vs va : Value) (F : Nat → Prop) : Prop :=
 ∀ k, F k → ¬ S k ∧ k ≠ gb ∧ k ≠ rb ∧ k ≠ vb ∧ v1.ownBlock ≠ some k ∧ v2.ownBlock ≠ some k ∧ v3.ownBlock ≠ some k ∧ vs.ownBlock ≠ some k ∧ va.ownBlock ≠ some k
theorem six_c {W : World} {g : Nat} {T : TypeId} {v0 v1 v2 v3 v4 v5 : Value} (h : Blk W g T #[v0, v1, v2, v3, v4, v5]) : W.cell? ⟨g, 0, none⟩ = some v0 ∧ W.cell? ⟨g, 1, none⟩ = some v1 ∧ W.cell? ⟨g, 2, none⟩ = some v2 ∧ W.cell? ⟨g, 3, none⟩ = some v3 ∧ W.cell? ⟨g, 4, none⟩ = some v4 ∧ W.cell? ⟨g, 5, none⟩ = some v5 :=
 ⟨by rw [h.cell 0]; rfl, by rw [h.cell 1]; rfl, by rw [h.cell 2]; rfl, by rw [h.cell 3]; rfl, by rw [h.cell 4]; rfl, by rw [h.cell 5]; rfl⟩
theorem ArC.cells {w : World} {S : Nat → Prop} {p : Addr} {x : Ar} (h : ArC w p x) : ∃ c, arW w S c x ∧ c.length = 3 ∧ ∀ j u, c[j]? = some u → w.cell? (p.add j) = some u := by
 refine ⟨(arA x).toList, rfl, rfl, fun j u hj => ?_⟩
 have hlt : j < 3 := by have := (List.getElem?_eq_some_iff.1 hj).1; simpa [arA] using this
 obtain ⟨f0, f1, f2⟩ := h
 rcases (show j = 0 ∨ j = 1 ∨ j = 2 by omega) with rfl | rfl | rfl <;> simp [arA] at hj <;> subst hj
 ·rw [add00]; exact f0
 all_goals (rw [add1]; assumption)
section
variable {B Wh W : Nat} {S S' : Nat → Prop} {sb gb rb vb : Nat} {γ : Gr} {v0 v1 v2 v3 : Value} {cd cv : List (List Value)} {v : Vo} {vt vs : Value} {i : Nat} {cs : List (List Value)} {si : Sg} {va vst : Value} {ca : List (List Value)} {wx w' w8 : World}
theorem sgW.only {F : Nat → Prop} {c : List Value} {x : Sg} (h : sgW wx S c x) (ho : Only F wx w') (hF : ∀ k, S k → ¬ F k) : sgW w' S c x := sgL.keep h (Kept.of_only ho hF) (fun _ h => h)
theorem SV.only {F : Nat → Prop} (h : SV B Wh W S sb gb rb vb γ v0 v1 v2 v3 cd cv v vt vs i cs si va vst ca wx) (hs : SrcOk B w' sb) (ho : Only F wx w') (hF : SVoff S gb rb vb v1 v2 v3 vs va F) : SV B Wh W S sb gb rb vb γ v0 v1 v2 v3 cd cv v vt vs i cs si va vst ca w' := by
 have hk : Kept S wx w' := Kept.of_only ho fun k hk e => (hF k e).1 hk
 exact ⟨h.sp.only hs ho (fun k e => ⟨(hF k e).1, (hF k e).2.1, (hF k e).2.2.2.2.1, (hF k e).2.2.2.2.2.1, (hF k e).2.2.2.2.2.2.1⟩), h.rblk.only ho (fun e => (hF _ e).2.2.1 rfl), h.vblk.only ho (fun e => (hF _ e).2.2.2.1 rfl), TL.keep h.tl hk (fun _ h => h), h.len, zb_ h.own ho (fun k hk e => (hF k e).2.2.2.2.2.2.2.1 hk),
  fun k c x hi hc hx => (h.val k c x hi hc hx).only ho (fun k hk e => (hF k e).1 hk), h.ci, h.sie, IL.keep h.stl hk (fun _ h => h), h.ar.only arL ho (fun k hk e => (hF k e).2.2.2.2.2.2.2.2 hk) (fun k hk e => (hF k e).1 hk) (fun _ h => h), h.nvb, h.sV⟩
theorem SV.up (h : SV B Wh W S sb gb rb vb γ v0 v1 v2 v3 cd cv v vt vs i cs si va vst ca wx) (hb : Bel wx w') : SV B Wh W S sb gb rb vb γ v0 v1 v2 v3 cd cv v vt vs i cs si va vst ca w' := h.only (h.sp.src.below hb) (Only.of_below (fun _ => False) hb) (fun _ h => h.elim)
theorem SV.srcd (h : SV B Wh W S sb gb rb vb γ v0 v1 v2 v3 cd cv v vt vs i cs si va vst ca wx) (hs : SrcOk B w' sb) (ho : Only (· = sb) wx w') : SV B Wh W S sb gb rb vb γ v0 v1 v2 v3 cd cv v vt vs i cs si va vst ca w' := h.only hs ho (fun k e => by
 have e' : k = sb := e
 have hwb := h.sp.wb
 have hnv := h.nvb
 refine ⟨fun hk => (h.sp.sS k hk).1 e', by omega, by omega, by omega, fun hk => ?_, fun hk => ?_, fun hk => ?_, fun hk => ?_, fun hk => ?_⟩
 ·have := (h.sp.ds.lt hk).1; omega
 ·have := (h.sp.vs.lt hk).1; omega
 ·have := (World.ownsRow.lt h.sp.hr k hk).1; omega
 ·have := (World.ownsRow.lt h.own k hk).1; omega
 ·have := (h.ar.lt hk).1; omega)
theorem SV.neV (h : SV B Wh W S sb gb rb vb γ v0 v1 v2 v3 cd cv v vt vs i cs si va vst ca wx) : vb ≠ gb ∧ vb ≠ sb ∧ vb ≠ rb ∧ ¬ S vb ∧ v1.ownBlock ≠ some vb ∧ v2.ownBlock ≠ some vb ∧ v3.ownBlock ≠ some vb ∧ vs.ownBlock ≠ some vb ∧ va.ownBlock ≠ some vb := by
 have hwb := h.sp.wb
 have hnv := h.nvb
 exact ⟨by omega, by omega, by omega, fun hk => (h.sV vb hk).1 rfl, hnv.2.2.2.2.1, hnv.2.2.2.2.2.1, hnv.2.2.2.2.2.2.1, fun e => zv_ h.own e h.vblk (by decide), fun e => zv_ h.ar.own e h.vblk (by decide)⟩
theorem SV.neS (h : SV B Wh W S sb gb rb vb γ v0 v1 v2 v3 cd cv v vt vs i cs si va vst ca wx) {k : Nat} (hk : vs.ownBlock = some k) : k ≠ gb ∧ k ≠ sb ∧ k ≠ rb ∧ k ≠ vb ∧ ¬ S k ∧ v1.ownBlock ≠ some k ∧ v2.ownBlock ≠ some k ∧ v3.ownBlock ≠ some k ∧ va.ownBlock ≠ some k := by
 have hwb := h.sp.wb
 have hnv := h.nvb
 have hl := (World.ownsRow.lt h.own k hk).1
 exact ⟨by omega, by omega, by omega, fun e => h.neV.2.2.2.2.2.2.2.1 (e ▸ hk), fun hs => (h.sV k hs).2.2.1 hk, fun e => zh_ h.own h.sp.ds.own (by decide) k hk e, fun e => zh_ h.own h.sp.vs.own (by decide) k hk e, fun e => zh_ h.own h.sp.hr (by decide) k hk e, fun e => zh_ h.own h.ar.own (by decide) k hk e⟩
theorem SV.neA (h : SV B Wh W S sb gb rb vb γ v0 v1 v2 v3 cd cv v vt vs i cs si va vst ca wx) {k : Nat} (hk : va.ownBlock = some k) : k ≠ gb ∧ k ≠ sb ∧ k ≠ rb ∧ k ≠ vb ∧ ¬ S k ∧ v1.ownBlock ≠ some k ∧ v2.ownBlock ≠ some k ∧ v3.ownBlock ≠ some k ∧ vs.ownBlock ≠ some k := by
 have hwb := h.sp.wb
 have hnv := h.nvb
 have hl := (h.ar.lt hk).1
 exact ⟨by omega, by omega, by omega, fun e => h.neV.2.2.2.2.2.2.2.2 (e ▸ hk), fun hs => (h.sV k hs).2.2.2 hk, fun e => zh_ h.ar.own h.sp.ds.own (by decide) k hk e, fun e => zh_ h.ar.own h.sp.vs.own (by decide) k hk e, fun e => zh_ h.ar.own h.sp.hr (by decide) k hk e, fun e => zh_ h.ar.own h.own (by decide) k hk e⟩
theorem SV.fresh (h : SV B Wh W S sb gb rb vb γ v0 v1 v2 v3 cd cv v vt vs i cs si va vst ca wx) (o : Obj) : SV B Wh W (fun k => S k ∨ k = wx.heap.size) sb gb rb vb γ v0 v1 v2 v3 cd cv v vt vs i cs si va vst ca (wx.alloc o) := by
 have hb : Bel wx (wx.alloc o) := (Below.refl _ _).al o
 have hu := h.up hb
 have hlow := h.sp.low
 have hnv := h.nvb
 exact ⟨h.sp.fresh o, hu.rblk, hu.vblk, TL.keep hu.tl Kept.same (fun _ h => .inl h), hu.len, hu.own, fun k c x hi hc hx => sgL.keep (hu.val k c x hi hc hx) Kept.same (fun _ h => .inl h), hu.ci, hu.sie, IL.keep hu.stl Kept.same (fun _ h => .inl h), hu.ar.imp arL (fun k hk _ => .inl hk), hu.nvb,
  fun k hk => hk.elim (hu.sV k) (fun e => ⟨fun e' => by have := h.vblk.lt; omega, by omega, fun e' => by have := (World.ownsRow.lt h.own k e').2; omega, fun e' => by have := (h.ar.lt e').2; omega⟩)⟩
theorem SV.lens (h : SV B Wh W S sb gb rb vb γ v0 v1 v2 v3 cd cv v vt vs i cs si va vst ca wx) : ∀ c ∈ cs, c.length = 11 := fun c hc => by
 obtain ⟨k, hk⟩ := List.getElem?_of_mem hc
 have hlt := (List.getElem?_eq_some_iff.1 hk).1
 by_cases e : k = i
 ·subst e
  rw [h.ci] at hk;injection hk with hk;subst hk;rfl
 ·exact sgL.len (h.val k c _ e hk (List.getElem?_eq_getElem (by rw [← h.len]; exact hlt)))
theorem SV.xcell {gs n c f : Nat} (h : SV B Wh W S sb gb rb vb γ v0 v1 v2 v3 cd cv v vt (.slice (some ⟨gs, 0, none⟩) n c) i cs si va vst ca wx) (hn : n = v.segs.length) (hf : f < 11) : wx.cell? ⟨gs, i * 11 + f, none⟩ = (sgA si va vst).toList[f]? ∧ wx.frozen? ⟨gs, i * 11 + f, none⟩ = false := by
 subst hn
 have hl := h.lens
 have hi : i < v.segs.length := (List.getElem?_eq_some_iff.1 h.sie).1
 have hlt : i * 11 + f < v.segs.length * 11 := by omega
 exact ⟨by rw [World.ownsRow.cellAt h.own (i * 11 + f) hlt, zT_ cs i f _ hl h.ci hf], World.ownsRow.frozenAt h.own _⟩
theorem SV.ilt (h : SV B Wh W S sb gb rb vb γ v0 v1 v2 v3 cd cv v vt vs i cs si va vst ca wx) : i < v.segs.length ∧ i < cs.length := ⟨(List.getElem?_eq_some_iff.1 h.sie).1, (List.getElem?_eq_some_iff.1 h.ci).1⟩
theorem SV.xset {gs n c f : Nat} {u vst' : Value} {si' : Sg} (h : SV B Wh W S sb gb rb vb γ v0 v1 v2 v3 cd cv v vt (.slice (some ⟨gs, 0, none⟩) n c) i cs si va vst ca wx) (hn : n = v.segs.length) (hf : f < 11) (hc : (sgA si va vst).toList.set f u = (sgA si' va vst').toList) (ha : si'.areas = si.areas) (hst : IL wx S vst' si'.stale) :
  SV B Wh W S sb gb rb vb γ v0 v1 v2 v3 cd cv { v with segs := v.segs.set i si' } vt (.slice (some ⟨gs, 0, none⟩) n c) i (cs.set i (sgA si' va vst').toList) si' va vst' ca (wx.setCell ⟨gs, i * 11 + f, none⟩ u) ∧ Only (· = gs) wx (wx.setCell ⟨gs, i * 11 + f, none⟩ u) := by
 subst hn
 have ho : Only (· = gs) wx (wx.setCell ⟨gs, i * 11 + f, none⟩ u) := (Only.refl (· = gs) wx).setCell (p := ⟨gs, i * 11 + f, none⟩) (.inl rfl) u
 have hgs : (Value.slice (some ⟨gs, 0, none⟩) v.segs.length c).ownBlock = some gs := rfl
 have hne := h.neS hgs
 have hst1 := (World.ownsRow.stored h.own (i * 11 + f) u).1
 have hil := h.ilt
 rw [yt_ cs i f _ u h.lens h.ci hf, hc] at hst1
 have hkp : Kept S wx (wx.setCell ⟨gs, i * 11 + f, none⟩ u) := Kept.of_only ho fun q hq e => by have e' : q = gs := e; subst e'; exact hne.2.2.2.2.1 hq
 refine ⟨⟨h.sp.only (h.sp.src.only ho (fun e => hne.2.1 (show sb = gs from e).symm) (fun q e => by have e' : q = gs := e; have h1 := (World.ownsRow.lt h.own gs rfl).1; have := h.sp.wb; omega)) ho (fun q e => by have e' : q = gs := e; subst e'; exact ⟨hne.2.2.2.2.1, hne.1, hne.2.2.2.2.2.1, hne.2.2.2.2.2.2.1, hne.2.2.2.2.2.2.2.1⟩), h.rblk.only ho (fun e => hne.2.2.1 (show rb = gs from e).symm), h.vblk.only ho (fun e => hne.2.2.2.1 (show vb = gs from e).symm), TL.keep h.tl hkp (fun _ h => h), by simp [h.len], ?_, fun k d x hi hd hx => ?_, List.getElem?_set_self hil.2, List.getElem?_set_self hil.1, IL.keep hst hkp (fun _ h => h), ?_, h.nvb, h.sV⟩, ho⟩
 ·show (wx.setCell ⟨gs, i * 11 + f, none⟩ u).ownsRow W 58 11 _ (v.segs.set i si').length _
  rw [List.length_set];exact hst1
 ·rw [List.getElem?_set_ne (Ne.symm hi)] at hd
  have hx' : (v.segs.set i si')[k]? = some x := hx;rw [List.getElem?_set_ne (Ne.symm hi)] at hx';exact sgL.keep (h.val k d x hi hd hx') hkp (fun _ h => h)
 ·rw [ha]
  exact h.ar.only arL ho (fun q hq e => by have e' : q = gs := e; subst e'; exact hne.2.2.2.2.2.2.2.2 hq) (fun q hq e => by have e' : q = gs := e; subst e'; exact hne.2.2.2.2.1 hq) (fun _ h => h)
theorem SV.vset {f : Nat} {u vt' : Value} {v' : Vo} (h : SV B Wh W S sb gb rb vb γ v0 v1 v2 v3 cd cv v vt vs i cs si va vst ca wx) (he : (#[.string v.name, .int .u64 v.id, .bool v.hid, .bool v.ro, vt, vs] : Array Value).setIfInBounds f u = #[.string v'.name, .int .u64 v'.id, .bool v'.hid, .bool v'.ro, vt', vs]) (ht : TL wx S vt' v'.tags) (hs : v'.segs = v.segs) :
  SV B Wh W S sb gb rb vb γ v0 v1 v2 v3 cd cv v' vt' vs i cs si va vst ca (wx.setCell ⟨vb, f, none⟩ u) ∧ Only (· = vb) wx (wx.setCell ⟨vb, f, none⟩ u) := by
 have ho : Only (· = vb) wx (wx.setCell ⟨vb, f, none⟩ u) := (Only.refl (· = vb) wx).setCell (p := ⟨vb, f, none⟩) (.inl rfl) u
 have hne := h.neV
 have hkp : Kept S wx (wx.setCell ⟨vb, f, none⟩ u) := Kept.of_only ho fun q hq e => by have e' : q = vb := e; subst e'; exact hne.2.2.2.1 hq
 have hb := h.vblk.set_ f u
 rw [he] at hb
 refine ⟨⟨h.sp.only (h.sp.src.only ho (fun e => hne.2.1 (show sb = vb from e).symm) (fun q e => by have e' : q = vb := e; have h1 := h.nvb; have := h.sp.wb; omega)) ho (fun q e => by have e' : q = vb := e; subst e'; exact ⟨hne.2.2.2.1, hne.1, hne.2.2.2.2.1, hne.2.2.2.2.2.1, hne.2.2.2.2.2.2.1⟩), h.rblk.only ho (fun e => hne.2.2.1 (show rb = vb from e).symm), hb, TL.keep ht hkp (fun _ h => h), by rw [hs]; exact h.len, by rw [hs]; exact zb_ h.own ho (fun q hq e => by have e' : q = vb := e; subst e'; exact hne.2.2.2.2.2.2.2.1 hq), fun k d x hi hd hx => sgL.keep (h.val k d x hi hd (by rw [← hs]; exact hx)) hkp (fun _ h => h), h.ci, by rw [hs]; exact h.sie, IL.keep h.stl hkp (fun _ h => h),
  h.ar.only arL ho (fun q hq e => by have e' : q = vb := e; subst e'; exact hne.2.2.2.2.2.2.2.2 hq) (fun q hq e => by have e' : q = vb := e; subst e'; exact hne.2.2.2.1 hq) (fun _ h => h), h.nvb, h.sV⟩, ho⟩
theorem SV.acell {ga n c j f : Nat} {a : Ar} (h : SV B Wh W S sb gb rb vb γ v0 v1 v2 v3 cd cv v vt vs i cs si (.slice (some ⟨ga, 0, none⟩) n c) vst ca wx) (hn : n = si.areas.length) (hj : si.areas[j]? = some a) (hf : f < 3) : wx.cell? ⟨ga, j * 3 + f, none⟩ = (arA a).toList[f]? ∧ wx.frozen? ⟨ga, j * 3 + f, none⟩ = false := by
 subst hn
 have hl := h.ar.lens arL
 have hjl := (List.getElem?_eq_some_iff.1 hj).1
 obtain ⟨c', hc'⟩ : ∃ c', ca[j]? = some c' := ⟨_, List.getElem?_eq_getElem (by rw [h.ar.len]; exact hjl)⟩
 have e : c' = (arA a).toList := h.ar.val j c' a hc' hj
 exact ⟨by rw [World.ownsRow.cellAt h.ar.own (j * 3 + f) (by omega), zT_ ca j f c' hl hc' hf, e], World.ownsRow.frozenAt h.ar.own _⟩
theorem SV.aset {ga n c j f : Nat} {u : Value} {a a' : Ar} (h : SV B Wh W S sb gb rb vb γ v0 v1 v2 v3 cd cv v vt vs i cs si (.slice (some ⟨ga, 0, none⟩) n c) vst ca wx) (hn : n = si.areas.length) (hj : si.areas[j]? = some a) (hf : f < 3) (he : (arA a).toList.set f u = (arA a').toList) :
  SV B Wh W S sb gb rb vb γ v0 v1 v2 v3 cd cv { v with segs := v.segs.set i { si with areas := si.areas.set j a' } } vt vs i cs { si with areas := si.areas.set j a' } (.slice (some ⟨ga, 0, none⟩) n c) vst (ca.set j (arA a').toList) (wx.setCell ⟨ga, j * 3 + f, none⟩ u) ∧ Only (· = ga) wx (wx.setCell ⟨ga, j * 3 + f, none⟩ u) := by
 subst hn
 have ho : Only (· = ga) wx (wx.setCell ⟨ga, j * 3 + f, none⟩ u) := (Only.refl (· = ga) wx).setCell (p := ⟨ga, j * 3 + f, none⟩) (.inl rfl) u
 have hga : (Value.slice (some ⟨ga, 0, none⟩) si.areas.length c).ownBlock = some ga := rfl
 have hne := h.neA hga
 have hil := h.ilt
 have hjl := (List.getElem?_eq_some_iff.1 hj).1
 obtain ⟨c', hc'⟩ : ∃ c', ca[j]? = some c' := ⟨_, List.getElem?_eq_getElem (by rw [h.ar.len]; exact hjl)⟩
 have e : c' = (arA a).toList := h.ar.val j c' a hc' hj
 have hst1 := (World.ownsRow.stored h.ar.own (j * 3 + f) u).1
 rw [yt_ ca j f _ u (h.ar.lens arL) hc' hf, e, he] at hst1
 have hkp : Kept S wx (wx.setCell ⟨ga, j * 3 + f, none⟩ u) := Kept.of_only ho fun q hq e => by have e' : q = ga := e; subst e'; exact hne.2.2.2.2.1 hq
 refine ⟨⟨h.sp.only (h.sp.src.only ho (fun e => hne.2.1 (show sb = ga from e).symm) (fun q e => by have e' : q = ga := e; have h1 := (h.ar.lt (k := ga) rfl).1; have := h.sp.wb; omega)) ho (fun q e => by have e' : q = ga := e; subst e'; exact ⟨hne.2.2.2.2.1, hne.1, hne.2.2.2.2.2.1, hne.2.2.2.2.2.2.1, hne.2.2.2.2.2.2.2.1⟩), h.rblk.only ho (fun e => hne.2.2.1 (show rb = ga from e).symm), h.vblk.only ho (fun e => hne.2.2.2.1 (show vb = ga from e).symm), TL.keep h.tl hkp (fun _ h => h), by simp [h.len], ?_, fun k d x hi hd hx => ?_, h.ci, List.getElem?_set_self hil.1, IL.keep h.stl hkp (fun _ h => h), h.ar.setC arL ho (fun q hq e => by subst e; exact hne.2.2.2.2.1 hq) hst1 rfl, h.nvb, h.sV⟩, ho⟩
 ·show (wx.setCell ⟨ga, j * 3 + f, none⟩ u).ownsRow W 58 11 _ (v.segs.set i _).length _
  rw [List.length_set];exact zb_ h.own ho (fun q hq e => by have e' : q = ga := e; subst e'; exact hne.2.2.2.2.2.2.2.2 hq)
 ·have hx' : (v.segs.set i _)[k]? = some x := hx
  rw [List.getElem?_set_ne (Ne.symm hi)] at hx';exact sgL.keep (h.val k d x hi hd hx') hkp (fun _ h => h)
theorem SV.anew {gs n c : Nat} {va' : Value} {as' : List Ar} {ca' : List (List Value)} (h : SV B Wh W S sb gb rb vb γ v0 v1 v2 v3 cd cv v vt (.slice (some ⟨gs, 0, none⟩) n c) i cs si va vst ca wx) (hn : n = v.segs.length) (ho8 : OS arW S w8 W 60 3 va' as' ca') (hon : Only (fun k => va.ownBlock = some k) wx w8) (hd : va'.ownBlock = va.ownBlock ∨ va'.ownBlock = some wx.heap.size) :
  SV B Wh W S sb gb rb vb γ v0 v1 v2 v3 cd cv { v with segs := v.segs.set i { si with areas := as' } } vt (.slice (some ⟨gs, 0, none⟩) n c) i (cs.set i (sgA { si with areas := as' } va' vst).toList) { si with areas := as' } va' vst ca' (w8.setCell ⟨gs, i * 11 + 3, none⟩ va') ∧ Only (fun k => k = gs ∨ va.ownBlock = some k) wx (w8.setCell ⟨gs, i * 11 + 3, none⟩ va') := by
 subst hn
 have ho : Only (· = gs) w8 (w8.setCell ⟨gs, i * 11 + 3, none⟩ va') := (Only.refl (· = gs) w8).setCell (p := ⟨gs, i * 11 + 3, none⟩) (.inl rfl) va'
 have hgs : (Value.slice (some ⟨gs, 0, none⟩) v.segs.length c).ownBlock = some gs := rfl
 have hne := h.neS hgs
 have hnA := fun k hk => h.neA (k := k) hk
 have hil := h.ilt
 have hown8 : w8.ownsRow W 58 11 (.slice (some ⟨gs, 0, none⟩) v.segs.length c) v.segs.length cs.flatten := zb_ h.own hon (fun q hq e => (hnA q e).2.2.2.2.2.2.2.2 hq)
 have hst1 := (World.ownsRow.stored hown8 (i * 11 + 3) va').1
 rw [yt_ cs i 3 _ va' h.lens h.ci (by decide)] at hst1
 have hall : Only (fun k => k = gs ∨ va.ownBlock = some k) wx (w8.setCell ⟨gs, i * 11 + 3, none⟩ va') := (hon.mono fun k _ e => .inr e).trans_ ho (fun k _ e => .inl e)
 have hkp : Kept S wx (w8.setCell ⟨gs, i * 11 + 3, none⟩ va') := Kept.of_only hall fun q hq e => e.elim (fun e' => by subst e'; exact hne.2.2.2.2.1 hq) (fun e' => (hnA q e').2.2.2.2.1 hq)
 have hnew : ∀ k, k < wx.heap.size → va.ownBlock ≠ some k → va'.ownBlock ≠ some k := fun k hk hv e => hd.elim (fun e' => hv (e' ▸ e)) (fun e' => by rw [e] at e'; injection e' with e'; omega)
 have hvl := h.vblk.lt
 refine ⟨⟨h.sp.only (h.sp.src.only hall (fun e => e.elim (fun e => hne.2.1 e.symm) (fun e => (hnA _ e).2.1 rfl)) (fun q e => by have := h.sp.wb; exact e.elim (fun e' => by have h1 := (World.ownsRow.lt h.own gs rfl).1; omega) (fun e' => by have h1 := (h.ar.lt e').1; omega))) hall (fun q e => e.elim (fun e' => by subst e'; exact ⟨hne.2.2.2.2.1, hne.1, hne.2.2.2.2.2.1, hne.2.2.2.2.2.2.1, hne.2.2.2.2.2.2.2.1⟩) (fun e' => ⟨(hnA q e').2.2.2.2.1, (hnA q e').1, (hnA q e').2.2.2.2.2.1, (hnA q e').2.2.2.2.2.2.1, (hnA q e').2.2.2.2.2.2.2.1⟩)), h.rblk.only hall (fun e => e.elim (fun e => hne.2.2.1 e.symm) (fun e => (hnA _ e).2.2.1 rfl)), h.vblk.only hall (fun e => e.elim (fun e => hne.2.2.2.1 e.symm) (fun e => (hnA _ e).2.2.2.1 rfl)), TL.keep h.tl hkp (fun _ h => h), by simp [h.len], ?_, fun k d x hi hd hx => ?_, List.getElem?_set_self hil.2, List.getElem?_set_self hil.1, IL.keep h.stl hkp (fun _ h => h), ?_, h.nvb, fun k hk => ⟨(h.sV k hk).1, (h.sV k hk).2.1, (h.sV k hk).2.2.1, hnew k (h.sp.sS k hk).2.2.2.2.2 (h.sV k hk).2.2.2⟩⟩, hall⟩
 ·show (w8.setCell ⟨gs, i * 11 + 3, none⟩ va').ownsRow W 58 11 _ (v.segs.set i _).length _
  rw [List.length_set];exact hst1
 ·rw [List.getElem?_set_ne (Ne.symm hi)] at hd
  have hx' : (v.segs.set i _)[k]? = some x := hx;rw [List.getElem?_set_ne (Ne.symm hi)] at hx';exact sgL.keep (h.val k d x hi hd hx') hkp (fun _ h => h)
 ·exact ho8.only arL ho (fun q hq e => by have e' : q = gs := e; subst e'; exact hnew q (World.ownsRow.lt h.own q rfl).2 hne.2.2.2.2.2.2.2.2 hq) (fun q hq e => by have e' : q = gs := e; subst e'; exact hne.2.2.2.2.1 hq) (fun _ h => h)
theorem SV.first {gs n c : Nat} {va0 va' : Value} {ca' : List (List Value)} (hsp : SP B Wh W S sb gb γ v0 v1 v2 v3 cd cv wx) (hrb : Blk wx rb 31 rbc) (hvb : Blk wx vb 53 #[.string v.name, .int .u64 v.id, .bool v.hid, .bool v.ro, vt, .slice (some ⟨gs, 0, none⟩) n c]) (hn : n = v.segs.length) (ht : TL wx S vt v.tags) (hss : OS sgW S wx W 58 11 (.slice (some ⟨gs, 0, none⟩) n c) v.segs cs)
  (hci : cs[i]? = some (sgA si va0 vst).toList) (hsi : v.segs[i]? = some si) (hst : IL wx S vst si.stale) (hnv : W ≤ vb ∧ rb < W ∧ rb ≠ gb ∧ rb ≠ sb ∧ v1.ownBlock ≠ some vb ∧ v2.ownBlock ≠ some vb ∧ v3.ownBlock ≠ some vb ∧ v3.ownBlock ≠ some rb) (hS : ∀ k, S k → k ≠ vb ∧ k ≠ rb ∧ k ≠ gs)
  (hb : Bel wx w8) (ho8 : OS arW S w8 W 60 3 va' si.areas ca') (hd : ∀ k, va'.ownBlock = some k → wx.heap.size ≤ k) :
  SV B Wh W S sb gb rb vb γ v0 v1 v2 v3 cd cv v vt (.slice (some ⟨gs, 0, none⟩) n c) i (cs.set i (sgA si va' vst).toList) si va' vst ca' (w8.setCell ⟨gs, i * 11 + 3, none⟩ va') ∧ Only (· = gs) wx (w8.setCell ⟨gs, i * 11 + 3, none⟩ va') := by
 subst hn
 have ho2 : Only (· = gs) w8 (w8.setCell ⟨gs, i * 11 + 3, none⟩ va') := (Only.refl (· = gs) w8).setCell (p := ⟨gs, i * 11 + 3, none⟩) (.inl rfl) va'
 have hgs : (Value.slice (some ⟨gs, 0, none⟩) v.segs.length c).ownBlock = some gs := rfl
 have hlg := hss.lt hgs
 have hall : Only (· = gs) wx (w8.setCell ⟨gs, i * 11 + 3, none⟩ va') := (Only.of_below _ hb).trans ho2
 have hss8 := hss.up sgL hb
 have hst1 := (World.ownsRow.stored hss8.own (i * 11 + 3) va').1
 have hl := hss.lens sgL
 rw [yt_ cs i 3 _ va' hl hci (by decide)] at hst1
 have hwb := hsp.wb
 have h1 := zh_ hss.own hsp.ds.own (by decide) gs rfl
 have h2 := zh_ hss.own hsp.vs.own (by decide) gs rfl
 have h3 := zh_ hss.own hsp.hr (by decide) gs rfl
 have hgv : vb ≠ gs := fun e => zv_ hss.own (e ▸ hgs) hvb (by decide)
 have hkp : Kept S wx (w8.setCell ⟨gs, i * 11 + 3, none⟩ va') := Kept.of_only hall fun q hq e => (hS q hq).2.2 e
 have hil := (List.getElem?_eq_some_iff.1 hsi).1
 have hil2 := (List.getElem?_eq_some_iff.1 hci).1
 refine ⟨⟨hsp.only (hsp.src.only hall (fun e => by have e' : sb = gs := e; omega) (fun q e => by have e' : q = gs := e; omega)) hall (fun q e => by have e' : q = gs := e; subst e'; exact ⟨fun hq => (hS q hq).2.2 rfl, by omega, h1, h2, h3⟩), hrb.only hall (fun e => by have e' : rb = gs := e; omega), hvb.only hall (fun e => hgv e), TL.keep ht hkp (fun _ h => h), by rw [List.length_set]; exact hss.len, hst1, fun k d x hi hd hx => ?_, List.getElem?_set_self hil2, hsi, IL.keep hst hkp (fun _ h => h), ho8.only arL ho2 (fun q hq e => by have e' : q = gs := e; have := hd q hq; omega) (fun q hq e => (hS q hq).2.2 e) (fun _ h => h), hnv, fun k hk => ⟨(hS k hk).1, (hS k hk).2.1, fun e => (hS k hk).2.2 (by injection e with e; exact e.symm), fun e => by have h1 := hd k e; have h2 := (hsp.sS k hk).2.2.2.2.2; omega⟩⟩, hall⟩
 rw [List.getElem?_set_ne (Ne.symm hi)] at hd
 exact sgL.keep (hss.val k d x hd hx) hkp (fun _ h => h)
theorem SV.done (h : SV B Wh W S sb gb rb vb γ v0 v1 v2 v3 cd cv v vt vs i cs si va vst ca wx) : SP B Wh W (fun k => S k ∨ vs.ownBlock = some k ∨ va.ownBlock = some k) sb gb γ v0 v1 v2 v3 cd cv wx ∧ voW wx (fun k => S k ∨ vs.ownBlock = some k ∨ va.ownBlock = some k) (voA v vt vs).toList v := by
 have hS1 : ∀ k, S k → S k ∨ vs.ownBlock = some k ∨ va.ownBlock = some k := fun k hk => .inl hk
 refine ⟨h.sp.weak hS1 (fun k hk => ?_), vt, vs, rfl, TL.keep h.tl Kept.same hS1, ?_⟩
 ·rcases hk with hk | hk | hk
  ·exact h.sp.sS k hk
  ·have := h.neS hk
   exact ⟨this.2.1, this.1, this.2.2.2.2.2.1, this.2.2.2.2.2.2.1, this.2.2.2.2.2.2.2.1, (World.ownsRow.lt h.own k hk).2⟩
  ·have := h.neA hk
   exact ⟨this.2.1, this.1, this.2.2.2.2.2.1, this.2.2.2.2.2.2.1, this.2.2.2.2.2.2.2.1, (h.ar.lt hk).2⟩
 ·have hos : OS sgW (fun k => S k ∨ vs.ownBlock = some k ∨ va.ownBlock = some k) wx W 58 11 vs v.segs cs := ⟨h.len, h.own, fun k c x hc hx => by
   by_cases e : k = i
   ·subst e
    rw [h.ci] at hc;rw [h.sie] at hx;injection hc with hc;injection hx with hx;subst hc hx;exact ⟨va, vst, rfl, h.ar.lr arL (by decide) hS1 (fun q hq => .inr (.inr hq)), IL.keep h.stl Kept.same hS1⟩
   ·exact sgL.keep (h.val k c x e hc hx) Kept.same hS1⟩
  exact hos.lr sgL (by decide) (fun _ h => h) (fun q hq => .inr (.inl hq))
end
theorem BdV.setS {v : Vo} {i : Nat} {s : Sg} (h : BdV v) (hs : BdS s) : BdV { v with segs := v.segs.set i s } :=
 ⟨h.name, h.tags, h.tagz, by show (v.segs.set i s).length ≤ _; rw [List.length_set]; exact h.segs, fun d hd => (List.mem_or_eq_of_mem_set hd).elim (h.seg d) (fun e => e ▸ hs)⟩
def SvD (B sb : Nat) (w : World) (S0 : Nat → Prop) (Wh : Nat) (γ0 : Gr) (vo : Value) (vb k : Nat) (wx : World) : Prop :=
 ∃ S γ v0 v1 gv c v3 cd cv v vt vs, BdG γ ∧ BdV v ∧ SP B Wh (w.heap.size + 1 + 1) S sb w.heap.size γ v0 v1 (.slice (some ⟨gv, 0, none⟩) γ.vols.length c) v3 cd cv wx ∧ (∀ q, S q → (S0 q ∨ Wh ≤ q) ∧ q ≠ w.heap.size + 1) ∧ Blk wx (w.heap.size + 1) 31 rbc ∧
  ML wx (fun q => Wh ≤ q ∧ q < w.heap.size) vo γ0.hist ∧ Only (TnF sb Wh w.heap.size vo) w wx ∧ Blk wx vb 53 (voA v vt vs) ∧ voW wx S (voA v vt vs).toList v ∧ k < γ.vols.length ∧ (v3.ownBlock ≠ some (w.heap.size + 1)) ∧ vb ≠ w.heap.size + 1
theorem qo_ {w : World} {g : Nat} {T : TypeId} {cs : Array Value} {n : Nat} (h : Blk w g T cs) (hn : cs.size = n) : Reads w w.heap.size 1 (some ⟨g, 0, none⟩) n cs.toList := by
 refine ⟨by simp [hn], fun _ => ⟨_, rfl, h.lt, fun j u hu => ?_⟩⟩
 rw [add_zero, h.cell]
 simpa using hu
structure SVX (B sb : Nat) (w : World) (S0 : Nat → Prop) (Wh : Nat) (γ : Gr) (vb k gv c2 : Nat) (v0 v1 v3 : Value) (cd cv : List (List Value)) (S : Nat → Prop) (v : Vo) (vt vs : Value) (i : Nat) (cs : List (List Value)) (si : Sg) (va vst : Value) (ca : List (List Value)) (wx : World) : Prop where
 sv : SV B Wh (w.heap.size + 1 + 1) S sb w.heap.size (w.heap.size + 1) vb γ v0 v1 (.slice (some ⟨gv, 0, none⟩) γ.vols.length c2) v3 cd cv v vt vs i cs si va vst ca wx
 hs : ∀ q, S q → (S0 q ∨ Wh ≤ q) ∧ q ≠ w.heap.size + 1
 on : Only (TnF sb Wh w.heap.size v3) w wx
 bg : BdG γ
 bv : BdV v
 hk : k < γ.vols.length
 hv : γ.vols.length ≤ 30
 hr : w.ownsRow Wh 70 3 v3 γ.hist.length (rC γ.hist)
section
variable {B sb : Nat} {w : World} {S0 S : Nat → Prop} {Wh : Nat} {γ : Gr} {vb k gv c2 : Nat} {v0 v1 v3 : Value} {cd cv : List (List Value)} {v v' : Vo} {vt vs vt' : Value} {i : Nat} {cs : List (List Value)} {si si' : Sg} {va vst va' : Value} {ca ca' : List (List Value)} {wx w' w8 : World}
theorem SVX.wl (h : SVX B sb w S0 Wh γ vb k gv c2 v0 v1 v3 cd cv S v vt vs i cs si va vst ca wx) : Wh ≤ w.heap.size ∧ sb < Wh := ⟨h.sv.sp.wb.2.2.1, h.sv.sp.wb.2.1⟩
theorem SVX.up (h : SVX B sb w S0 Wh γ vb k gv c2 v0 v1 v3 cd cv S v vt vs i cs si va vst ca wx) (hb : Bel wx w') : SVX B sb w S0 Wh γ vb k gv c2 v0 v1 v3 cd cv S v vt vs i cs si va vst ca w' :=
 ⟨h.sv.up hb, h.hs, h.on.trans (Only.of_below _ hb), h.bg, h.bv, h.hk, h.hv, h.hr⟩
theorem SVX.srcd (h : SVX B sb w S0 Wh γ vb k gv c2 v0 v1 v3 cd cv S v vt vs i cs si va vst ca wx) (hs : SrcOk B w' sb) (ho : Only (· = sb) wx w') : SVX B sb w S0 Wh γ vb k gv c2 v0 v1 v3 cd cv S v vt vs i cs si va vst ca w' :=
 ⟨h.sv.srcd hs ho, h.hs, h.on.trans (ho.mono fun _ _ e => .inl e), h.bg, h.bv, h.hk, h.hv, h.hr⟩
theorem SVX.fresh (h : SVX B sb w S0 Wh γ vb k gv c2 v0 v1 v3 cd cv S v vt vs i cs si va vst ca wx) (o : Obj) : SVX B sb w S0 Wh γ vb k gv c2 v0 v1 v3 cd cv (fun q => S q ∨ q = wx.heap.size) v vt vs i cs si va vst ca (wx.alloc o) :=
 have hl := h.sv.sp.low
 have hw := h.wl
 ⟨h.sv.fresh o, fun q hq => hq.elim (h.hs q) (fun e => ⟨.inr (by omega), by omega⟩), h.on.alloc o, h.bg, h.bv, h.hk, h.hv, h.hr⟩
theorem SVX.xset {gs n c f : Nat} {u vst' : Value} (h : SVX B sb w S0 Wh γ vb k gv c2 v0 v1 v3 cd cv S v vt (.slice (some ⟨gs, 0, none⟩) n c) i cs si va vst ca wx) (hn : n = v.segs.length) (hf : f < 11) (hc : (sgA si va vst).toList.set f u = (sgA si' va vst').toList) (ha : si'.areas = si.areas) (hst : IL wx S vst' si'.stale) (hb : BdS si') :
  SVX B sb w S0 Wh γ vb k gv c2 v0 v1 v3 cd cv S { v with segs := v.segs.set i si' } vt (.slice (some ⟨gs, 0, none⟩) n c) i (cs.set i (sgA si' va vst').toList) si' va vst' ca (wx.setCell ⟨gs, i * 11 + f, none⟩ u) :=
 have hp := h.sv.xset hn hf hc ha hst
 have hl := (World.ownsRow.lt h.sv.own gs rfl).1
 have hw := h.wl
 ⟨hp.1, h.hs, h.on.trans (hp.2.mono fun q _ e => .inr (by have e' : q = gs := e; omega)), h.bg, h.bv.setS hb, h.hk, h.hv, h.hr⟩
theorem SVX.vset {f : Nat} {u : Value} (h : SVX B sb w S0 Wh γ vb k gv c2 v0 v1 v3 cd cv S v vt vs i cs si va vst ca wx) (he : (#[.string v.name, .int .u64 v.id, .bool v.hid, .bool v.ro, vt, vs] : Array Value).setIfInBounds f u = #[.string v'.name, .int .u64 v'.id, .bool v'.hid, .bool v'.ro, vt', vs]) (ht : TL wx S vt' v'.tags) (hs : v'.segs = v.segs) (hb : BdV v') :
  SVX B sb w S0 Wh γ vb k gv c2 v0 v1 v3 cd cv S v' vt' vs i cs si va vst ca (wx.setCell ⟨vb, f, none⟩ u) :=
 have hp := h.sv.vset he ht hs
 have hl := h.sv.nvb.1
 have hw := h.wl
 ⟨hp.1, h.hs, h.on.trans (hp.2.mono fun q _ e => .inr (by have e' : q = vb := e; omega)), h.bg, hb, h.hk, h.hv, h.hr⟩
theorem SVX.aset {ga n c j f : Nat} {u : Value} {a a' : Ar} (h : SVX B sb w S0 Wh γ vb k gv c2 v0 v1 v3 cd cv S v vt vs i cs si (.slice (some ⟨ga, 0, none⟩) n c) vst ca wx) (hn : n = si.areas.length) (hj : si.areas[j]? = some a) (hf : f < 3) (he : (arA a).toList.set f u = (arA a').toList) (hb : BdS { si with areas := si.areas.set j a' }) :
  SVX B sb w S0 Wh γ vb k gv c2 v0 v1 v3 cd cv S { v with segs := v.segs.set i { si with areas := si.areas.set j a' } } vt vs i cs { si with areas := si.areas.set j a' } (.slice (some ⟨ga, 0, none⟩) n c) vst (ca.set j (arA a').toList) (wx.setCell ⟨ga, j * 3 + f, none⟩ u) :=
 have hp := h.sv.aset hn hj hf he
 have hl := (h.sv.ar.lt (k := ga) rfl).1
 have hw := h.wl
 ⟨hp.1, h.hs, h.on.trans (hp.2.mono fun q _ e => .inr (by have e' : q = ga := e; omega)), h.bg, h.bv.setS hb, h.hk, h.hv, h.hr⟩
theorem SVX.anew {gs n c : Nat} {as' : List Ar} (h : SVX B sb w S0 Wh γ vb k gv c2 v0 v1 v3 cd cv S v vt (.slice (some ⟨gs, 0, none⟩) n c) i cs si va vst ca wx) (hn : n = v.segs.length) (ho8 : OS arW S w8 (w.heap.size + 1 + 1) 60 3 va' as' ca') (hon : Only (fun k => va.ownBlock = some k) wx w8) (hd : va'.ownBlock = va.ownBlock ∨ va'.ownBlock = some wx.heap.size) (hb : BdS { si with areas := as' }) :
  SVX B sb w S0 Wh γ vb k gv c2 v0 v1 v3 cd cv S { v with segs := v.segs.set i { si with areas := as' } } vt (.slice (some ⟨gs, 0, none⟩) n c) i (cs.set i (sgA { si with areas := as' } va' vst).toList) { si with areas := as' } va' vst ca' (w8.setCell ⟨gs, i * 11 + 3, none⟩ va') :=
 have hp := h.sv.anew hn ho8 hon hd
 have hl := (World.ownsRow.lt h.sv.own gs rfl).1
 have hl2 := fun q (e : va.ownBlock = some q) => (h.sv.ar.lt e).1
 have hw := h.wl
 ⟨hp.1, h.hs, h.on.trans (hp.2.mono fun q _ e => .inr (e.elim (fun e => by omega) (fun e => by have := hl2 q e; omega))), h.bg, h.bv.setS hb, h.hk, h.hv, h.hr⟩
theorem SVX.ml (h : SVX B sb w S0 Wh γ vb k gv c2 v0 v1 v3 cd cv S v vt vs i cs si va vst ca wx) : ML wx (fun q => Wh ≤ q ∧ q < w.heap.size) v3 γ.hist :=
 ML.keep (jB_ h.sv.sp.hr) Kept.same (fun q hq => ⟨(World.ownsRow.lt h.hr q hq).1, (World.ownsRow.lt h.hr q hq).2⟩)
theorem SVX.sS (h : SVX B sb w S0 Wh γ vb k gv c2 v0 v1 v3 cd cv S v vt vs i cs si va vst ca wx) : ∀ q, (S q ∨ vs.ownBlock = some q ∨ va.ownBlock = some q) → (S0 q ∨ Wh ≤ q) ∧ q ≠ w.heap.size + 1 := fun q hq => by
 have hw := h.wl
 rcases hq with hq | hq | hq
 ·exact h.hs q hq
 ·have := (World.ownsRow.lt h.sv.own q hq).1; exact ⟨.inr (by omega), by omega⟩
 ·have := (h.sv.ar.lt hq).1; exact ⟨.inr (by omega), by omega⟩
theorem SVX.rb3 (h : SVX B sb w S0 Wh γ vb k gv c2 v0 v1 v3 cd cv S v vt vs i cs si va vst ca wx) : v3.ownBlock ≠ some (w.heap.size + 1) ∧ vb ≠ w.heap.size + 1 := ⟨h.sv.nvb.2.2.2.2.2.2.2, by have := h.sv.nvb.1; omega⟩
theorem SVX.done (h : SVX B sb w S0 Wh γ vb k gv c2 v0 v1 v3 cd cv S v vt vs i cs si va vst ca wx) : SvD B sb w S0 Wh γ v3 vb k wx :=
 have hd := h.sv.done
 ⟨_, γ, v0, v1, gv, c2, v3, cd, cv, v, vt, vs, h.bg, h.bv, hd.1, h.sS, h.sv.rblk, h.ml, h.on, h.sv.vblk, hd.2, h.hk, h.rb3.1, h.rb3.2⟩
theorem SVX.bare (h : SVX B sb w S0 Wh γ vb k gv c2 v0 v1 v3 cd cv S v vt vs i cs si va vst ca wx) : SvD B sb w S0 Wh γ v3 vb k (wx.setCell ⟨vb, 5, none⟩ (.slice none 0 0)) := by
 have ho : Only (· = vb) wx (wx.setCell ⟨vb, 5, none⟩ (.slice none 0 0)) := (Only.refl (· = vb) wx).setCell (p := ⟨vb, 5, none⟩) (.inl rfl) _
 have hne := h.sv.neV
 have hw := h.wl
 have hl := h.sv.nvb.1
 have hb := h.sv.vblk.set_ 5 (.slice none 0 0)
 have hkp : Kept S wx (wx.setCell ⟨vb, 5, none⟩ (.slice none 0 0)) := Kept.of_only ho fun q hq e => by have e' : q = vb := e; subst e'; exact hne.2.2.2.1 hq
 have hkm : Kept (fun q => Wh ≤ q ∧ q < w.heap.size) wx (wx.setCell ⟨vb, 5, none⟩ (.slice none 0 0)) := Kept.of_only ho fun q hq e => by have e' : q = vb := e; omega
 refine ⟨S, γ, v0, v1, gv, c2, v3, cd, cv, { v with segs := [] }, vt, .slice none 0 0, h.bg, ⟨h.bv.name, h.bv.tags, h.bv.tagz, by show 0 ≤ 3; decide, fun s hs => by cases hs⟩, h.sv.sp.only (h.sv.sp.src.only ho (fun e => hne.2.1 (show sb = vb from e).symm) (fun q e => by have e' : q = vb := e; have := h.sv.sp.wb; omega)) ho (fun q e => by have e' : q = vb := e; subst e'; exact ⟨hne.2.2.2.1, hne.1, hne.2.2.2.2.1, hne.2.2.2.2.2.1, hne.2.2.2.2.2.2.1⟩), h.hs, h.sv.rblk.only ho (fun e => hne.2.2.1 (show w.heap.size + 1 = vb from e).symm), ML.keep h.ml hkm (fun _ h => h), h.on.trans (ho.mono fun q _ e => .inr (by have e' : q = vb := e; omega)), by simpa only [voA, tS] using hb, ⟨vt, .slice none 0 0, rfl, TL.keep h.sv.tl hkp (fun _ h => h), LR.nil⟩, h.hk, h.rb3.1, h.rb3.2⟩
theorem SVX.twice {v8 : Value} (h : SVX B sb w S0 Wh γ vb k gv c2 v0 v1 v3 cd cv S v vt vs i cs si va vst ca wx) (ho : w8.ownsRow (w.heap.size + 1 + 1) 53 6 v8 (γ.vols.length + 1) (cv.flatten ++ (voA v vt vs).toList)) (hg : wx.grownBy w8 (some gv)) (hd : v8.ownBlock = some gv ∨ v8.ownBlock = some wx.heap.size) : SvD B sb w S0 Wh γ v3 vb k (w8.setCell ⟨w.heap.size, 7, none⟩ v8) := by
 have hdn := h.sv.done
 have hp := hdn.1.pushV (v8 := v8) hdn.2 ho hg hd
 have hw := h.wl
 have hl := h.sv.nvb
 have hgv := (hdn.1.vs.lt (k := gv) rfl).1
 obtain ⟨g8, c8, rfl, _⟩ := zC_ ho (by omega)
 have hne2 := hdn.1.ne2 (k := gv) rfl
 have hkp : Kept (fun q => S q ∨ vs.ownBlock = some q ∨ va.ownBlock = some q) wx (w8.setCell ⟨w.heap.size, 7, none⟩ (.slice (some ⟨g8, 0, none⟩) (γ.vols.length + 1) c8)) := Kept.of_only hp.2 fun q hq e => (show q = w.heap.size ∨ some gv = some q from e).elim (fun e => (hdn.1.sS q hq).2.1 e) (fun e => by injection e with e; subst e; exact hne2.2.2.2.2 hq)
 have hkm : Kept (fun q => Wh ≤ q ∧ q < w.heap.size) wx (w8.setCell ⟨w.heap.size, 7, none⟩ (.slice (some ⟨g8, 0, none⟩) (γ.vols.length + 1) c8)) := Kept.of_only hp.2 fun q hq e => (show q = w.heap.size ∨ some gv = some q from e).elim (fun e => by have := hq.2; omega) (fun e => by injection e with e; have := hq.2; omega)
 refine ⟨_, { γ with vols := γ.vols ++ [v] }, v0, v1, g8, c8, v3, cd, _, v, vt, vs, ⟨h.bg.name, h.bg.tags, h.bg.tagz, h.bg.disks, by have := h.hv; simp; omega, h.bg.hist, h.bg.histz, h.bg.disk, fun x hx => (List.mem_append.1 hx).elim (h.bg.vol x) (fun hx => by simp at hx; subst hx; exact h.bv)⟩, h.bv, by rw [show ({ γ with vols := γ.vols ++ [v] } : Gr).vols.length = γ.vols.length + 1 by simp]; exact hp.1, h.sS, h.sv.rblk.only hp.2 (fun e => (show w.heap.size + 1 = w.heap.size ∨ some gv = some (w.heap.size + 1) from e).elim (fun e => by omega) (fun e => by injection e with e; omega)), ML.keep h.ml hkm (fun _ h => h), h.on.trans (hp.2.mono fun q _ e => .inr ((show q = w.heap.size ∨ some gv = some q from e).elim (fun e => by omega) (fun e => by injection e with e; omega))), h.sv.vblk.only hp.2 (fun e => (show vb = w.heap.size ∨ some gv = some vb from e).elim (fun e => by omega) (fun e => hl.2.2.2.2.2.1 e)), voL.keep hdn.2 hkp (fun _ h => h), by have := h.hk; simp; omega, h.rb3.1, h.rb3.2⟩
end
section
variable {B sb : Nat} {w : World} {S0 : Nat → Prop} {Wh : Nat} {γ0 : Gr} {vo : Value} {vb k : Nat} {wx : World}
theorem SP.stored {S : Nat → Prop} {γ : Gr} {v0 v1 v3 u0 u1 u2 u3 u4 u5 : Value} {gv c : Nat} {cd cv : List (List Value)} {v : Vo} (hg : BdG γ) (hv : BdV v) (h : SP B Wh (w.heap.size + 1 + 1) S sb w.heap.size γ v0 v1 (.slice (some ⟨gv, 0, none⟩) γ.vols.length c) v3 cd cv wx) (hs : ∀ q, S q → (S0 q ∨ Wh ≤ q) ∧ q ≠ w.heap.size + 1) (hrb : Blk wx (w.heap.size + 1) 31 rbc)
  (hml : ML wx (fun q => Wh ≤ q ∧ q < w.heap.size) vo γ0.hist) (hon : Only (TnF sb Wh w.heap.size vo) w wx) (hx : voW wx S [u0, u1, u2, u3, u4, u5] v) (hk : k < γ.vols.length) :
  SpD B sb w S0 Wh γ0 vo ((((((wx.setCell ⟨gv, k * 6, none⟩ u0).setCell ⟨gv, k * 6 + 1, none⟩ u1).setCell ⟨gv, k * 6 + 2, none⟩ u2).setCell ⟨gv, k * 6 + 3, none⟩ u3).setCell ⟨gv, k * 6 + 4, none⟩ u4).setCell ⟨gv, k * 6 + 5, none⟩ u5) := by
 have hp := h.setV (k := k) rfl hk hx
 have hl := (h.vs.lt (k := gv) rfl).1
 have hw := h.wb
 exact ⟨S, { γ with vols := γ.vols.set k v }, v0, v1, _, v3, cd, _, hg.setVo hv, hp.1, hs, hrb.only hp.2 (fun e => by have e' : w.heap.size + 1 = gv := e; omega), ML.keep hml (Kept.of_only hp.2 fun q hq e => by have e' : q = gv := e; omega) (fun _ h => h), hon.trans (hp.2.mono fun q _ e => .inr (by have e' : q = gv := e; omega))⟩
end
end Go.Proofs.YtdkcfgahdcpkkaaDoor
