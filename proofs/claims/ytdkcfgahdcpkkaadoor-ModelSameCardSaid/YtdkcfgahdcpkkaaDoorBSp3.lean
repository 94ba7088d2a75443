/- Spoil: a volume that is changed, with what stands around it. -/
import Derived.Test.YtdkcfgahdcpkkaaDoorBSp2
set_option linter.all false
set_option linter.unusedVariables false
set_option linter.unusedSimpArgs false
namespace Go.Proofs.YtdkcfgahdcpkkaaDoor
open Go.RowKit
set_option maxRecDepth 100000
theorem reads_rowAt {w : World} {g : Nat} {T : TypeId} {cs : Array Value} {n : Nat} (h : Blk w g T cs) (hn : cs.size = n) : Reads w w.heap.size 1 (some ⟨g, 0, none⟩) n cs.toList := by
 refine ⟨by simp [hn], fun _ => ⟨_, rfl, h.lt, fun j u hu => ?_⟩⟩
 rw [add_zero, h.cell]
 simpa using hu
structure SVX (B sb : Nat) (w : World) (S0 : Nat → Prop) (Wh : Nat) (γ : Gr) (vb k gv c2 : Nat) (v0 v1 v3 : Value) (cd cv : List (List Value)) (S : Nat → Prop) (v : Vo) (vt vs : Value) (i : Nat) (cs : List (List Value)) (si : Sg) (va vst : Value) (ca : List (List Value)) (wx : World) : Prop where
 sv : SV B Wh (w.heap.size + 1 + 1) S sb w.heap.size (w.heap.size + 1) vb γ v0 v1 (.slice (some ⟨gv, 0, none⟩) γ.vols.length c2) v3 cd cv v vt vs i cs si va vst ca wx
 hs : ∀ q, S q → (S0 q ∨ Wh ≤ q) ∧ q ≠ w.heap.size + 1
 on : Only (TnF sb Wh w.heap.size v3) w wx
 bg : BdG γ
 bv : BdV v
 hk : k < γ.vols.length
 hv : γ.vols.length ≤ 30
 hr : w.ownsRow Wh 70 3 v3 γ.hist.length (rC γ.hist)
section
variable {B sb : Nat} {w : World} {S0 S : Nat → Prop} {Wh : Nat} {γ : Gr} {vb k gv c2 : Nat} {v0 v1 v3 : Value} {cd cv : List (List Value)} {v v' : Vo} {vt vs vt' : Value} {i : Nat} {cs : List (List Value)} {si si' : Sg} {va vst va' : Value} {ca ca' : List (List Value)} {wx w' w8 : World}
theorem SVX.wl (h : SVX B sb w S0 Wh γ vb k gv c2 v0 v1 v3 cd cv S v vt vs i cs si va vst ca wx) : Wh ≤ w.heap.size ∧ sb < Wh := ⟨h.sv.sp.wb.2.2.1, h.sv.sp.wb.2.1⟩
theorem SVX.up (h : SVX B sb w S0 Wh γ vb k gv c2 v0 v1 v3 cd cv S v vt vs i cs si va vst ca wx) (hb : Bel wx w') : SVX B sb w S0 Wh γ vb k gv c2 v0 v1 v3 cd cv S v vt vs i cs si va vst ca w' :=
 ⟨h.sv.up hb, h.hs, h.on.trans (Only.of_below _ hb), h.bg, h.bv, h.hk, h.hv, h.hr⟩
theorem SVX.srcd (h : SVX B sb w S0 Wh γ vb k gv c2 v0 v1 v3 cd cv S v vt vs i cs si va vst ca wx) (hs : SrcOk B w' sb) (ho : Only (· = sb) wx w') : SVX B sb w S0 Wh γ vb k gv c2 v0 v1 v3 cd cv S v vt vs i cs si va vst ca w' :=
 ⟨h.sv.srcd hs ho, h.hs, h.on.trans (ho.mono fun _ _ e => .inl e), h.bg, h.bv, h.hk, h.hv, h.hr⟩
theorem SVX.fresh (h : SVX B sb w S0 Wh γ vb k gv c2 v0 v1 v3 cd cv S v vt vs i cs si va vst ca wx) (o : Obj) : SVX B sb w S0 Wh γ vb k gv c2 v0 v1 v3 cd cv (fun q => S q ∨ q = wx.heap.size) v vt vs i cs si va vst ca (wx.alloc o) :=
 have hl := h.sv.sp.low
 have hw := h.wl
 ⟨h.sv.fresh o, fun q hq => hq.elim (h.hs q) (fun e => ⟨.inr (by omega), by omega⟩), h.on.alloc o, h.bg, h.bv, h.hk, h.hv, h.hr⟩
theorem SVX.xset {gs n c f : Nat} {u vst' : Value} (h : SVX B sb w S0 Wh γ vb k gv c2 v0 v1 v3 cd cv S v vt (.slice (some ⟨gs, 0, none⟩) n c) i cs si va vst ca wx) (hn : n = v.segs.length) (hf : f < 11) (hc : (sgA si va vst).toList.set f u = (sgA si' va vst').toList) (ha : si'.areas = si.areas) (hst : IL wx S vst' si'.stale) (hb : BdS si') :
  SVX B sb w S0 Wh γ vb k gv c2 v0 v1 v3 cd cv S { v with segs := v.segs.set i si' } vt (.slice (some ⟨gs, 0, none⟩) n c) i (cs.set i (sgA si' va vst').toList) si' va vst' ca (wx.setCell ⟨gs, i * 11 + f, none⟩ u) :=
 have hp := h.sv.xset hn hf hc ha hst
 have hl := (World.ownsRow.lt h.sv.own gs rfl).1
 have hw := h.wl
 ⟨hp.1, h.hs, h.on.trans (hp.2.mono fun q _ e => .inr (by have e' : q = gs := e; omega)), h.bg, h.bv.setS hb, h.hk, h.hv, h.hr⟩
theorem SVX.vset {f : Nat} {u : Value} (h : SVX B sb w S0 Wh γ vb k gv c2 v0 v1 v3 cd cv S v vt vs i cs si va vst ca wx) (he : (#[.string v.name, .int .u64 v.id, .bool v.hid, .bool v.ro, vt, vs] : Array Value).setIfInBounds f u = #[.string v'.name, .int .u64 v'.id, .bool v'.hid, .bool v'.ro, vt', vs]) (ht : TL wx S vt' v'.tags) (hs : v'.segs = v.segs) (hb : BdV v') :
  SVX B sb w S0 Wh γ vb k gv c2 v0 v1 v3 cd cv S v' vt' vs i cs si va vst ca (wx.setCell ⟨vb, f, none⟩ u) :=
 have hp := h.sv.vset he ht hs
 have hl := h.sv.nvb.1
 have hw := h.wl
 ⟨hp.1, h.hs, h.on.trans (hp.2.mono fun q _ e => .inr (by have e' : q = vb := e; omega)), h.bg, hb, h.hk, h.hv, h.hr⟩
theorem SVX.aset {ga n c j f : Nat} {u : Value} {a a' : Ar} (h : SVX B sb w S0 Wh γ vb k gv c2 v0 v1 v3 cd cv S v vt vs i cs si (.slice (some ⟨ga, 0, none⟩) n c) vst ca wx) (hn : n = si.areas.length) (hj : si.areas[j]? = some a) (hf : f < 3) (he : (arA a).toList.set f u = (arA a').toList) (hb : BdS { si with areas := si.areas.set j a' }) :
  SVX B sb w S0 Wh γ vb k gv c2 v0 v1 v3 cd cv S { v with segs := v.segs.set i { si with areas := si.areas.set j a' } } vt vs i cs { si with areas := si.areas.set j a' } (.slice (some ⟨ga, 0, none⟩) n c) vst (ca.set j (arA a').toList) (wx.setCell ⟨ga, j * 3 + f, none⟩ u) :=
 have hp := h.sv.aset hn hj hf he
 have hl := (h.sv.ar.lt (k := ga) rfl).1
 have hw := h.wl
 ⟨hp.1, h.hs, h.on.trans (hp.2.mono fun q _ e => .inr (by have e' : q = ga := e; omega)), h.bg, h.bv.setS hb, h.hk, h.hv, h.hr⟩
theorem SVX.anew {gs n c : Nat} {as' : List Ar} (h : SVX B sb w S0 Wh γ vb k gv c2 v0 v1 v3 cd cv S v vt (.slice (some ⟨gs, 0, none⟩) n c) i cs si va vst ca wx) (hn : n = v.segs.length) (ho8 : OS arW S w8 (w.heap.size + 1 + 1) 60 3 va' as' ca') (hon : Only (fun k => va.ownBlock = some k) wx w8) (hd : va'.ownBlock = va.ownBlock ∨ va'.ownBlock = some wx.heap.size) (hb : BdS { si with areas := as' }) :
  SVX B sb w S0 Wh γ vb k gv c2 v0 v1 v3 cd cv S { v with segs := v.segs.set i { si with areas := as' } } vt (.slice (some ⟨gs, 0, none⟩) n c) i (cs.set i (sgA { si with areas := as' } va' vst).toList) { si with areas := as' } va' vst ca' (w8.setCell ⟨gs, i * 11 + 3, none⟩ va') :=
 have hp := h.sv.anew hn ho8 hon hd
 have hl := (World.ownsRow.lt h.sv.own gs rfl).1
 have hl2 := fun q (e : va.ownBlock = some q) => (h.sv.ar.lt e).1
 have hw := h.wl
 ⟨hp.1, h.hs, h.on.trans (hp.2.mono fun q _ e => .inr (e.elim (fun e => by omega) (fun e => by have := hl2 q e; omega))), h.bg, h.bv.setS hb, h.hk, h.hv, h.hr⟩
theorem SVX.ml (h : SVX B sb w S0 Wh γ vb k gv c2 v0 v1 v3 cd cv S v vt vs i cs si va vst ca wx) : ML wx (fun q => Wh ≤ q ∧ q < w.heap.size) v3 γ.hist :=
 ML.keep (hist_ml h.sv.sp.hr) Kept.same (fun q hq => ⟨(World.ownsRow.lt h.hr q hq).1, (World.ownsRow.lt h.hr q hq).2⟩)
theorem SVX.sS (h : SVX B sb w S0 Wh γ vb k gv c2 v0 v1 v3 cd cv S v vt vs i cs si va vst ca wx) : ∀ q, (S q ∨ vs.ownBlock = some q ∨ va.ownBlock = some q) → (S0 q ∨ Wh ≤ q) ∧ q ≠ w.heap.size + 1 := fun q hq => by
 have hw := h.wl
 rcases hq with hq | hq | hq
 ·exact h.hs q hq
 ·have := (World.ownsRow.lt h.sv.own q hq).1; exact ⟨.inr (by omega), by omega⟩
 ·have := (h.sv.ar.lt hq).1; exact ⟨.inr (by omega), by omega⟩
theorem SVX.rb3 (h : SVX B sb w S0 Wh γ vb k gv c2 v0 v1 v3 cd cv S v vt vs i cs si va vst ca wx) : v3.ownBlock ≠ some (w.heap.size + 1) ∧ vb ≠ w.heap.size + 1 := ⟨h.sv.nvb.2.2.2.2.2.2.2, by have := h.sv.nvb.1; omega⟩
/-- the volume waits to be stored -/
theorem SVX.done (h : SVX B sb w S0 Wh γ vb k gv c2 v0 v1 v3 cd cv S v vt vs i cs si va vst ca wx) : SvD B sb w S0 Wh γ v3 vb k wx :=
 have hd := h.sv.done
 ⟨_, γ, v0, v1, gv, c2, v3, cd, cv, v, vt, vs, h.bg, h.bv, hd.1, h.sS, h.sv.rblk, h.ml, h.on, h.sv.vblk, hd.2, h.hk, h.rb3.1, h.rb3.2⟩
/-- .. without its segments -/
theorem SVX.bare (h : SVX B sb w S0 Wh γ vb k gv c2 v0 v1 v3 cd cv S v vt vs i cs si va vst ca wx) : SvD B sb w S0 Wh γ v3 vb k (wx.setCell ⟨vb, 5, none⟩ (.slice none 0 0)) := by
 have ho : Only (· = vb) wx (wx.setCell ⟨vb, 5, none⟩ (.slice none 0 0)) := (Only.refl (· = vb) wx).setCell (p := ⟨vb, 5, none⟩) (.inl rfl) _
 have hne := h.sv.neV
 have hw := h.wl
 have hl := h.sv.nvb.1
 have hb := h.sv.vblk.set_ 5 (.slice none 0 0)
 have hkp : Kept S wx (wx.setCell ⟨vb, 5, none⟩ (.slice none 0 0)) := Kept.of_only ho fun q hq e => by have e' : q = vb := e; subst e'; exact hne.2.2.2.1 hq
 have hkm : Kept (fun q => Wh ≤ q ∧ q < w.heap.size) wx (wx.setCell ⟨vb, 5, none⟩ (.slice none 0 0)) := Kept.of_only ho fun q hq e => by have e' : q = vb := e; omega
 refine ⟨S, γ, v0, v1, gv, c2, v3, cd, cv, { v with segs := [] }, vt, .slice none 0 0, h.bg, ⟨h.bv.name, h.bv.tags, h.bv.tagz, by show 0 ≤ 3; decide, fun s hs => by cases hs⟩, h.sv.sp.only (h.sv.sp.src.only ho (fun e => hne.2.1 (show sb = vb from e).symm) (fun q e => by have e' : q = vb := e; have := h.sv.sp.wb; omega)) ho (fun q e => by have e' : q = vb := e; subst e'; exact ⟨hne.2.2.2.1, hne.1, hne.2.2.2.2.1, hne.2.2.2.2.2.1, hne.2.2.2.2.2.2.1⟩), h.hs, h.sv.rblk.only ho (fun e => hne.2.2.1 (show w.heap.size + 1 = vb from e).symm), ML.keep h.ml hkm (fun _ h => h), h.on.trans (ho.mono fun q _ e => .inr (by have e' : q = vb := e; omega)), by simpa only [voA, tS] using hb, ⟨vt, .slice none 0 0, rfl, TL.keep h.sv.tl hkp (fun _ h => h), LR.nil⟩, h.hk, h.rb3.1, h.rb3.2⟩
/-- .. and is appended as well -/
theorem SVX.twice {v8 : Value} (h : SVX B sb w S0 Wh γ vb k gv c2 v0 v1 v3 cd cv S v vt vs i cs si va vst ca wx) (ho : w8.ownsRow (w.heap.size + 1 + 1) 53 6 v8 (γ.vols.length + 1) (cv.flatten ++ (voA v vt vs).toList)) (hg : wx.grownBy w8 (some gv)) (hd : v8.ownBlock = some gv ∨ v8.ownBlock = some wx.heap.size) : SvD B sb w S0 Wh γ v3 vb k (w8.setCell ⟨w.heap.size, 7, none⟩ v8) := by
 have hdn := h.sv.done
 have hp := hdn.1.pushV (v8 := v8) hdn.2 ho hg hd
 have hw := h.wl
 have hl := h.sv.nvb
 have hgv := (hdn.1.vs.lt (k := gv) rfl).1
 obtain ⟨g8, c8, rfl, _⟩ := ownsRow_pos ho (by omega)
 have hne2 := hdn.1.ne2 (k := gv) rfl
 have hkp : Kept (fun q => S q ∨ vs.ownBlock = some q ∨ va.ownBlock = some q) wx (w8.setCell ⟨w.heap.size, 7, none⟩ (.slice (some ⟨g8, 0, none⟩) (γ.vols.length + 1) c8)) := Kept.of_only hp.2 fun q hq e => (show q = w.heap.size ∨ some gv = some q from e).elim (fun e => (hdn.1.sS q hq).2.1 e) (fun e => by injection e with e; subst e; exact hne2.2.2.2.2 hq)
 have hkm : Kept (fun q => Wh ≤ q ∧ q < w.heap.size) wx (w8.setCell ⟨w.heap.size, 7, none⟩ (.slice (some ⟨g8, 0, none⟩) (γ.vols.length + 1) c8)) := Kept.of_only hp.2 fun q hq e => (show q = w.heap.size ∨ some gv = some q from e).elim (fun e => by have := hq.2; omega) (fun e => by injection e with e; have := hq.2; omega)
 refine ⟨_, { γ with vols := γ.vols ++ [v] }, v0, v1, g8, c8, v3, cd, _, v, vt, vs, ⟨h.bg.name, h.bg.tags, h.bg.tagz, h.bg.disks, by have := h.hv; simp; omega, h.bg.hist, h.bg.histz, h.bg.disk, fun x hx => (List.mem_append.1 hx).elim (h.bg.vol x) (fun hx => by simp at hx; subst hx; exact h.bv)⟩, h.bv, by rw [show ({ γ with vols := γ.vols ++ [v] } : Gr).vols.length = γ.vols.length + 1 by simp]; exact hp.1, h.sS, h.sv.rblk.only hp.2 (fun e => (show w.heap.size + 1 = w.heap.size ∨ some gv = some (w.heap.size + 1) from e).elim (fun e => by omega) (fun e => by injection e with e; omega)), ML.keep h.ml hkm (fun _ h => h), h.on.trans (hp.2.mono fun q _ e => .inr ((show q = w.heap.size ∨ some gv = some q from e).elim (fun e => by omega) (fun e => by injection e with e; omega))), h.sv.vblk.only hp.2 (fun e => (show vb = w.heap.size ∨ some gv = some vb from e).elim (fun e => by omega) (fun e => hl.2.2.2.2.2.1 e)), voL.keep hdn.2 hkp (fun _ h => h), by have := h.hk; simp; omega, h.rb3.1, h.rb3.2⟩
end
section
variable {B sb : Nat} {w : World} {S0 : Nat → Prop} {Wh : Nat} {γ0 : Gr} {vo : Value} {vb k : Nat} {wx : World}
/-- the volume is stored: what was made, whatever it is -/
theorem SP.stored {S : Nat → Prop} {γ : Gr} {v0 v1 v3 u0 u1 u2 u3 u4 u5 : Value} {gv c : Nat} {cd cv : List (List Value)} {v : Vo} (hg : BdG γ) (hv : BdV v) (h : SP B Wh (w.heap.size + 1 + 1) S sb w.heap.size γ v0 v1 (.slice (some ⟨gv, 0, none⟩) γ.vols.length c) v3 cd cv wx) (hs : ∀ q, S q → (S0 q ∨ Wh ≤ q) ∧ q ≠ w.heap.size + 1) (hrb : Blk wx (w.heap.size + 1) 31 rbc)
  (hml : ML wx (fun q => Wh ≤ q ∧ q < w.heap.size) vo γ0.hist) (hon : Only (TnF sb Wh w.heap.size vo) w wx) (hx : voW wx S [u0, u1, u2, u3, u4, u5] v) (hk : k < γ.vols.length) :
  SpD B sb w S0 Wh γ0 vo ((((((wx.setCell ⟨gv, k * 6, none⟩ u0).setCell ⟨gv, k * 6 + 1, none⟩ u1).setCell ⟨gv, k * 6 + 2, none⟩ u2).setCell ⟨gv, k * 6 + 3, none⟩ u3).setCell ⟨gv, k * 6 + 4, none⟩ u4).setCell ⟨gv, k * 6 + 5, none⟩ u5) := by
 have hp := h.setV (k := k) rfl hk hx
 have hl := (h.vs.lt (k := gv) rfl).1
 have hw := h.wb
 exact ⟨S, { γ with vols := γ.vols.set k v }, v0, v1, _, v3, cd, _, hg.setVo hv, hp.1, hs, hrb.only hp.2 (fun e => by have e' : w.heap.size + 1 = gv := e; omega), ML.keep hml (Kept.of_only hp.2 fun q hq e => by have e' : q = gv := e; omega) (fun _ h => h), hon.trans (hp.2.mono fun q _ e => .inr (by have e' : q = gv := e; omega))⟩
end
end Go.Proofs.YtdkcfgahdcpkkaaDoor
