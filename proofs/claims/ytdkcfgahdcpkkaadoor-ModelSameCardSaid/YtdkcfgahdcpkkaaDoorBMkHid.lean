/- The builder: hidden (printed by genHid.py). -/
import Derived.Test.YtdkcfgahdcpkkaaDoorBMkApp
set_option linter.all false
set_option linter.unusedVariables false
set_option linter.unusedSimpArgs false
namespace Go.Proofs.YtdkcfgahdcpkkaaDoor
open Go.RowKit
set_option maxRecDepth 100000
/-- volumes are added one behind the other -/
inductive LinsR : List (ByteArray × Int) → Be → Be → Prop
 | nil (β : Be) : LinsR [] β β
 | snoc {l : List (ByteArray × Int)} {β β1 β2 : Be} {nm : ByteArray} {n : Int} (h : LinsR l β β1) (hr : LinR β1 nm true n true β2) : LinsR (l ++ [(nm, n)]) β β2
/-- what linear leaves alone -/
theorem LinR.g {β β' : Be} {name : ByteArray} {hid : Bool} {n : Int} {ok : Bool} (h : LinR β name hid n ok β') :
  ∃ l, β'.g = { β.g with next := β.g.next + 1, vols := β.g.vols ++ l } ∧ l.length ≤ 1 ∧ β'.next.length = β.next.length := by
 obtain ⟨_, rfl⟩ | ⟨_, d, a, β2, hr, rfl⟩ := h
 ·exact ⟨[], by simp [nextB], by simp, rfl⟩
 ·refine ⟨[linVo name (idB β) hid n a], ?_, by simp, ?_⟩
  ·show ({ β2.g with vols := β2.g.vols ++ [linVo name (idB β) hid n a] } : Gr) = _
   rw [AreaR.g hr]
   rfl
  ·obtain ⟨dk, z, _, _, ⟨_, h, _⟩ | ⟨_, _, _, _, _, h⟩⟩ := hr
   ·show β2.next.length = _
    rw [h]; rfl
   ·show β2.next.length = _
    rw [h]; simp [nextB]
theorem LinsR.g {l : List (ByteArray × Int)} {β β' : Be} (h : LinsR l β β') :
  ∃ vs, β'.g = { β.g with next := β.g.next + l.length, vols := β.g.vols ++ vs } ∧ vs.length ≤ l.length ∧ β'.next.length = β.next.length := by
 induction h with
 | nil => exact ⟨[], by simp, by simp, rfl⟩
 | snoc _ hr ih =>
  obtain ⟨vs, h1, h2, h3⟩ := ih
  obtain ⟨ws, h4, h5, h6⟩ := hr.g
  refine ⟨vs ++ ws, ?_, by simp; omega, h6.trans h3⟩
  rw [h4, h1]
  simp only [List.length_append, List.length_singleton, List.append_assoc]
  congr 1
  omega
/-- hidden adds volumes, or takes back all of them -/
def HidR (β : Be) (l : List (ByteArray × Int)) (ok : Bool) (β' : Be) : Prop :=
 (ok = true ∧ LinsR l β β') ∨ (ok = false ∧ ∃ m, β.g.next ≤ m ∧ m ≤ β.g.next + l.length ∧ β' = ⟨{ β.g with next := m }, β.next⟩)
theorem HidR.g {l : List (ByteArray × Int)} {β β' : Be} {ok : Bool} (h : HidR β l ok β') :
  ∃ vs m, β'.g = { β.g with next := m, vols := β.g.vols ++ vs } ∧ β.g.next ≤ m ∧ m ≤ β.g.next + l.length ∧ vs.length ≤ l.length ∧ β'.next.length = β.next.length := by
 obtain ⟨_, h⟩ | ⟨_, m, h1, h2, rfl⟩ := h
 ·obtain ⟨vs, h1, h2, h3⟩ := h.g
  exact ⟨vs, _, h1, by omega, by omega, h2, h3⟩
 ·exact ⟨[], m, by simp, h1, h2, by simp, rfl⟩
section
variable {S S' M M' : Nat → Prop} {w w' : World}
end
section
variable {B : Nat} {S : Nat → Prop} {w : World} {bb sb : Nat} {β : Be} {vt vd vn vn2 : Value} {css : List (List Value)} {A : Option Addr} {c : Nat}
theorem ownBlock_any (A : Option Addr) (n m c : Nat) : (Value.slice A n c).ownBlock = (Value.slice A m c).ownBlock := by cases A <;> rfl
/-- the volumes are cut back, and the next extents set anew -/
theorem BU.undo {k : Nat} {nx2 : List Int} (h : BU B S w bb sb β vt vd (.slice A β.g.vols.length c) vn css) (hk : k ≤ β.g.vols.length) (ho : w.ownsRow B 3 1 vn2 nx2.length (I nx2))
  (h1 : ∀ q, vn2.ownBlock = some q → ¬ S q ∧ q ≠ bb ∧ q ≠ sb ∧ (Value.slice A β.g.vols.length c).ownBlock ≠ some q) (hok : BeOk ⟨{ β.g with vols := β.g.vols.take k }, nx2⟩) :
  BU B S ((w.setCell ⟨bb, 8, none⟩ (.slice A k c)).setCell ⟨bb, 10, none⟩ vn2) bb sb ⟨{ β.g with vols := β.g.vols.take k }, nx2⟩ vt vd (.slice A k c) vn2 (css.take k) ∧ Only (Mt bb sb (.slice A β.g.vols.length c) vn) w ((w.setCell ⟨bb, 8, none⟩ (.slice A k c)).setCell ⟨bb, 10, none⟩ vn2) := by
 have ho2 : Only (· = bb) w ((w.setCell ⟨bb, 8, none⟩ (.slice A k c)).setCell ⟨bb, 10, none⟩ vn2) := ((Only.refl (· = bb) w).setCell (p := ⟨bb, 8, none⟩) (.inl rfl) _).setCell (p := ⟨bb, 10, none⟩) (.inl rfl) _
 have hst : ∀ q, S q → ¬ q = bb := fun q hq e => h.sd q hq (.inl e)
 have hvk := ownBlock_any A β.g.vols.length k c
 have hkl : (β.g.vols.take k).length = k := by rw [List.length_take]; omega
 have htk := h.vs.take voL k hk
 refine ⟨⟨(h.blk.set_ 8 _).set_ 10 _, h.src.only ho2 (fun e => h.d1 e.symm) (fun q e => e ▸ h.low), TL.keep h.tl (Kept.of_only ho2 hst) (fun _ h => h), DL.keep h.dl (Kept.of_only ho2 hst) (fun _ h => h), ?_, own_only ho ho2 (fun q hq e => (h1 q hq).2.1 e), ?_, h.low, h.d1, ?_, ?_, ?_, h.hist, hok⟩, ho2.mono fun _ _ e => .inl e⟩
 ·exact htk.only voL ho2 (fun q hq e => h.d2.1 (by rw [hvk, ← e]; exact hq)) hst (fun _ h => h)
 ·rintro q hq (e | e | e | e)
  ·exact h.sd q hq (.inl e)
  ·exact h.sd q hq (.inr (.inl e))
  ·exact h.sd q hq (.inr (.inr (.inl (by rw [hvk]; exact e))))
  ·exact (h1 q e).1 hq
 ·rw [← hvk]; exact h.d2
 ·exact ⟨fun e => (h1 _ e).2.1 rfl, fun e => (h1 _ e).2.2.1 rfl⟩
 ·intro q hq e
  rw [← hvk] at hq
  exact (h1 q e).2.2.2 hq
end
/-- how hidden ends -/
def HidRet (B : Nat) (S : Nat → Prop) (w : World) (bb sb : Nat) (β : Be) (vt vd vv vn : Value) (l : List (ByteArray × Int)) (e : Ending) (w' : World) : Prop :=
 ∃ ok β' vv' vn' css' S', HidR β l ok β' ∧ e = .returned (.bool ok) ∧ BU B S' w' bb sb β' vt vd vv' vn' css' ∧ Nx S (Mt bb sb vv vn) w S' (Mt bb sb vv' vn') w'
theorem undo_ret {B : Nat} {S S2 : Nat → Prop} {w w2 : World} {bb sb : Nat} {β β2 : Be} {vt vd vv vn vK : Value} {css2 : List (List Value)} {A : Option Addr} {c : Nat} {m : Int} {vs : List Vo} {l : List (ByteArray × Int)} (hbu : BU B S2 w2 bb sb β2 vt vd (.slice A β2.g.vols.length c) vn css2)
  (hg : β2.g = { β.g with next := m, vols := β.g.vols ++ vs }) (h1 : β.g.next ≤ m) (h2 : m ≤ β.g.next + l.length) (hnx : Nx S (Mt bb sb vv vn) w S2 (Mt bb sb (.slice A β2.g.vols.length c) vn) w2) (hk : w2.ownsRow B 3 1 vK β.next.length (I β.next))
  (hoff : ∀ k, vK.ownBlock = some k → w.heap.size ≤ k ∧ ¬ S2 k ∧ ¬ Mt bb sb (.slice A β2.g.vols.length c) vn k) (hok : BeOk β) :
  HidRet B S w bb sb β vt vd vv vn l (.returned (.bool false)) ((w2.setCell ⟨bb, 8, none⟩ (.slice A β.g.vols.length c)).setCell ⟨bb, 10, none⟩ vK) := by
 have hvl : β2.g.vols = β.g.vols ++ vs := by rw [hg]
 have hle : β.g.vols.length ≤ β2.g.vols.length := by rw [hvl]; simp
 have he : (⟨{ β2.g with vols := β2.g.vols.take β.g.vols.length }, β.next⟩ : Be) = ⟨{ β.g with next := m }, β.next⟩ := by
  rw [hvl, List.take_left, hg]
 have hok2 : BeOk ⟨{ β.g with next := m }, β.next⟩ := ⟨hok.nd, hok.nn, hok.ext, hok.nz, hok.ex⟩
 obtain ⟨hb, ho⟩ := hbu.undo hle hk (fun q hq => ⟨(hoff q hq).2.1, fun e => (hoff q hq).2.2 (.inl e), fun e => (hoff q hq).2.2 (.inr (.inl e)), fun e => (hoff q hq).2.2 (.inr (.inr (.inl e)))⟩) (by rw [he]; exact hok2)
 rw [he] at hb
 refine ⟨false, _, _, _, _, _, .inr ⟨rfl, m, h1, h2, rfl⟩, rfl, hb, ⟨hnx.only.trans_ ho (fun k hk e => hnx.turn k hk e), hnx.deep, fun k hlt e => ?_⟩⟩
 rcases e with e | e | e | e
 ·exact .inl e
 ·exact .inr (.inl e)
 ·exact hnx.turn k hlt (.inr (.inr (.inl (by rw [ownBlock_any A _ β.g.vols.length c]; exact e))))
 ·have := (hoff k e).1
  omega
end Go.Proofs.YtdkcfgahdcpkkaaDoor
namespace Go.Proofs.YtdkcfgahdcpkkaaDoor
open Go.RowKit
set_option maxRecDepth 100000
/-- hidden at work: i of the volumes are added -/
structure HW (B : Nat) (S S0 : Nat → Prop) (w : World) (bb sb : Nat) (β : Be) (vt vd vv vn vN vL vK : Value) (names : List ByteArray) (lens : List Int) (i : Nat) (β1 : Be) (vv1 : Value) (css1 : List (List Value)) (S1 : Nat → Prop) (wx : World) : Prop where
 ins : LinsR ((names.zip lens).take i) β β1
 bu : BU B S1 wx bb sb β1 vt vd vv1 vn css1
 nx : Nx S (Mt bb sb vv vn) w S1 (Mt bb sb vv1 vn) wx
 kept : wx.ownsRow B 3 1 vK β.next.length (I β.next)
 off : ∀ k, vK.ownBlock = some k → w.heap.size ≤ k ∧ ¬ S1 k ∧ ¬ Mt bb sb vv1 vn k
 tn : TL wx S0 vN names
 tl : IL wx S0 vL lens
 s0 : ∀ k, S0 k → ¬ Mt bb sb vv1 vn k
theorem zip_take {names : List ByteArray} {lens : List Int} {i : Nat} {x : ByteArray} {z : Int} (hx : names[i]? = some x) (hz : lens[i]? = some z) : (names.zip lens).take (i + 1) = (names.zip lens).take i ++ [(x, z)] := by
 have h : (names.zip lens)[i]? = some (x, z) := by rw [List.getElem?_zip_eq_some]; exact ⟨hx, hz⟩
 rw [List.take_add_one, h]
 rfl
set_option maxHeartbeats 16000000 in
theorem hidden_any {B : Nat} {S S0 : Nat → Prop} {w : World} {bb sb : Nat} {β : Be} {vt vd vv vn : Value} {css : List (List Value)} (h : BU B S w bb sb β vt vd vv vn css) (hnx : 0 ≤ β.g.next ∧ β.g.next ≤ 900000) (hvl : β.g.vols.length ≤ 900)
  {vN vL : Value} {names : List ByteArray} {lens : List Int} (hN : TL w S0 vN names) (hL : IL w S0 vL lens) (hlen : lens.length = names.length) (hle : names.length ≤ 10) (hz : ∀ z ∈ lens, 0 ≤ z ∧ z ≤ 1000) (hs0 : ∀ k, S0 k → k < w.heap.size ∧ ¬ Mt bb sb vv vn k) :
  Calls Tryd.prog 68 #[.pointer (some ⟨bb, 0, none⟩), vN, vL] w (HidRet B S w bb sb β vt vd vv vn (names.zip lens)) := by
 obtain ⟨AN, cN, rfl⟩ := hN.form
 obtain ⟨AL_, cL, rfl⟩ := hL.form
 obtain ⟨gn, cn, rfl, hcn⟩ := ownsRow_pos h.nx (by have := h.ok.nn; have := h.ok.nd; omega)
 obtain ⟨Av, cv, rfl, hcv⟩ := h.vs.form
 obtain ⟨i0, hi0, hy0, hy1, hy2⟩ := info_parts infoI
 have H := Lib.hid h
 have HN := Lib.hid hN
 have HL := Lib.hid hL
 have HLEN := Lib.hid hlen
 have HS0 := Lib.hid hs0
 have HZ := Lib.hid hz
 have HOK := Lib.hid h.ok
 have HDR := Lib.hid (h.up (Below.refl _ _).drew)
 have hnl : β.next.length ≤ 4 := by have := h.ok.nn; have := h.ok.nd; omega
 have HKS := Lib.hid (fun k => (h.mlt (k := k)))
 clear h hN hL hlen hs0 hz
 go_enter Tryd.func68, Tryd.ntmps68
 go_wp2_with fail
 go_cut [7, 8] (fun v7 v8 wx => ∃ vK, v7 = .int .i64 (β.g.vols.length : Int) ∧ v8 = vK ∧ HW B S S0 w bb sb β vt vd (.slice Av β.g.vols.length cv) (.slice (some ⟨gn, 0, none⟩) β.next.length cn) (.slice AN names.length cN) (.slice AL_ lens.length cL) vK names lens 0 β (.slice Av β.g.vols.length cv) css (fun k => S k ∧ k < w.heap.size) wx)
 case first =>
  refine wp_region_held_drew (S := fun w' => w'.cell? ⟨bb, 8, none⟩ = some (.slice Av β.g.vols.length cv) ∧ w'.cell? ⟨bb, 10, none⟩ = some (.slice (some ⟨gn, 0, none⟩) β.next.length cn)) (by kernel_rfl) ⟨HDR.out.cells.2.2.2.2.2.2.2.2.1, HDR.out.cells.2.2.2.2.2.2.2.2.2.2⟩ (fun hHeld => ?_)
  refine wpAnyH_take (i := 0) (oi := ⟨some 10, _, _, _, _, _⟩) (v := ?_) rfl (by kernel_rfl) (by kernel_rfl) (by kernel_rfl) (fun _ _ _ h => h) (Or.inl ⟨by rfl, ?_⟩) (by assumption) ?_
  rotate_left 1
  ·(intro w hSw; (try dsimp only at hSw); go_simp; try with_reducible rfl)
  simp only [Act.put, tS]
  refine wpAnyH_take (i := 1) (oi := ⟨some 11, _, _, _, _, _⟩) (v := ?_) rfl (by kernel_rfl) (by kernel_rfl) (by kernel_rfl) (fun _ _ _ h => h) (Or.inl ⟨by rfl, ?_⟩) (by assumption) ?_
  rotate_left 1
  ·(intro w hSw; (try dsimp only at hSw); go_simp; try with_reducible rfl)
  simp only [Act.put, tS]
  refine wpAnyH_take (i := 2) (oi := ⟨some 12, _, _, _, _, _⟩) (v := ?_) rfl (by kernel_rfl) (by kernel_rfl) (by kernel_rfl) (fun _ _ _ h => h) (Or.inl ⟨by rfl, ?_⟩) (by assumption) ?_
  rotate_left 1
  ·(intro w hSw; (try dsimp only at hSw); go_simp; try with_reducible rfl)
  simp only [Act.put, tS]
  refine wpAnyH_take (i := 3) (oi := ⟨some 13, _, _, _, _, _⟩) (v := ?_) rfl (by kernel_rfl) (by kernel_rfl) (by kernel_rfl) (fun _ _ _ h => h) (Or.inl ⟨by rfl, ?_⟩) (by assumption) ?_
  rotate_left 1
  ·(intro w hSw; (try dsimp only at hSw); go_simp; try with_reducible rfl)
  simp only [Act.put, tS]
  refine wpAnyH_take (i := 4) (oi := ⟨some 14, _, _, _, _, _⟩) (v := ?_) rfl (by kernel_rfl) (by kernel_rfl) (by kernel_rfl) (fun _ _ _ h => h) (Or.inl ⟨by rfl, ?_⟩) (by assumption) ?_
  rotate_left 1
  ·(intro w hSw; (try dsimp only at hSw); go_simp; try with_reducible rfl)
  simp only [Act.put, tS]
  refine wpAnyH_take (i := 5) (oi := ⟨some 15, _, _, _, _, _⟩) (v := ?_) rfl (by kernel_rfl) (by kernel_rfl) (by kernel_rfl) (fun _ _ _ h => h) (Or.inl ⟨by rfl, ?_⟩) (by assumption) ?_
  rotate_left 1
  ·(intro w hSw; (try dsimp only at hSw); go_simp; try with_reducible rfl)
  simp only [Act.put, tS]
  refine wpAnyH_take (i := 6) (oi := ⟨some 16, _, _, _, _, _⟩) (v := ?_) rfl (by kernel_rfl) (by kernel_rfl) (by kernel_rfl) (fun _ _ _ h => h) (Or.inl ⟨by rfl, ?_⟩) (by assumption) ?_
  rotate_left 1
  ·(intro w hSw; (try dsimp only at hSw); go_simp; try with_reducible rfl)
  simp only [Act.put, tS]
  refine wpAnyH_take (i := 7) (oi := ⟨some 17, _, _, _, _, _⟩) (v := ?_) rfl (by kernel_rfl) (by kernel_rfl) (by kernel_rfl) (fun _ _ _ h => h) (Or.inl ⟨by rfl, ?_⟩) (by assumption) ?_
  rotate_left 1
  ·(intro w hSw; (try dsimp only at hSw); go_simp; try with_reducible rfl)
  simp only [Act.put, tS]
  refine wpAnyH_take (i := 8) (oi := ⟨some 18, _, _, _, _, _⟩) (v := ?_) rfl (by kernel_rfl) (by kernel_rfl) (by kernel_rfl) (fun _ _ _ h => h) (Or.inl ⟨by rfl, ?_⟩) (by assumption) ?_
  rotate_left 1
  ·(intro w hSw; (try dsimp only at hSw); go_simp; try with_reducible rfl)
  simp only [Act.put, tS]
  refine wpAnyH_take (i := 9) (oi := ⟨some 19, _, _, _, _, _⟩) (v := ?_) rfl (by kernel_rfl) (by kernel_rfl) (by kernel_rfl) (fun _ _ _ h => h) (Or.inl ⟨by rfl, ?_⟩) (by assumption) ?_
  rotate_left 1
  ·(intro w hSw; (try dsimp only at hSw); go_simp; try with_reducible rfl)
  simp only [Act.put, tS]
  refine wpAnyH_all (rs := [10]) (by kernel_rfl) (by simp) (fun i hi => ?_)
  obtain rfl : i = 10 := by simpa using hi
  refine wpOp_step (o := ⟨some 20, _, _, _, _, _⟩) rfl (fun K' hK' => ?_)
  refine step_append_any (o := ⟨some 20, _, _, _, _, _⟩) _ rfl (.const (.slice none 0 0)) (.tmp 19) 22 rfl B 3 i0 _ 1 8 Tryd.underlying22 hi0 hy0 hy1 hy2 rfl (by decide) (.slice none 0 0) 0 [] rfl (World.ownsRow_nil _ _ _ _) _ (some ⟨gn, 0, none⟩) β.next.length cn (I β.next) rfl (Reads.of_own HDR.out.nx) (by intro u hu; simp [I] at hu; obtain ⟨z, _, rfl⟩ := hu; rfl) (by unfold maxLen; omega) (by omega) HDR.out.base ?_
  intro v8 w8 ho8 hg8 hd8
  rw [Nat.zero_add, List.nil_append] at ho8
  have hf8 : ∀ k, v8.ownBlock = some k → k = w.heap.size := fun k e => by
   rcases hd8 with hd | hd
   ·rw [hd] at e; cases e
   ·rw [hd] at e; injection e with e; exact e.symm
  have hO8 : Only (fun _ => False) w.drew w8 := (Only.refl (fun _ => False) _).grown hg8 (fun k e => by rw [show (Value.slice none 0 0).ownBlock = none from rfl] at e; cases e)
  have hb8 := (HDR.out.lowS.far hO8 (fun _ h => h.elim) (fun _ h => h.elim) (fun _ h => h.elim))
  obtain ⟨A8, c8, e8⟩ := own_formGM ho8
  have HST := Lib.hid (show HW B S S0 w bb sb β vt vd (.slice Av β.g.vols.length cv) (.slice (some ⟨gn, 0, none⟩) β.next.length cn) (.slice AN names.length cN) (.slice AL_ lens.length cL) v8 names lens 0 β (.slice Av β.g.vols.length cv) css (fun k => S k ∧ k < w.heap.size) w8 from
   ⟨by rw [List.take_zero]; exact .nil β, hb8, (Nx.low (Only.refl _ _)).trans (Nx.same (((Only.refl _ _).drew).trans (hO8.mono fun _ _ h => h.elim))), ho8, fun k e => by rw [hf8 k e]; exact ⟨Nat.le_refl _, fun h => by have := h.2; omega, fun h => by have := (HKS.out _ h).2; omega⟩,
    TL.keep HN.out (Kept.of_only (((Only.refl _ _).drew).trans hO8) fun _ _ h => h) (fun _ h => h), IL.keep HL.out (Kept.of_only (((Only.refl _ _).drew).trans hO8) fun _ _ h => h) (fun _ h => h), fun k hk => (HS0.out k hk).2⟩)
  have hHeld2 := (show w8.cell? ⟨bb, 8, none⟩ = some (.slice Av β.g.vols.length cv) ∧ w8.cell? ⟨bb, 10, none⟩ = some (.slice (some ⟨gn, 0, none⟩) β.next.length cn) from ⟨hb8.cells.2.2.2.2.2.2.2.2.1, hb8.cells.2.2.2.2.2.2.2.2.2.2⟩)
  subst e8
  clear ho8 hg8 hd8 hf8 hO8 hb8 hHeld
  refine hK' _ _ ⟨hHeld2, ?_⟩
  simp only [Act.put, upd, Nat.reduceAdd, Nat.reduceBEq, cond_true, cond_false, tS]
  refine wpAnyH_take (i := 11) (oi := ⟨some 7, _, _, _, _, _⟩) (v := ?_) rfl (by kernel_rfl) (by kernel_rfl) (by kernel_rfl) (fun _ _ _ h => h) (Or.inl ⟨by rfl, ?_⟩) (by assumption) ?_
  rotate_left 1
  ·(intro w hSw; (try dsimp only at hSw); go_simp; try with_reducible rfl)
  simp only [Act.put, tS]
  refine wpAnyH_take (i := 12) (oi := ⟨some 8, _, _, _, _, _⟩) (v := ?_) rfl (by kernel_rfl) (by kernel_rfl) (by kernel_rfl) (fun _ _ _ h => h) (Or.inl ⟨by rfl, ?_⟩) (by assumption) ?_
  rotate_left 1
  ·(intro w hSw; (try dsimp only at hSw); go_simp; try with_reducible rfl)
  simp only [Act.put, tS]
  refine wpAnyH_done (by kernel_rfl) ?_ _
  go_wp2_with fail
  go_meet
  case rel => exact ⟨_, rfl, rfl, HST.out⟩
 case rest =>
  obtain ⟨vK, rfl, rfl, hw0⟩ := hcut
  have HST := Lib.hid hw0
  clear hw0
  obtain ⟨AK, cK, rfl, _⟩ := ownsRow_formG HST.out.kept
  go_wp2_with fail
  go_loopw [9] (fun i wx => ∃ (k : Nat) (β1 : Be) (vv1 : Value) (css1 : List (List Value)) (S1 : Nat → Prop), k ≤ names.length ∧ i = .int .i64 (k : Int) ∧ HW B S S0 w bb sb β vt vd (.slice Av β.g.vols.length cv) (.slice (some ⟨gn, 0, none⟩) β.next.length cn) (.slice AN names.length cN) (.slice AL_ lens.length cL) (.slice AK β.next.length cK) names lens k β1 vv1 css1 S1 wx) (fun i _ => names.length - (intOf i).toNat)
  case atStart => exact ⟨0, _, _, _, _, Nat.zero_le _, rfl, HST.out⟩
  case round =>
   clear HST
   obtain ⟨k, β1, vv1, css1, S1, hk, rfl, hw⟩ := hrel
   have hbu := hw.bu
   obtain ⟨Av1, cv1, rfl, hcv1⟩ := hbu.vs.form
   obtain ⟨vs1, hg1, hv1, hn1⟩ := hw.ins.g
   have hzl : ((names.zip lens).take k).length ≤ 10 := by rw [List.length_take, List.length_zip]; omega
   have hvl1 : β1.g.vols.length ≤ 1000 := by rw [hg1]; simp; omega
   have hnx1 : 0 ≤ β1.g.next ∧ β1.g.next ≤ 1000000 := by rw [hg1]; show 0 ≤ β.g.next + _ ∧ β.g.next + _ ≤ _; omega
   obtain ⟨c0, c1, c2, c3, c4, c5, c6, c7, c8, c9, c10⟩ := hbu.cells
   have f8 := hbu.blk.frozen 8
   have f10 := hbu.blk.frozen 10
   have HW1 := Lib.hid hw
   have HG1 := Lib.hid hg1
   have HVLE := Lib.hid (show β.g.vols.length ≤ cv1 by have h1 : β1.g.vols.length ≤ cv1 := hcv1; rw [hg1] at h1; simp at h1; omega)
   have HZL := Lib.hid (show ((names.zip lens).take k).length ≤ (names.zip lens).length by rw [List.length_take]; omega)
   have HV1 := Lib.hid hv1
   clear hw hbu hg1 hv1 hn1
   by_cases hlt : k < names.length
   ·have z0 : (k : Int) < (names.length : Int) := by omega
    have z1 : (0 : Int) ≤ (k : Int) := by omega
    have z2 : (k : Int) < (lens.length : Int) := by have := HLEN.out; omega
    obtain ⟨an, x, rfl, hx, _, hal, ht⟩ := HW1.out.tn.cell hlt
    obtain ⟨ai, z, rfl, hzx, _, hil, hi⟩ := HW1.out.tl.cell (k := k) (by have := HLEN.out; omega)
    have z3 : (0 : Int) ≤ (β.g.vols.length : Int) := by omega
    have z4 : β.g.vols.length ≤ cv1 := by have := HVLE.out; omega
    have z5 : (β.g.vols.length : Int) ≤ (cv1 : Int) := by omega
    by_cases h31 : (31 : Int) ≤ (β1.g.vols.length : Int)
    ·have t31 : decide ((31 : Int) ≤ (β1.g.vols.length : Int)) = true := decide_eq_true h31
     go_wp2_with fail
     go_quiet (fail)
     have HQ := Lib.hid (below_drewN (Below.refl wr.heap.size wr) nq)
     have k8 := bkeep HQ.out c8
     have HU := Lib.hid (undo_ret (l := names.zip lens) (HW1.out.bu.up HQ.out) HG1.out (by omega) (by have := HZL.out; omega) (HW1.out.nx.below HQ.out) (own_only HW1.out.kept (Only.of_below (fun _ => False) HQ.out) (fun _ _ h => h)) HW1.out.off HOK.out)
     go_wp2_with fail
     go_ret
     exact HU.out
    ·have t31 : decide ((31 : Int) ≤ (β1.g.vols.length : Int)) = false := decide_eq_false h31
     have HLI := Lib.hid (linear_any (HW1.out.bu.up (Below.refl _ _).drew) hnx1 hvl1 x true (disk := (k : Int)) ⟨by omega, by omega⟩ (n := z) (HZ.out z (List.mem_of_getElem? hzx)))
     go_wp2_with fail
     go_still_tail 18, (by kernel_rfl)
     go_wp2_with fail
     refine HLI.out.mono ?_
     rintro e w5 ⟨ok, β2, vv2, css2, S2, hr, rfl, hbu5, hnx5⟩
     have hnx6 := (HW1.out.nx.below (Below.refl _ _).drew).trans hnx5
     have hoM : Only (Mt bb sb (.slice Av1 β1.g.vols.length cv1) (.slice (some ⟨gn, 0, none⟩) β.next.length cn)) wr w5 := ((Only.refl _ _).drew).trans hnx5.only
     have hkep : w5.ownsRow B 3 1 (.slice AK β.next.length cK) β.next.length (I β.next) := own_only HW1.out.kept hoM (fun q hq => (HW1.out.off q hq).2.2)
     have hoff : ∀ q, (Value.slice AK β.next.length cK).ownBlock = some q → w.heap.size ≤ q ∧ ¬ S2 q ∧ ¬ Mt bb sb vv2 (.slice (some ⟨gn, 0, none⟩) β.next.length cn) q := fun q hq => by
      have hlt := (World.ownsRow.lt HW1.out.kept q hq).2
      exact ⟨(HW1.out.off q hq).1, fun e => (HW1.out.off q hq).2.1 (hnx5.deep q hlt e), fun e => (HW1.out.off q hq).2.2 (hnx5.turn q hlt e)⟩
     obtain ⟨Av2, cv2, rfl, hcv2⟩ := hbu5.vs.form
     obtain ⟨l2, hg2, hl2, hn2⟩ := hr.g
     have hgg : β2.g = { β.g with next := β.g.next + ((names.zip lens).take k).length + 1, vols := β.g.vols ++ (vs1 ++ l2) } := by rw [hg2, HG1.out]; simp only [List.append_assoc]
     cases ok with
     | true =>
      have HNEW := Lib.hid (show HW B S S0 w bb sb β vt vd (.slice Av β.g.vols.length cv) (.slice (some ⟨gn, 0, none⟩) β.next.length cn) (.slice (some an) names.length cN) (.slice (some ai) lens.length cL) (.slice AK β.next.length cK) names lens (k + 1) β2 (.slice Av2 β2.g.vols.length cv2) css2 S2 w5 from
       ⟨by rw [zip_take hx hzx]; exact .snoc HW1.out.ins hr, hbu5, hnx6, hkep, hoff, TL.keep HW1.out.tn (Kept.of_only hoM fun q hq => HW1.out.s0 q hq) (fun _ h => h), IL.keep HW1.out.tl (Kept.of_only hoM fun q hq => HW1.out.s0 q hq) (fun _ h => h),
        fun q hq e => HW1.out.s0 q hq (hnx5.turn q (Nat.lt_of_lt_of_le (HS0.out q hq).1 HW1.out.nx.only.size) e)⟩)
      clear hr hbu5 hnx5 hnx6 hoM hkep hoff hg2 hl2 hn2 hgg
      go_wp2_with fail
      go_roundw
      case rel => exact ⟨k + 1, β2, _, css2, S2, by omega, by go_num, HNEW.out⟩
      case measure => simp [intOf]; omega
     | false =>
      have hb5 := hbu5.blk
      have c8' := hbu5.cells.2.2.2.2.2.2.2.2.1
      have c10' := hbu5.cells.2.2.2.2.2.2.2.2.2.2
      have f8' := hb5.frozen 8
      have f10' := hb5.frozen 10
      have z6 : β.g.vols.length ≤ cv2 := by rw [hgg] at hcv2; simp at hcv2; omega
      have z7 : (β.g.vols.length : Int) ≤ (cv2 : Int) := by omega
      have hkl : β.g.next + (((names.zip lens).take k).length : Int) + 1 ≤ β.g.next + ((names.zip lens).length : Int) := by
       have h1 : (names.zip lens).length = names.length := by rw [List.length_zip]; have := HLEN.out; omega
       rw [List.length_take, h1]
       omega
      have HU := Lib.hid (undo_ret (l := names.zip lens) hbu5 hgg (by omega) hkl hnx6 hkep hoff HOK.out)
      clear hr hbu5 hnx5 hnx6 hoM hkep hoff hg2 hl2 hn2 hgg hb5 hkl
      go_wp2_with fail
      go_ret
      exact HU.out
   ·obtain rfl : k = names.length := by omega
    have hin := HW1.out.ins
    rw [List.take_of_length_le (by rw [List.length_zip]; omega)] at hin
    have HU := Lib.hid (show HidRet B S w bb sb β vt vd (.slice Av β.g.vols.length cv) (.slice (some ⟨gn, 0, none⟩) β.next.length cn) (names.zip lens) (.returned (.bool true)) wr from ⟨true, β1, _, _, css1, S1, .inl ⟨rfl, hin⟩, rfl, HW1.out.bu, HW1.out.nx⟩)
    clear hin
    go_wp2_with fail
    go_ret
    exact HU.out
end Go.Proofs.YtdkcfgahdcpkkaaDoor
