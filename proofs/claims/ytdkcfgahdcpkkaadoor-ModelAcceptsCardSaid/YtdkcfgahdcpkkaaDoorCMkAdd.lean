/- The builder: the closure of compound (printed by genAdd.py). -/
import Derived.Test.YtdkcfgahdcpkkaaDoorCMkApp
set_option linter.all false
namespace Go.Proofs.YtdkcfgahdcpkkaaDoor
open Go.RowKit
set_option maxRecDepth 100000
inductive LinsR : List (ByteArray × Int) → Be → Be → Prop
  | nil (β : Be) : LinsR [] β β
  | snoc {l : List (ByteArray × Int)} {β β1 β2 : Be} {nm : ByteArray} {n : Int} (h : LinsR l β β1) (hr : LinR β1 nm true n true β2) : LinsR (l ++ [(nm, n)]) β β2
theorem LinR.g {β β' : Be} {name : ByteArray} {hid : Bool} {n : Int} {ok : Bool} (h : LinR β name hid n ok β') :
    ∃ l, β'.g = { β.g with next := β.g.next + 1, vols := β.g.vols ++ l } ∧ l.length ≤ 1 ∧ β'.next.length = β.next.length := by
  obtain ⟨_, rfl⟩ | ⟨_, d, a, β2, hr, rfl⟩ := h
  · exact ⟨[], by simp [zK_], by simp, rfl⟩
  · refine ⟨[zP_ name (idB β) hid n a], ?_, by simp, ?_⟩
    · show ({ β2.g with vols := β2.g.vols ++ [zP_ name (idB β) hid n a] } : Gr) = _
      rw [AreaR.g hr];rfl
    · obtain ⟨dk, z, _, _, ⟨_, h, _⟩ | ⟨_, _, _, _, _, h⟩⟩ := hr
      · show β2.next.length = _
        rw [h]; rfl
      · show β2.next.length = _
        rw [h]; simp [zK_]
theorem LinsR.g {l : List (ByteArray × Int)} {β β' : Be} (h : LinsR l β β') :
    ∃ vs, β'.g = { β.g with next := β.g.next + l.length, vols := β.g.vols ++ vs } ∧ vs.length ≤ l.length ∧ β'.next.length = β.next.length := by
  induction h with
  | nil => exact ⟨[], by simp, by simp, rfl⟩
  | snoc _ hr ih =>
    obtain ⟨vs, h1, h2, h3⟩ := ih;obtain ⟨ws, h4, h5, h6⟩ := hr.g;refine ⟨vs ++ ws, ?_, by simp; omega, h6.trans h3⟩;rw [h4, h1];simp only [List.length_append, List.length_singleton, List.append_assoc];congr 1
    omega
def HidR (β : Be) (l : List (ByteArray × Int)) (ok : Bool) (β' : Be) : Prop :=
  (ok = true ∧ LinsR l β β') ∨ (ok = false ∧ ∃ m, β.g.next ≤ m ∧ m ≤ β.g.next + l.length ∧ β' = ⟨{ β.g with next := m }, β.next⟩)
theorem HidR.g {l : List (ByteArray × Int)} {β β' : Be} {ok : Bool} (h : HidR β l ok β') :
    ∃ vs m, β'.g = { β.g with next := m, vols := β.g.vols ++ vs } ∧ β.g.next ≤ m ∧ m ≤ β.g.next + l.length ∧ vs.length ≤ l.length ∧ β'.next.length = β.next.length := by
  obtain ⟨_, h⟩ | ⟨_, m, h1, h2, rfl⟩ := h
  · obtain ⟨vs, h1, h2, h3⟩ := h.g
    exact ⟨vs, _, h1, by omega, by omega, h2, h3⟩
  · exact ⟨[], m, by simp, h1, h2, by simp, rfl⟩
section
variable {S S' M M' : Nat → Prop} {w w' : World}
end
section
variable {B : Nat} {S : Nat → Prop} {w : World} {bb sb : Nat} {β : Be} {vt vd vn vn2 : Value} {css : List (List Value)} {A : Option Addr} {c : Nat}
theorem xZ_ (A : Option Addr) (n m c : Nat) : (Value.slice A n c).ownBlock = (Value.slice A m c).ownBlock := by cases A <;> rfl
theorem BU.undo {k : Nat} {nx2 : List Int} (h : BU B S w bb sb β vt vd (.slice A β.g.vols.length c) vn css) (hk : k ≤ β.g.vols.length) (ho : w.ownsRow B 3 1 vn2 nx2.length (I nx2))
    (h1 : ∀ q, vn2.ownBlock = some q → ¬ S q ∧ q ≠ bb ∧ q ≠ sb ∧ (Value.slice A β.g.vols.length c).ownBlock ≠ some q) (hok : BeOk ⟨{ β.g with vols := β.g.vols.take k }, nx2⟩) :
    BU B S ((w.setCell ⟨bb, 8, none⟩ (.slice A k c)).setCell ⟨bb, 10, none⟩ vn2) bb sb ⟨{ β.g with vols := β.g.vols.take k }, nx2⟩ vt vd (.slice A k c) vn2 (css.take k) ∧ Only (Mt bb sb (.slice A β.g.vols.length c) vn) w ((w.setCell ⟨bb, 8, none⟩ (.slice A k c)).setCell ⟨bb, 10, none⟩ vn2) := by
  have ho2 : Only (· = bb) w ((w.setCell ⟨bb, 8, none⟩ (.slice A k c)).setCell ⟨bb, 10, none⟩ vn2) := ((Only.refl (· = bb) w).setCell (p := ⟨bb, 8, none⟩) (.inl rfl) _).setCell (p := ⟨bb, 10, none⟩) (.inl rfl) _;have hst : ∀ q, S q → ¬ q = bb := fun q hq e => h.sd q hq (.inl e);have hvk := xZ_ A β.g.vols.length k c;have hkl : (β.g.vols.take k).length = k := by rw [List.length_take]; omega
  have htk := h.vs.take voL k hk;refine ⟨⟨(h.blk.set_ 8 _).set_ 10 _, h.src.only ho2 (fun e => h.d1 e.symm) (fun q e => e ▸ h.low), TL.keep h.tl (Kept.of_only ho2 hst) (fun _ h => h), DL.keep h.dl (Kept.of_only ho2 hst) (fun _ h => h), ?_, zb_ ho ho2 (fun q hq e => (h1 q hq).2.1 e), ?_, h.low, h.d1, ?_, ?_, ?_, h.hist, hok⟩, ho2.mono fun _ _ e => .inl e⟩
  · exact htk.only voL ho2 (fun q hq e => h.d2.1 (by rw [hvk, ← e]; exact hq)) hst (fun _ h => h)
  · rintro q hq (e | e | e | e)
    · exact h.sd q hq (.inl e)
    · exact h.sd q hq (.inr (.inl e))
    · exact h.sd q hq (.inr (.inr (.inl (by rw [hvk]; exact e))))
    · exact (h1 q e).1 hq
  · rw [← hvk]; exact h.d2
  · exact ⟨fun e => (h1 _ e).2.1 rfl, fun e => (h1 _ e).2.2.1 rfl⟩
  · intro q hq e
    rw [← hvk] at hq;exact (h1 q e).2.2.2 hq
end
def Xx_ (B : Nat) (S : Nat → Prop) (w : World) (bb sb : Nat) (β : Be) (vt vd vv vn : Value) (l : List (ByteArray × Int)) (e : Ending) (w' : World) : Prop :=
  ∃ ok β' vv' vn' css' S', HidR β l ok β' ∧ e = .returned (.bool ok) ∧ BU B S' w' bb sb β' vt vd vv' vn' css' ∧ Nx S (Mt bb sb vv vn) w S' (Mt bb sb vv' vn') w'
theorem kM_ {B : Nat} {S S2 : Nat → Prop} {w w2 : World} {bb sb : Nat} {β β2 : Be} {vt vd vv vn vK : Value} {css2 : List (List Value)} {A : Option Addr} {c : Nat} {m : Int} {vs : List Vo} {l : List (ByteArray × Int)} (hbu : BU B S2 w2 bb sb β2 vt vd (.slice A β2.g.vols.length c) vn css2)
    (hg : β2.g = { β.g with next := m, vols := β.g.vols ++ vs }) (h1 : β.g.next ≤ m) (h2 : m ≤ β.g.next + l.length) (hnx : Nx S (Mt bb sb vv vn) w S2 (Mt bb sb (.slice A β2.g.vols.length c) vn) w2) (hk : w2.ownsRow B 3 1 vK β.next.length (I β.next))
    (hoff : ∀ k, vK.ownBlock = some k → w.heap.size ≤ k ∧ ¬ S2 k ∧ ¬ Mt bb sb (.slice A β2.g.vols.length c) vn k) (hok : BeOk β) :
    Xx_ B S w bb sb β vt vd vv vn l (.returned (.bool false)) ((w2.setCell ⟨bb, 8, none⟩ (.slice A β.g.vols.length c)).setCell ⟨bb, 10, none⟩ vK) := by
  have hvl : β2.g.vols = β.g.vols ++ vs := by rw [hg]
  have hle : β.g.vols.length ≤ β2.g.vols.length := by rw [hvl]; simp
  have he : (⟨{ β2.g with vols := β2.g.vols.take β.g.vols.length }, β.next⟩ : Be) = ⟨{ β.g with next := m }, β.next⟩ := by
    rw [hvl, List.take_left, hg]
  have hok2 : BeOk ⟨{ β.g with next := m }, β.next⟩ := ⟨hok.nd, hok.nn, hok.ext, hok.nz, hok.ex⟩;obtain ⟨hb, ho⟩ := hbu.undo hle hk (fun q hq => ⟨(hoff q hq).2.1, fun e => (hoff q hq).2.2 (.inl e), fun e => (hoff q hq).2.2 (.inr (.inl e)), fun e => (hoff q hq).2.2 (.inr (.inr (.inl e)))⟩) (by rw [he]; exact hok2);rw [he] at hb;refine ⟨false, _, _, _, _, _, .inr ⟨rfl, m, h1, h2, rfl⟩, rfl, hb, ⟨hnx.only.trans_ ho (fun k hk e => hnx.turn k hk e), hnx.deep, fun k hlt e => ?_⟩⟩;rcases e with e | e | e | e
  · exact .inl e
  · exact .inr (.inl e)
  · exact hnx.turn k hlt (.inr (.inr (.inl (by rw [xZ_ A _ β.g.vols.length c]; exact e))))
  · have := (hoff k e).1
    omega
structure HW (B : Nat) (S S0 : Nat → Prop) (w : World) (bb sb : Nat) (β : Be) (vt vd vv vn vN vL vK : Value) (names : List ByteArray) (lens : List Int) (i : Nat) (β1 : Be) (vv1 : Value) (css1 : List (List Value)) (S1 : Nat → Prop) (wx : World) : Prop where
  ins : LinsR ((names.zip lens).take i) β β1
  bu : BU B S1 wx bb sb β1 vt vd vv1 vn css1
  nx : Nx S (Mt bb sb vv vn) w S1 (Mt bb sb vv1 vn) wx
  kept : wx.ownsRow B 3 1 vK β.next.length (I β.next)
  off : ∀ k, vK.ownBlock = some k → w.heap.size ≤ k ∧ ¬ S1 k ∧ ¬ Mt bb sb vv1 vn k
  tn : TL wx S0 vN names
  tl : IL wx S0 vL lens
  s0 : ∀ k, S0 k → ¬ Mt bb sb vv1 vn k
theorem XB_ {names : List ByteArray} {lens : List Int} {i : Nat} {x : ByteArray} {z : Int} (hx : names[i]? = some x) (hz : lens[i]? = some z) : (names.zip lens).take (i + 1) = (names.zip lens).take i ++ [(x, z)] := by
  have h : (names.zip lens)[i]? = some (x, z) := by rw [List.getElem?_zip_eq_some]; exact ⟨hx, hz⟩
  rw [List.take_add_one, h];rfl
set_option maxHeartbeats 16000000 in
theorem y9_ {B : Nat} {S S0 : Nat → Prop} {w : World} {bb sb : Nat} {β : Be} {vt vd vv vn : Value} {css : List (List Value)} (h : BU B S w bb sb β vt vd vv vn css) (hnx : 0 ≤ β.g.next ∧ β.g.next ≤ 900000) (hvl : β.g.vols.length ≤ 900)
    {vN vL : Value} {names : List ByteArray} {lens : List Int} (hN : TL w S0 vN names) (hL : IL w S0 vL lens) (hlen : lens.length = names.length) (hle : names.length ≤ 10) (hz : ∀ z ∈ lens, 0 ≤ z ∧ z ≤ 1000) (hs0 : ∀ k, S0 k → k < w.heap.size ∧ ¬ Mt bb sb vv vn k) :
    Calls Tryd.prog 68 #[.pointer (some ⟨bb, 0, none⟩), vN, vL] w (Xx_ B S w bb sb β vt vd vv vn (names.zip lens)) := by
  obtain ⟨AN, cN, rfl⟩ := hN.form;obtain ⟨AL_, cL, rfl⟩ := hL.form;obtain ⟨gn, cn, rfl, hcn⟩ := xj_ h.nx (by have := h.ok.nn; have := h.ok.nd; omega);obtain ⟨Av, cv, rfl, hcv⟩ := h.vs.form;obtain ⟨i0, hi0, hy0, hy1, hy2⟩ := info_parts j4_;have H := hD h;have HN := hD hN;have HL := hD hL;have HLEN := hD hlen;have HS0 := hD hs0;have HZ := hD hz;have HOK := hD h.ok;have HDR := hD (h.up (Below.refl _ _).drew);have hnl : β.next.length ≤ 4 := by have := h.ok.nn; have := h.ok.nd; omega
  have HKS := hD (fun k => (h.mlt (k := k)));clear h hN hL hlen hs0 hz;go_enter Tryd.func68, Tryd.ntmps68
  go_wp2_with fail
  go_cut [7, 8] (fun v7 v8 wx => ∃ vK, v7 = .int .i64 (β.g.vols.length : Int) ∧ v8 = vK ∧ HW B S S0 w bb sb β vt vd (.slice Av β.g.vols.length cv) (.slice (some ⟨gn, 0, none⟩) β.next.length cn) (.slice AN names.length cN) (.slice AL_ lens.length cL) vK names lens 0 β (.slice Av β.g.vols.length cv) css (fun k => S k ∧ k < w.heap.size) wx)
  case first =>
    refine wp_region_held_drew (S := fun w' => w'.cell? ⟨bb, 8, none⟩ = some (.slice Av β.g.vols.length cv) ∧ w'.cell? ⟨bb, 10, none⟩ = some (.slice (some ⟨gn, 0, none⟩) β.next.length cn)) (by kernel_rfl) ⟨HDR.out.cells.2.2.2.2.2.2.2.2.1, HDR.out.cells.2.2.2.2.2.2.2.2.2.2⟩ (fun hHeld => ?_);refine wpAnyH_take (i := 0) (oi := ⟨some 10, _, _, _, _, _⟩) (v := ?_) rfl (by kernel_rfl) (by kernel_rfl) (by kernel_rfl) (fun _ _ _ h => h) (Or.inl ⟨by rfl, ?_⟩) (by assumption) ?_;rotate_left 1
    · (intro w hSw; (try dsimp only at hSw); go_simp; try with_reducible rfl)
    simp only [Act.put, tS];refine wpAnyH_take (i := 1) (oi := ⟨some 11, _, _, _, _, _⟩) (v := ?_) rfl (by kernel_rfl) (by kernel_rfl) (by kernel_rfl) (fun _ _ _ h => h) (Or.inl ⟨by rfl, ?_⟩) (by assumption) ?_;rotate_left 1
    · (intro w hSw; (try dsimp only at hSw); go_simp; try with_reducible rfl)
    simp only [Act.put, tS];refine wpAnyH_take (i := 2) (oi := ⟨some 12, _, _, _, _, _⟩) (v := ?_) rfl (by kernel_rfl) (by kernel_rfl) (by kernel_rfl) (fun _ _ _ h => h) (Or.inl ⟨by rfl, ?_⟩) (by assumption) ?_;rotate_left 1
    · (intro w hSw; (try dsimp only at hSw); go_simp; try with_reducible rfl)
    simp only [Act.put, tS];refine wpAnyH_take (i := 3) (oi := ⟨some 13, _, _, _, _, _⟩) (v := ?_) rfl (by kernel_rfl) (by kernel_rfl) (by kernel_rfl) (fun _ _ _ h => h) (Or.inl ⟨by rfl, ?_⟩) (by assumption) ?_;rotate_left 1
    · (intro w hSw; (try dsimp only at hSw); go_simp; try with_reducible rfl)
    simp only [Act.put, tS];refine wpAnyH_take (i := 4) (oi := ⟨some 14, _, _, _, _, _⟩) (v := ?_) rfl (by kernel_rfl) (by kernel_rfl) (by kernel_rfl) (fun _ _ _ h => h) (Or.inl ⟨by rfl, ?_⟩) (by assumption) ?_;rotate_left 1
    · (intro w hSw; (try dsimp only at hSw); go_simp; try with_reducible rfl)
    simp only [Act.put, tS];refine wpAnyH_take (i := 5) (oi := ⟨some 15, _, _, _, _, _⟩) (v := ?_) rfl (by kernel_rfl) (by kernel_rfl) (by kernel_rfl) (fun _ _ _ h => h) (Or.inl ⟨by rfl, ?_⟩) (by assumption) ?_;rotate_left 1
    · (intro w hSw; (try dsimp only at hSw); go_simp; try with_reducible rfl)
    simp only [Act.put, tS];refine wpAnyH_take (i := 6) (oi := ⟨some 16, _, _, _, _, _⟩) (v := ?_) rfl (by kernel_rfl) (by kernel_rfl) (by kernel_rfl) (fun _ _ _ h => h) (Or.inl ⟨by rfl, ?_⟩) (by assumption) ?_;rotate_left 1
    · (intro w hSw; (try dsimp only at hSw); go_simp; try with_reducible rfl)
    simp only [Act.put, tS];refine wpAnyH_take (i := 7) (oi := ⟨some 17, _, _, _, _, _⟩) (v := ?_) rfl (by kernel_rfl) (by kernel_rfl) (by kernel_rfl) (fun _ _ _ h => h) (Or.inl ⟨by rfl, ?_⟩) (by assumption) ?_;rotate_left 1
    · (intro w hSw; (try dsimp only at hSw); go_simp; try with_reducible rfl)
    simp only [Act.put, tS];refine wpAnyH_take (i := 8) (oi := ⟨some 18, _, _, _, _, _⟩) (v := ?_) rfl (by kernel_rfl) (by kernel_rfl) (by kernel_rfl) (fun _ _ _ h => h) (Or.inl ⟨by rfl, ?_⟩) (by assumption) ?_;rotate_left 1
    · (intro w hSw; (try dsimp only at hSw); go_simp; try with_reducible rfl)
    simp only [Act.put, tS];refine wpAnyH_take (i := 9) (oi := ⟨some 19, _, _, _, _, _⟩) (v := ?_) rfl (by kernel_rfl) (by kernel_rfl) (by kernel_rfl) (fun _ _ _ h => h) (Or.inl ⟨by rfl, ?_⟩) (by assumption) ?_;rotate_left 1
    · (intro w hSw; (try dsimp only at hSw); go_simp; try with_reducible rfl)
    simp only [Act.put, tS];refine wpAnyH_all (rs := [10]) (by kernel_rfl) (by simp) (fun i hi => ?_);obtain rfl : i = 10 := by simpa using hi
    refine wpOp_step (o := ⟨some 20, _, _, _, _, _⟩) rfl (fun K' hK' => ?_);refine zh_ (o := ⟨some 20, _, _, _, _, _⟩) _ rfl (.const (.slice none 0 0)) (.tmp 19) 22 rfl B 3 i0 _ 1 8 Tryd.underlying22 hi0 hy0 hy1 hy2 rfl (by decide) (.slice none 0 0) 0 [] rfl (World.ownsRow_nil _ _ _ _) _ (some ⟨gn, 0, none⟩) β.next.length cn (I β.next) rfl (Reads.of_own HDR.out.nx) (by intro u hu; simp [I] at hu; obtain ⟨z, _, rfl⟩ := hu; rfl) (by unfold maxLen; omega) (by omega) HDR.out.base ?_;intro v8 w8 ho8 hg8 hd8;rw [Nat.zero_add, List.nil_append] at ho8
    have hf8 : ∀ k, v8.ownBlock = some k → k = w.heap.size := fun k e => by
      rcases hd8 with hd | hd
      · rw [hd] at e; cases e
      · rw [hd] at e; injection e with e; exact e.symm
    have hO8 : Only (fun _ => False) w.drew w8 := (Only.refl (fun _ => False) _).grown hg8 (fun k e => by rw [show (Value.slice none 0 0).ownBlock = none from rfl] at e; cases e);have hb8 := (HDR.out.lowS.far hO8 (fun _ h => h.elim) (fun _ h => h.elim) (fun _ h => h.elim));obtain ⟨A8, c8, e8⟩ := z1_ ho8
    have HST := hD (show HW B S S0 w bb sb β vt vd (.slice Av β.g.vols.length cv) (.slice (some ⟨gn, 0, none⟩) β.next.length cn) (.slice AN names.length cN) (.slice AL_ lens.length cL) v8 names lens 0 β (.slice Av β.g.vols.length cv) css (fun k => S k ∧ k < w.heap.size) w8 from
      ⟨by rw [List.take_zero]; exact .nil β, hb8, (Nx.low (Only.refl _ _)).trans (Nx.same (((Only.refl _ _).drew).trans (hO8.mono fun _ _ h => h.elim))), ho8, fun k e => by rw [hf8 k e]; exact ⟨Nat.le_refl _, fun h => by have := h.2; omega, fun h => by have := (HKS.out _ h).2; omega⟩,
        TL.keep HN.out (Kept.of_only (((Only.refl _ _).drew).trans hO8) fun _ _ h => h) (fun _ h => h), IL.keep HL.out (Kept.of_only (((Only.refl _ _).drew).trans hO8) fun _ _ h => h) (fun _ h => h), fun k hk => (HS0.out k hk).2⟩)
    have hHeld2 := (show w8.cell? ⟨bb, 8, none⟩ = some (.slice Av β.g.vols.length cv) ∧ w8.cell? ⟨bb, 10, none⟩ = some (.slice (some ⟨gn, 0, none⟩) β.next.length cn) from ⟨hb8.cells.2.2.2.2.2.2.2.2.1, hb8.cells.2.2.2.2.2.2.2.2.2.2⟩);subst e8;clear ho8 hg8 hd8 hf8 hO8 hb8 hHeld;refine hK' _ _ ⟨hHeld2, ?_⟩;simp only [Act.put, upd, Nat.reduceAdd, Nat.reduceBEq, tS];refine wpAnyH_take (i := 11) (oi := ⟨some 7, _, _, _, _, _⟩) (v := ?_) rfl (by kernel_rfl) (by kernel_rfl) (by kernel_rfl) (fun _ _ _ h => h) (Or.inl ⟨by rfl, ?_⟩) (by assumption) ?_;rotate_left 1
    · (intro w hSw; (try dsimp only at hSw); go_simp; try with_reducible rfl)
    simp only [Act.put, tS];refine wpAnyH_take (i := 12) (oi := ⟨some 8, _, _, _, _, _⟩) (v := ?_) rfl (by kernel_rfl) (by kernel_rfl) (by kernel_rfl) (fun _ _ _ h => h) (Or.inl ⟨by rfl, ?_⟩) (by assumption) ?_;rotate_left 1
    · (intro w hSw; (try dsimp only at hSw); go_simp; try with_reducible rfl)
    simp only [Act.put, tS];refine wpAnyH_done (by kernel_rfl) ?_ _;go_wp2_with fail
    go_meet
    case rel => exact ⟨_, rfl, rfl, HST.out⟩
  case rest =>
    obtain ⟨vK, rfl, rfl, hw0⟩ := hcut;have HST := hD hw0;clear hw0;obtain ⟨AK, cK, rfl, _⟩ := zx_ HST.out.kept;go_wp2_with fail
    go_loopw [9] (fun i wx => ∃ (k : Nat) (β1 : Be) (vv1 : Value) (css1 : List (List Value)) (S1 : Nat → Prop), k ≤ names.length ∧ i = .int .i64 (k : Int) ∧ HW B S S0 w bb sb β vt vd (.slice Av β.g.vols.length cv) (.slice (some ⟨gn, 0, none⟩) β.next.length cn) (.slice AN names.length cN) (.slice AL_ lens.length cL) (.slice AK β.next.length cK) names lens k β1 vv1 css1 S1 wx) (fun i _ => names.length - (intOf i).toNat)
    case atStart => exact ⟨0, _, _, _, _, Nat.zero_le _, rfl, HST.out⟩
    case round =>
      clear HST;obtain ⟨k, β1, vv1, css1, S1, hk, rfl, hw⟩ := hrel;have hbu := hw.bu;obtain ⟨Av1, cv1, rfl, hcv1⟩ := hbu.vs.form;obtain ⟨vs1, hg1, hv1, hn1⟩ := hw.ins.g;have hzl : ((names.zip lens).take k).length ≤ 10 := by rw [List.length_take, List.length_zip]; omega
      have hvl1 : β1.g.vols.length ≤ 1000 := by rw [hg1]; simp; omega
      have hnx1 : 0 ≤ β1.g.next ∧ β1.g.next ≤ 1000000 := by rw [hg1]; show 0 ≤ β.g.next + _ ∧ β.g.next + _ ≤ _; omega
      obtain ⟨c0, c1, c2, c3, c4, c5, c6, c7, c8, c9, c10⟩ := hbu.cells;have f8 := hbu.blk.frozen 8;have f10 := hbu.blk.frozen 10;have HW1 := hD hw;have HG1 := hD hg1;have HVLE := hD (show β.g.vols.length ≤ cv1 by have h1 : β1.g.vols.length ≤ cv1 := hcv1; rw [hg1] at h1; simp at h1; omega);have HZL := hD (show ((names.zip lens).take k).length ≤ (names.zip lens).length by rw [List.length_take]; omega);have HV1 := hD hv1;clear hw hbu hg1 hv1 hn1;by_cases hlt : k < names.length
      · have z0 : (k : Int) < (names.length : Int) := by omega
        have z1 : (0 : Int) ≤ (k : Int) := by omega
        have z2 : (k : Int) < (lens.length : Int) := by have := HLEN.out; omega
        obtain ⟨an, x, rfl, hx, _, hal, ht⟩ := HW1.out.tn.cell hlt;obtain ⟨ai, z, rfl, hzx, _, hil, hi⟩ := HW1.out.tl.cell (k := k) (by have := HLEN.out; omega);have z3 : (0 : Int) ≤ (β.g.vols.length : Int) := by omega
        have z4 : β.g.vols.length ≤ cv1 := by have := HVLE.out; omega
        have z5 : (β.g.vols.length : Int) ≤ (cv1 : Int) := by omega
        by_cases h31 : (31 : Int) ≤ (β1.g.vols.length : Int)
        · have t31 : decide ((31 : Int) ≤ (β1.g.vols.length : Int)) = true := decide_eq_true h31
          go_wp2_with fail
          go_quiet (fail)
          have HQ := hD (zg_ (Below.refl wr.heap.size wr) nq);have k8 := bkeep HQ.out c8;have HU := hD (kM_ (l := names.zip lens) (HW1.out.bu.up HQ.out) HG1.out (by omega) (by have := HZL.out; omega) (HW1.out.nx.below HQ.out) (zb_ HW1.out.kept (Only.of_below (fun _ => False) HQ.out) (fun _ _ h => h)) HW1.out.off HOK.out);go_wp2_with fail
          go_ret
          exact HU.out
        · have t31 : decide ((31 : Int) ≤ (β1.g.vols.length : Int)) = false := decide_eq_false h31
          have HLI := hD (ZM_ (HW1.out.bu.up (Below.refl _ _).drew) hnx1 hvl1 x true (disk := (k : Int)) ⟨by omega, by omega⟩ (n := z) (HZ.out z (List.mem_of_getElem? hzx)));go_wp2_with fail
          go_still_tail 18, (by kernel_rfl)
          go_wp2_with fail
          refine HLI.out.mono ?_;rintro e w5 ⟨ok, β2, vv2, css2, S2, hr, rfl, hbu5, hnx5⟩;have hnx6 := (HW1.out.nx.below (Below.refl _ _).drew).trans hnx5;have hoM : Only (Mt bb sb (.slice Av1 β1.g.vols.length cv1) (.slice (some ⟨gn, 0, none⟩) β.next.length cn)) wr w5 := ((Only.refl _ _).drew).trans hnx5.only;have hkep : w5.ownsRow B 3 1 (.slice AK β.next.length cK) β.next.length (I β.next) := zb_ HW1.out.kept hoM (fun q hq => (HW1.out.off q hq).2.2)
          have hoff : ∀ q, (Value.slice AK β.next.length cK).ownBlock = some q → w.heap.size ≤ q ∧ ¬ S2 q ∧ ¬ Mt bb sb vv2 (.slice (some ⟨gn, 0, none⟩) β.next.length cn) q := fun q hq => by
            have hlt := (World.ownsRow.lt HW1.out.kept q hq).2;exact ⟨(HW1.out.off q hq).1, fun e => (HW1.out.off q hq).2.1 (hnx5.deep q hlt e), fun e => (HW1.out.off q hq).2.2 (hnx5.turn q hlt e)⟩
          obtain ⟨Av2, cv2, rfl, hcv2⟩ := hbu5.vs.form;obtain ⟨l2, hg2, hl2, hn2⟩ := hr.g;have hgg : β2.g = { β.g with next := β.g.next + ((names.zip lens).take k).length + 1, vols := β.g.vols ++ (vs1 ++ l2) } := by rw [hg2, HG1.out]; simp only [List.append_assoc]
          cases ok with
          | true =>
            have HNEW := hD (show HW B S S0 w bb sb β vt vd (.slice Av β.g.vols.length cv) (.slice (some ⟨gn, 0, none⟩) β.next.length cn) (.slice (some an) names.length cN) (.slice (some ai) lens.length cL) (.slice AK β.next.length cK) names lens (k + 1) β2 (.slice Av2 β2.g.vols.length cv2) css2 S2 w5 from
              ⟨by rw [XB_ hx hzx]; exact .snoc HW1.out.ins hr, hbu5, hnx6, hkep, hoff, TL.keep HW1.out.tn (Kept.of_only hoM fun q hq => HW1.out.s0 q hq) (fun _ h => h), IL.keep HW1.out.tl (Kept.of_only hoM fun q hq => HW1.out.s0 q hq) (fun _ h => h),
                fun q hq e => HW1.out.s0 q hq (hnx5.turn q (Nat.lt_of_lt_of_le (HS0.out q hq).1 HW1.out.nx.only.size) e)⟩)
            clear hr hbu5 hnx5 hnx6 hoM hkep hoff hg2 hl2 hn2 hgg;go_wp2_with fail
            go_roundw
            case rel => exact ⟨k + 1, β2, _, css2, S2, by omega, by go_num, HNEW.out⟩
            case measure => simp [intOf]; omega
          | false =>
            have hb5 := hbu5.blk;have c8' := hbu5.cells.2.2.2.2.2.2.2.2.1;have c10' := hbu5.cells.2.2.2.2.2.2.2.2.2.2;have f8' := hb5.frozen 8;have f10' := hb5.frozen 10;have z6 : β.g.vols.length ≤ cv2 := by rw [hgg] at hcv2; simp at hcv2; omega
            have z7 : (β.g.vols.length : Int) ≤ (cv2 : Int) := by omega
            have hkl : β.g.next + (((names.zip lens).take k).length : Int) + 1 ≤ β.g.next + ((names.zip lens).length : Int) := by
              have h1 : (names.zip lens).length = names.length := by rw [List.length_zip]; have := HLEN.out; omega
              rw [List.length_take, h1];omega
            have HU := hD (kM_ (l := names.zip lens) hbu5 hgg (by omega) hkl hnx6 hkep hoff HOK.out);clear hr hbu5 hnx5 hnx6 hoM hkep hoff hg2 hl2 hn2 hgg hb5 hkl;go_wp2_with fail
            go_ret
            exact HU.out
      · obtain rfl : k = names.length := by omega
        have hin := HW1.out.ins;rw [List.take_of_length_le (by rw [List.length_zip]; omega)] at hin;have HU := hD (show Xx_ B S w bb sb β vt vd (.slice Av β.g.vols.length cv) (.slice (some ⟨gn, 0, none⟩) β.next.length cn) (names.zip lens) (.returned (.bool true)) wr from ⟨true, β1, _, _, css1, S1, .inl ⟨rfl, hin⟩, rfl, HW1.out.bu, HW1.out.nx⟩);clear hin;go_wp2_with fail
        go_ret
        exact HU.out
theorem zS_ {w : World} {base base' k k' n n' : Nat} {e e' : TypeId} {v v' : Value} {xs xs' : List Value} (h : w.ownsRow base e k v n xs) (h' : w.ownsRow base' e' k' v' n' xs') (hne : e ≠ e') : ∀ g, v.ownBlock = some g → ¬ v'.ownBlock = some g := fun g hg hg' => by
  rcases h.2 with ⟨rfl, _⟩ | ⟨a, cap, cur, rfl, _, h1, _⟩
  · cases hg
  rcases h'.2 with ⟨rfl, _⟩ | ⟨b, cap', cur', rfl, _, h2, _⟩
  · cases hg'
  injection hg with e1;injection hg' with e2;have e1' : a = g := e1;have e2' : b = g := e2;subst e1' e2';rw [h1] at h2;injection h2 with h2;injection h2 with _ h2;exact hne h2
def aC (l : List Ar) : List Value := (l.map fun x => (arA x).toList).flatten
theorem JA_ (l : List Ar) (x : Ar) : aC (l ++ [x]) = aC l ++ (arA x).toList := by simp [aC]
theorem T_snoc (l : List ByteArray) (x : ByteArray) : T (l ++ [x]) = T l ++ [.string x] := by simp [T]
theorem QE_ (l : List Int) (x : Int) : I (l ++ [x]) = I l ++ [.int .i64 x] := by simp [I]
structure CP (W : Nat) (w : World) (xb nb lb : Nat) (xl xk xc xm : Int) (xg : ByteArray) (vN vL vA : Value) (names : List ByteArray) (lens : List Int) (areas : List Ar) : Prop where
  xblk : Blk w xb 58 #[.int .i64 0, .int .i64 xl, .int .i64 xk, vA, .int .i64 xc, .slice none 0 0, .string xg, .string ⟨#[]⟩, .int .i64 0, .int .i64 xm, .int .i64 0]
  nblk : Blk w nb 26 #[vN]
  lblk : Blk w lb 22 #[vL]
  nrow : w.ownsRow W 9 1 vN names.length (T names)
  lrow : w.ownsRow W 3 1 vL lens.length (I lens)
  arow : w.ownsRow W 60 3 vA areas.length (aC areas)
  low : xb < W ∧ nb < W ∧ lb < W ∧ xb ≠ nb ∧ xb ≠ lb ∧ nb ≠ lb ∧ W ≤ w.heap.size
def CM (W xb nb lb : Nat) (k : Nat) : Prop := k = xb ∨ k = nb ∨ k = lb ∨ W ≤ k
theorem CP.only {F : Nat → Prop} {W : Nat} {w w' : World} {xb nb lb : Nat} {xl xk xc xm : Int} {xg : ByteArray} {vN vL vA : Value} {names : List ByteArray} {lens : List Int} {areas : List Ar} (h : CP W w xb nb lb xl xk xc xm xg vN vL vA names lens areas) (ho : Only F w w') (hF : ∀ k, F k → ¬ CM W xb nb lb k) : CP W w' xb nb lb xl xk xc xm xg vN vL vA names lens areas :=
  ⟨h.xblk.only ho (fun e => hF _ e (.inl rfl)), h.nblk.only ho (fun e => hF _ e (.inr (.inl rfl))), h.lblk.only ho (fun e => hF _ e (.inr (.inr (.inl rfl)))),
    zb_ h.nrow ho (fun k hk e => hF k e (.inr (.inr (.inr (World.ownsRow.lt h.nrow k hk).1)))), zb_ h.lrow ho (fun k hk e => hF k e (.inr (.inr (.inr (World.ownsRow.lt h.lrow k hk).1)))), zb_ h.arow ho (fun k hk e => hF k e (.inr (.inr (.inr (World.ownsRow.lt h.arow k hk).1)))),
    ⟨h.low.1, h.low.2.1, h.low.2.2.1, h.low.2.2.2.1, h.low.2.2.2.2.1, h.low.2.2.2.2.2.1, Nat.le_trans h.low.2.2.2.2.2.2 ho.size⟩⟩
structure AF (W : Nat) (wr : World) (xb nb lb : Nat) (xl xk xc xm : Int) (xg : ByteArray) (vN vL vA : Value) (names : List ByteArray) (lens : List Int) (areas : List Ar) (s : ByteArray) (z : Int) (d : Nat → Bool) (x : Nat → Value) (w : World) : Prop where
  xblk : Blk w xb 58 #[.int .i64 0, .int .i64 xl, .int .i64 xk, vA, .int .i64 xc, .slice none 0 0, .string xg, .string ⟨#[]⟩, .int .i64 0, .int .i64 xm, .int .i64 0]
  nblk : Blk w nb 26 #[vN]
  lblk : Blk w lb 22 #[vL]
  arow : w.ownsRow W 60 3 vA areas.length (aC areas)
  low : xb < W ∧ nb < W ∧ lb < W ∧ xb ≠ nb ∧ xb ≠ lb ∧ nb ≠ lb ∧ W ≤ w.heap.size
  on : Only (fun k => W ≤ k) wr w
  bn : ∀ k, vN.ownBlock = some k → k < wr.heap.size
  bl : ∀ k, vL.ownBlock = some k → k < wr.heap.size
  n0 : d 2 = false → w.ownsRow W 9 1 vN names.length (T names)
  n1 : d 2 = true → w.ownsRow W 9 1 (x 2) (names.length + 1) (T (names ++ [s]))
  l0 : d 5 = false → w.ownsRow W 3 1 vL lens.length (I lens)
  l1 : d 5 = true → w.ownsRow W 3 1 (x 5) (lens.length + 1) (I (lens ++ [z]))
  f0 : d 0 = true → x 0 = vN
  f1 : d 1 = true → d 2 = false → ∃ g, x 1 = .slice (some ⟨g, 0, none⟩) 1 1 ∧ wr.heap.size ≤ g ∧ Blk w g 9 #[.string s]
  f3 : d 3 = true → x 3 = vL
  f4 : d 4 = true → d 5 = false → ∃ g, x 4 = .slice (some ⟨g, 0, none⟩) 1 1 ∧ wr.heap.size ≤ g ∧ Blk w g 3 #[.int .i64 z]
section
variable {W : Nat} {wr w w' : World} {xb nb lb : Nat} {xl xk xc xm : Int} {xg : ByteArray} {vN vL vA v8 : Value} {names : List ByteArray} {lens : List Int} {areas : List Ar} {s : ByteArray} {z : Int} {d : Nat → Bool} {x : Nat → Value}
theorem tf {b : Bool} (h1 : b = true) (h2 : b = false) {P : Prop} : P := by rw [h1] at h2; cases h2
theorem AF.start (h : CP W wr xb nb lb xl xk xc xm xg vN vL vA names lens areas) (x : Nat → Value) : AF W wr xb nb lb xl xk xc xm xg vN vL vA names lens areas s z none_ x wr.drew :=
  ⟨h.xblk.drewN 1, h.nblk.drewN 1, h.lblk.drewN 1, zb_ h.arow ((Only.refl (fun _ => False) _).drew) (fun _ _ h => h), h.low, (Only.refl _ _).drew, fun k hk => (World.ownsRow.lt h.nrow k hk).2, fun k hk => (World.ownsRow.lt h.lrow k hk).2,
    fun _ => zb_ h.nrow ((Only.refl (fun _ => False) _).drew) (fun _ _ h => h), (fun e => by cases e), fun _ => zb_ h.lrow ((Only.refl (fun _ => False) _).drew) (fun _ _ h => h), (fun e => by cases e), (fun e => by cases e), (fun e => by cases e), (fun e => by cases e), (fun e => by cases e)⟩
theorem AF.s0 (h : AF W wr xb nb lb xl xk xc xm xg vN vL vA names lens areas s z d x w) : AF W wr xb nb lb xl xk xc xm xg vN vL vA names lens areas s z (upd d 0 true) (upd x 0 vN) w :=
  ⟨h.xblk, h.nblk, h.lblk, h.arow, h.low, h.on, h.bn, h.bl, h.n0, h.n1, h.l0, h.l1, fun _ => rfl, h.f1, h.f3, h.f4⟩
theorem AF.s3 (h : AF W wr xb nb lb xl xk xc xm xg vN vL vA names lens areas s z d x w) : AF W wr xb nb lb xl xk xc xm xg vN vL vA names lens areas s z (upd d 3 true) (upd x 3 vL) w :=
  ⟨h.xblk, h.nblk, h.lblk, h.arow, h.low, h.on, h.bn, h.bl, h.n0, h.n1, h.l0, h.l1, h.f0, h.f1, fun _ => rfl, h.f4⟩
theorem yk_ {base k n : Nat} {e : TypeId} {v : Value} {xs : List Value} (h : w.ownsRow base e k v n xs) (o : Obj) : (w.alloc o).ownsRow base e k v n xs := zb_ h ((Only.refl (fun _ => False) w).alloc o) (fun _ _ h => h)
theorem AF.s1 (h : AF W wr xb nb lb xl xk xc xm xg vN vL vA names lens areas s z d x w) : AF W wr xb nb lb xl xk xc xm xg vN vL vA names lens areas s z (upd d 1 true) (upd x 1 (.slice (some ⟨w.heap.size, 0, none⟩) 1 1)) (w.alloc (.cells #[.string s] 9)) :=
  ⟨h.xblk.alloc _, h.nblk.alloc _, h.lblk.alloc _, yk_ h.arow _, ⟨h.low.1, h.low.2.1, h.low.2.2.1, h.low.2.2.2.1, h.low.2.2.2.2.1, h.low.2.2.2.2.2.1, by rw [World.size_alloc]; have := h.low.2.2.2.2.2.2; omega⟩, h.on.alloc _, h.bn, h.bl, fun e => yk_ (h.n0 e) _, fun e => yk_ (h.n1 e) _, fun e => yk_ (h.l0 e) _, fun e => yk_ (h.l1 e) _, h.f0,
    fun _ _ => ⟨_, rfl, h.on.size, Blk.new w _ _⟩, h.f3, fun e1 e2 => by
      obtain ⟨g, e, h1, h2⟩ := h.f4 e1 e2;exact ⟨g, e, h1, h2.alloc _⟩⟩
theorem AF.s4 (h : AF W wr xb nb lb xl xk xc xm xg vN vL vA names lens areas s z d x w) : AF W wr xb nb lb xl xk xc xm xg vN vL vA names lens areas s z (upd d 4 true) (upd x 4 (.slice (some ⟨w.heap.size, 0, none⟩) 1 1)) (w.alloc (.cells #[.int .i64 z] 3)) :=
  ⟨h.xblk.alloc _, h.nblk.alloc _, h.lblk.alloc _, yk_ h.arow _, ⟨h.low.1, h.low.2.1, h.low.2.2.1, h.low.2.2.2.1, h.low.2.2.2.2.1, h.low.2.2.2.2.2.1, by rw [World.size_alloc]; have := h.low.2.2.2.2.2.2; omega⟩, h.on.alloc _, h.bn, h.bl, fun e => yk_ (h.n0 e) _, fun e => yk_ (h.n1 e) _, fun e => yk_ (h.l0 e) _, fun e => yk_ (h.l1 e) _, h.f0,
    fun e1 e2 => by
      obtain ⟨g, e, h1, h2⟩ := h.f1 e1 e2;exact ⟨g, e, h1, h2.alloc _⟩, h.f3, fun _ _ => ⟨_, rfl, h.on.size, Blk.new w _ _⟩⟩
theorem AF.s2 (h : AF W wr xb nb lb xl xk xc xm xg vN vL vA names lens areas s z d x w) (h2 : d 2 = false) (h5 : d 5 = false) (ho : w'.ownsRow W 9 1 v8 (names.length + 1) (T names ++ [.string s])) (hg : w.grownBy w' vN.ownBlock) :
    AF W wr xb nb lb xl xk xc xm xg vN vL vA names lens areas s z (upd d 2 true) (upd x 2 v8) w' := by
  have hn := h.n0 h2;have hO : Only (fun k => vN.ownBlock = some k) w w' := (Only.refl (fun k => vN.ownBlock = some k) _).grown hg (fun k e => .inl e);have hb := fun k hk => (World.ownsRow.lt hn k hk).1
  refine ⟨h.xblk.only hO (fun e => by have := hb _ e; have := h.low.1; omega), h.nblk.only hO (fun e => by have := hb _ e; have := h.low.2.1; omega), h.lblk.only hO (fun e => by have := hb _ e; have := h.low.2.2.1; omega),
    zb_ h.arow hO (fun k hk e => zS_ hn h.arow (by decide) k e hk), ⟨h.low.1, h.low.2.1, h.low.2.2.1, h.low.2.2.2.1, h.low.2.2.2.2.1, h.low.2.2.2.2.2.1, Nat.le_trans h.low.2.2.2.2.2.2 hO.size⟩, h.on.trans (hO.mono fun k _ e => hb k e), h.bn, h.bl, fun e => ?_, fun _ => ?_, fun e => ?_, fun e => ?_, h.f0, fun _ e => ?_, h.f3, fun e1 e2 => ?_⟩
  · cases e
  · rw [T_snoc]; exact ho
  · exact zb_ (h.l0 e) hO (fun k hk e' => zS_ hn (h.l0 e) (by decide) k e' hk)
  · exact tf e h5
  · cases e
  · obtain ⟨g, e, h3, h4⟩ := h.f4 e1 e2
    exact ⟨g, e, h3, h4.only hO (fun e => by have := h.bn g e; omega)⟩
theorem AF.s5 (h : AF W wr xb nb lb xl xk xc xm xg vN vL vA names lens areas s z d x w) (h2 : d 2 = true) (h5 : d 5 = false) (ho : w'.ownsRow W 3 1 v8 (lens.length + 1) (I lens ++ [.int .i64 z])) (hg : w.grownBy w' vL.ownBlock) :
    AF W wr xb nb lb xl xk xc xm xg vN vL vA names lens areas s z (upd d 5 true) (upd x 5 v8) w' := by
  have hn := h.l0 h5;have hO : Only (fun k => vL.ownBlock = some k) w w' := (Only.refl (fun k => vL.ownBlock = some k) _).grown hg (fun k e => .inl e);have hb := fun k hk => (World.ownsRow.lt hn k hk).1
  refine ⟨h.xblk.only hO (fun e => by have := hb _ e; have := h.low.1; omega), h.nblk.only hO (fun e => by have := hb _ e; have := h.low.2.1; omega), h.lblk.only hO (fun e => by have := hb _ e; have := h.low.2.2.1; omega),
    zb_ h.arow hO (fun k hk e => zS_ hn h.arow (by decide) k e hk), ⟨h.low.1, h.low.2.1, h.low.2.2.1, h.low.2.2.2.1, h.low.2.2.2.2.1, h.low.2.2.2.2.2.1, Nat.le_trans h.low.2.2.2.2.2.2 hO.size⟩, h.on.trans (hO.mono fun k _ e => hb k e), h.bn, h.bl, fun e => tf h2 e, fun e => ?_, fun e => ?_, fun _ => ?_, h.f0, fun _ e => tf h2 e, h.f3, fun e1 e2 => ?_⟩
  · exact zb_ (h.n1 e) hO (fun k hk e' => zS_ hn (h.n1 e) (by decide) k e' hk)
  · cases e
  · rw [QE_]; exact ho
  · cases e2
end
def QF_ (W : Nat) (wr : World) (xb nb lb : Nat) (xl xk xc xm : Int) (xg : ByteArray) (names : List ByteArray) (lens : List Int) (areas : List Ar) (s : ByteArray) (z : Int) (e : Ending) (w' : World) : Prop :=
  ∃ vN vL vA, e = .returned (.tuple #[]) ∧ CP W w' xb nb lb xl xk xc xm xg vN vL vA (names ++ [s]) (lens ++ [z]) (areas ++ [⟨true, s, 0⟩]) ∧ Only (CM W xb nb lb) wr w'
set_option maxHeartbeats 16000000 in
theorem xm_ {W : Nat} {wr : World} {xb nb lb : Nat} {xl xk xc xm : Int} {xg : ByteArray} {vN vL vA : Value} {names : List ByteArray} {lens : List Int} {areas : List Ar} (h : CP W wr xb nb lb xl xk xc xm xg vN vL vA names lens areas) (h1 : names.length ≤ 100) (h2 : lens.length ≤ 100) (h3 : areas.length ≤ 100) (s : ByteArray) (z : Int) :
    Calls Tryd.prog 67 #[.string s, .int .i64 z, .pointer (some ⟨nb, 0, none⟩), .pointer (some ⟨lb, 0, none⟩), .pointer (some ⟨xb, 0, none⟩)] wr (QF_ W wr xb nb lb xl xk xc xm xg names lens areas s z) := by
  obtain ⟨AN, cN, rfl, _⟩ := zx_ h.nrow;obtain ⟨AL_, cL, rfl, _⟩ := zx_ h.lrow;obtain ⟨AA, cA, rfl, _⟩ := zx_ h.arow;obtain ⟨i0, hi0, hy0, hy1, hy2⟩ := info_parts qA_;obtain ⟨j0, hj0, hz0, hz1, hz2⟩ := info_parts j4_;obtain ⟨k0, hk0, hw0, hw1, hw2⟩ := info_parts Qa_;have HLOW := hD h.low;have H := hD h;clear h;go_enter Tryd.func67, Tryd.ntmps67
  go_wp2_with fail
  refine wp_region_held_drew (S := fun _ => True) (by kernel_rfl) trivial (fun hHeld => ?_);refine tkB [1, 5] ?_
  iterate 2
   refine tk (oi := ⟨some _, _, _, _, _, _⟩) (v := ?_) rfl (by kernel_rfl) (by kernel_rfl) (by kernel_rfl) (fun _ _ _ _ _ h => h) rfl (Or.inl ⟨by rfl, ?_⟩) (by assumption) ?_;rotate_left 1
   · (intro w hSw; (try dsimp only at hSw); go_simp; try with_reducible rfl)
   simp only [Act.put, tS]
  refine tkE ?_;refine zB_ (k := 6) (f := 2) (B := [0, 2, 3, 4, 6, 7]) (D := [[], [], [0, 1], [], [], [2, 3, 4]]) (ts := [7, 9, 10, 11, 13, 14]) (L := (fun d => #[d 0, true, d 1, d 2, d 3, true, d 4, d 5, false, false])) (F := AF W wr xb nb lb xl xk xc xm xg (.slice AN names.length cN) (.slice AL_ lens.length cL) (.slice AA areas.length cA) names lens areas s z) (by kernel_rfl) (by intro j hj d; rcases (show j = 0 ∨ j = 1 ∨ j = 2 ∨ j = 3 ∨ j = 4 ∨ j = 5 by omega) with rfl | rfl | rfl | rfl | rfl | rfl <;> kernel_rfl) (by intro d; kernel_rfl) (by kernel_rfl) (fun _ _ _ _ => trivial) ?hstep ?hfin (by kernel_rfl) (by kernel_rfl) (by kernel_rfl) (AF.start H.out _)
  case hstep =>
    intro j hj d x w h hcl hdj hdep K hK;rcases (show j = 0 ∨ j = 1 ∨ j = 2 ∨ j = 3 ∨ j = 4 ∨ j = 5 by omega) with rfl | rfl | rfl | rfl | rfl | rfl
    · refine wpOp_step (o := ⟨some 7, _, _, _, _, _⟩) rfl (fun K' hK' => ?_)
      simp only [putK, upd, Nat.reduceAdd, Nat.reduceBEq, tS];have c0 : w.cell? ⟨nb, 0, none⟩ = some (.slice AN names.length cN) := by rw [h.nblk.cell]; rfl
      go_simp;have hh := hK' _ _ (hK _ _ (h.s0));simp only [putK, upd, Nat.reduceAdd, Nat.reduceBEq, tS] at hh;exact hh
    · refine wpOp_step (o := ⟨some 9, _, _, _, _, _⟩) rfl (fun K' hK' => ?_)
      simp only [putK, upd, Nat.reduceAdd, Nat.reduceBEq, tS];go_simp;have hh := hK' _ _ (hK _ _ (h.s1));simp only [putK, upd, Nat.reduceAdd, Nat.reduceBEq, tS] at hh;exact hh
    · have h5 : d 5 = false := Bool.eq_false_iff.2 fun e => tf (zc_ hcl 5 2 (by decide) (by decide) e) hdj
      have e0 := h.f0 (hdep 0 (by decide));obtain ⟨g, e1, hg1, hbk⟩ := h.f1 (hdep 1 (by decide)) hdj;refine wpOp_step (o := ⟨some 10, _, _, _, _, _⟩) rfl (fun K' hK' => ?_);simp only [putK, upd, Nat.reduceAdd, Nat.reduceBEq, tS];rw [e0, e1];refine zh_ (o := ⟨some 10, _, _, _, _, _⟩) _ rfl (.tmp 7) (.tmp 9) 26 rfl W 9 i0 _ 1 16 Tryd.underlying26 hi0 hy0 hy1 hy2 rfl (by decide) (.slice AN names.length cN) names.length (T names) rfl (h.n0 hdj) _ (some ⟨g, 0, none⟩) 1 1 [.string s] rfl (zW_ hbk rfl) (by intro u hu; simp at hu; subst hu; rfl) (by unfold maxLen; omega) (by omega) h.low.2.2.2.2.2.2 ?_;intro v8 w8 ho8 hg8 hd8;have hh := hK' _ _ (hK _ _ (h.s2 hdj h5 ho8 hg8));simp only [putK, upd, Nat.reduceAdd, Nat.reduceBEq, tS] at hh;rw [e0, e1] at hh;exact hh
    · refine wpOp_step (o := ⟨some 11, _, _, _, _, _⟩) rfl (fun K' hK' => ?_)
      simp only [putK, upd, Nat.reduceAdd, Nat.reduceBEq, tS];have c0 : w.cell? ⟨lb, 0, none⟩ = some (.slice AL_ lens.length cL) := by rw [h.lblk.cell]; rfl
      go_simp;have hh := hK' _ _ (hK _ _ (h.s3));simp only [putK, upd, Nat.reduceAdd, Nat.reduceBEq, tS] at hh;exact hh
    · refine wpOp_step (o := ⟨some 13, _, _, _, _, _⟩) rfl (fun K' hK' => ?_)
      simp only [putK, upd, Nat.reduceAdd, Nat.reduceBEq, tS];go_simp;have hh := hK' _ _ (hK _ _ (h.s4));simp only [putK, upd, Nat.reduceAdd, Nat.reduceBEq, tS] at hh;exact hh
    · have h2' := hdep 2 (by decide)
      have e3 := h.f3 (hdep 3 (by decide));obtain ⟨g, e4, hg1, hbk⟩ := h.f4 (hdep 4 (by decide)) hdj;refine wpOp_step (o := ⟨some 14, _, _, _, _, _⟩) rfl (fun K' hK' => ?_);simp only [putK, upd, Nat.reduceAdd, Nat.reduceBEq, tS];rw [e3, e4];refine zh_ (o := ⟨some 14, _, _, _, _, _⟩) _ rfl (.tmp 11) (.tmp 13) 22 rfl W 3 j0 _ 1 8 Tryd.underlying22 hj0 hz0 hz1 hz2 rfl (by decide) (.slice AL_ lens.length cL) lens.length (I lens) rfl (h.l0 hdj) _ (some ⟨g, 0, none⟩) 1 1 [.int .i64 z] rfl (zW_ hbk rfl) (by intro u hu; simp at hu; subst hu; rfl) (by unfold maxLen; omega) (by omega) h.low.2.2.2.2.2.2 ?_;intro v8 w8 ho8 hg8 hd8;have hh := hK' _ _ (hK _ _ (h.s5 h2' hdj ho8 hg8));simp only [putK, upd, Nat.reduceAdd, Nat.reduceBEq, tS] at hh;rw [e3, e4] at hh;exact hh
  case hfin =>
    intro d x w2 hd h;have hn := h.n1 (hd 2 (by decide));have hl := h.l1 (hd 5 (by decide));obtain ⟨B8, c8, e8⟩ := z1_ hn;obtain ⟨B9, c9, e9⟩ := z1_ hl;have HXB := hD h.xblk;have HAR := hD h.arow;have HON := hD h.on;have hnb := h.nblk;have hlb := h.lblk;have HNB := hD hnb;have HLB := hD hlb;rw [e8] at hn;rw [e9] at hl;have HN := hD hn;have HL := hD hl;have HSZ := hD h.low;have c0 : w2.cell? ⟨nb, 0, none⟩ = some (.slice AN names.length cN) := by rw [hnb.cell]; rfl
    have g0 := hnb.frozen 0;have c1 : w2.cell? ⟨lb, 0, none⟩ = some (.slice AL_ lens.length cL) := by rw [hlb.cell]; rfl
    have g1 := hlb.frozen 0;have d1 : nb ≠ lb := HLOW.out.2.2.2.2.2.1;have d2 : lb ≠ nb := fun e => d1 e.symm;simp only [putK, upd, Nat.reduceAdd, Nat.reduceBEq, tS];rw [e8, e9];clear h hn hl hnb hlb;refine wpAnyH_all (rs := [8]) (by kernel_rfl) (by simp) (fun i hi => ?_);obtain rfl : i = 8 := by simpa using hi
    refine wpOp_step (o := ⟨none, _, _, _, _, _⟩) rfl (fun K' hK' => ?_);go_simp;refine hK' _ _ ⟨trivial, ?_⟩;refine wpAnyH_all (rs := [9]) (by kernel_rfl) (by simp) (fun i hi => ?_);obtain rfl : i = 9 := by simpa using hi
    refine wpOp_step (o := ⟨none, _, _, _, _, _⟩) rfl (fun K2 hK2 => ?_);go_simp;refine hK2 _ _ ⟨trivial, ?_⟩;refine wpAnyH_done (by kernel_rfl) ?_ _;have hS1 : Only (fun k => k = nb ∨ k = lb) w2 ((w2.setCell ⟨nb, 0, none⟩ (.slice B8 (names.length + 1) c8)).setCell ⟨lb, 0, none⟩ (.slice B9 (lens.length + 1) c9)) := ((Only.refl (fun k => k = nb ∨ k = lb) w2).setCell (p := ⟨nb, 0, none⟩) (.inl (.inl rfl)) _).setCell (p := ⟨lb, 0, none⟩) (.inl (.inr rfl)) _;have HLO := hD HSZ.out;have hx3 := HXB.out.only hS1 (fun e => e.elim HLOW.out.2.2.2.1 HLOW.out.2.2.2.2.1);have hfar : ∀ k, W ≤ k → ¬ (k = nb ∨ k = lb) := fun k hk e => by have h1 := HLOW.out.2.1; have h2 := HLOW.out.2.2.1; omega
    have HN3 := hD (zb_ HN.out hS1 (fun k hk => hfar k (World.ownsRow.lt HN.out k hk).1));have HL3 := hD (zb_ HL.out hS1 (fun k hk => hfar k (World.ownsRow.lt HL.out k hk).1));have HA3 := hD (zb_ HAR.out hS1 (fun k hk => hfar k (World.ownsRow.lt HAR.out k hk).1));have HNB3 := hD (show Blk ((w2.setCell ⟨nb, 0, none⟩ (.slice B8 (names.length + 1) c8)).setCell ⟨lb, 0, none⟩ (.slice B9 (lens.length + 1) c9)) nb 26 #[.slice B8 (names.length + 1) c8] from (HNB.out.set_ 0 (.slice B8 (names.length + 1) c8)).far (p := ⟨lb, 0, none⟩) d1 _);have HLB3 := hD (show Blk ((w2.setCell ⟨nb, 0, none⟩ (.slice B8 (names.length + 1) c8)).setCell ⟨lb, 0, none⟩ (.slice B9 (lens.length + 1) c9)) lb 22 #[.slice B9 (lens.length + 1) c9] from (HLB.out.far (p := ⟨nb, 0, none⟩) d2 _).set_ 0 (.slice B9 (lens.length + 1) c9));have HON3 := hD (show Only (CM W xb nb lb) wr ((w2.setCell ⟨nb, 0, none⟩ (.slice B8 (names.length + 1) c8)).setCell ⟨lb, 0, none⟩ (.slice B9 (lens.length + 1) c9)) from (HON.out.mono fun k _ e => .inr (.inr (.inr e))).trans (hS1.mono fun k _ e => e.elim (fun e => .inr (.inl e)) (fun e => .inr (.inr (.inl e)))));have HSZ3 := hD (show W ≤ ((w2.setCell ⟨nb, 0, none⟩ (.slice B8 (names.length + 1) c8)).setCell ⟨lb, 0, none⟩ (.slice B9 (lens.length + 1) c9)).heap.size from Nat.le_trans HSZ.out.2.2.2.2.2.2 hS1.size);clear c0 g0 c1 g1 hS1 HXB HAR HON HNB HLB HN HL e8 e9 hfar;generalize ((w2.setCell ⟨nb, 0, none⟩ (.slice B8 (names.length + 1) c8)).setCell ⟨lb, 0, none⟩ (.slice B9 (lens.length + 1) c9)) = w3 at HN3 HL3 HA3 HNB3 HLB3 HON3 HSZ3 hx3 ⊢;have HX3 := hD hx3;obtain ⟨y0, y1, y2, y3, y4, y5, y6, y7, y8, y9, y10⟩ := kc_ hx3;have HAA := hD (yk_ HA3.out (.cells #[.bool true, .string s, .int .i64 0] 60));have HXA := hD (hx3.alloc (.cells #[.bool true, .string s, .int .i64 0] 60));have HNA := hD (yk_ HN3.out (.cells #[.bool true, .string s, .int .i64 0] 60));have HLA := hD (yk_ HL3.out (.cells #[.bool true, .string s, .int .i64 0] 60));have HNBA := hD (HNB3.out.alloc (.cells #[.bool true, .string s, .int .i64 0] 60));have HLBA := hD (HLB3.out.alloc (.cells #[.bool true, .string s, .int .i64 0] 60));clear hx3
    go_wp2_with (at_builtin; refine zd_ _ rfl _ _ 56 rfl W 60 k0 _ 3 32 Tryd.underlying56 hk0 hw0 hw1 hw2 rfl (by decide) (.slice AA areas.length cA) areas.length (aC areas) rfl HAA.out _ (some ⟨w3.heap.size, 0, none⟩) 1 1 (#[.bool true, .string s, .int .i64 0] : Array Value).toList rfl (y7_ rfl) (by intro u hu; simp at hu; rcases hu with rfl | rfl | rfl <;> rfl) (by unfold maxLen; omega) (by omega) (by have := HSZ3.out; simp; omega) ?_; intro v8 w8 ho8 hg8 hd8; have HO8 := hD ho8; have hO8 : Only (fun k => (Value.slice AA areas.length cA).ownBlock = some k) (w3.alloc (.cells #[.bool true, .string s, .int .i64 0] 60)) w8 := (Only.refl (fun k => (Value.slice AA areas.length cA).ownBlock = some k) _).grown hg8 (fun k e => .inl e)
                 have hbA : ∀ k, (Value.slice AA areas.length cA).ownBlock = some k → W ≤ k := fun k hk => (World.ownsRow.lt HAA.out k hk).1;have hx8 := HXA.out.only hO8 (fun e => by have h1 := hbA _ e; have h2 := HLOW.out.1; omega);have HX8 := hD hx8;have HOO := hD hO8;have HBA := hD hbA;have t8 : w8.cell? ⟨xb, 3, none⟩ = some (.slice AA areas.length cA) := by rw [hx8.cell]; rfl
                 have g8 := hx8.frozen 3;obtain ⟨B7, c7, e7⟩ := z1_ ho8;subst e7;clear ho8 hg8 hd8 hO8 hbA hx8;skip)
    refine bodyPost_end (results_none rfl _ _ _) rfl ?_;have ho9 : Only (· = xb) w8 (w8.setCell ⟨xb, 3, none⟩ (.slice B7 (areas.length + 1) c7)) := (Only.refl (· = xb) w8).setCell (p := ⟨xb, 3, none⟩) (.inl rfl) _;have hxf : ∀ k, W ≤ k → ¬ k = xb := fun k hk e => by have h1 := HLOW.out.1; omega
    have hA := HO8.out;rw [show (aC areas ++ (#[.bool true, .string s, .int .i64 0] : Array Value).toList) = aC (areas ++ [⟨true, s, 0⟩]) from (JA_ areas ⟨true, s, 0⟩).symm] at hA;refine ⟨.slice B8 (names.length + 1) c8, .slice B9 (lens.length + 1) c9, .slice B7 (areas.length + 1) c7, rfl, ⟨HX8.out.set_ 3 _, (HNBA.out.only HOO.out (fun e => by have h1 := HBA.out _ e; have h2 := HLOW.out.2.1; omega)).only ho9 (fun e => HLOW.out.2.2.2.1 e.symm), (HLBA.out.only HOO.out (fun e => by have h1 := HBA.out _ e; have h2 := HLOW.out.2.2.1; omega)).only ho9 (fun e => HLOW.out.2.2.2.2.1 e.symm), ?_, ?_, ?_, ?_⟩, ?_⟩
    · rw [List.length_append]
      exact zb_ (zb_ HNA.out HOO.out (fun k hk e => zS_ HNA.out HAA.out (by decide) k hk e)) ho9 (fun k hk => hxf k (World.ownsRow.lt HNA.out k hk).1)
    · rw [List.length_append]
      exact zb_ (zb_ HLA.out HOO.out (fun k hk e => zS_ HLA.out HAA.out (by decide) k hk e)) ho9 (fun k hk => hxf k (World.ownsRow.lt HLA.out k hk).1)
    · rw [List.length_append]
      exact zb_ hA ho9 (fun k hk => hxf k (World.ownsRow.lt hA k hk).1)
    · exact ⟨HLOW.out.1, HLOW.out.2.1, HLOW.out.2.2.1, HLOW.out.2.2.2.1, HLOW.out.2.2.2.2.1, HLOW.out.2.2.2.2.2.1, Nat.le_trans HSZ3.out (Nat.le_trans (by simp) (Nat.le_trans HOO.out.size ho9.size))⟩
    · exact ((HON3.out.alloc _).trans (HOO.out.mono fun k _ e => .inr (.inr (.inr (HBA.out k e))))).trans (ho9.mono fun k _ e => .inl e)
end Go.Proofs.YtdkcfgahdcpkkaaDoor
