/- The builder: the states of the region that appends a compound volume. -/
import Derived.Test.YtdkcfgahdcpkkaaDoorCUsed
import Derived.Test.YtdkcfgahdcpkkaaDoorCMkAdd
import Derived.Deep.CutBlock
set_option linter.all false
namespace Go.Proofs.YtdkcfgahdcpkkaaDoor
open Go.RowKit
set_option maxRecDepth 100000
def digB (i : Nat) : ByteArray := ⟨#[(48 + i).toUInt8]⟩
def legN (name : ByteArray) (i : Nat) : ByteArray := name ++ ⟨#[95, 108, 101, 103]⟩ ++ digB i
def zJ_ (name : ByteArray) (k : Nat) : List ByteArray := (List.range k).map (legN name)
def zr_ (l : List ByteArray) : List Ar := l.map fun s => ⟨true, s, 0⟩
def qQ_ (name : ByteArray) : ByteArray := name ++ ⟨#[95, 108, 101, 103, 48]⟩
def logN (name : ByteArray) : ByteArray := name ++ ⟨#[95, 108, 111, 103]⟩
def metaN (name : ByteArray) : ByteArray := name ++ ⟨#[95, 109, 101, 116, 97]⟩
def dataN (name : ByteArray) : ByteArray := name ++ ⟨#[95, 100, 97, 116, 97]⟩
def logL (n e : Int) : Int := 1 + (1 + (n * e + 63) / 64) / e
def mirX (name : ByteArray) (e n : Int) (l : List (ByteArray × Int)) (x : Sg) : Prop :=
 ∃ (k : Nat) (c : Int) (lg : Bool) (st : List Int), 2 ≤ k ∧ k ≤ 3 ∧ 1 ≤ c ∧ c ≤ 4 ∧ (st = [] ∨ ∃ z : Int, 0 ≤ z ∧ z < k ∧ st = [z]) ∧
  l = (zJ_ name k ++ if lg then [logN name] else []).zip (List.replicate k n ++ if lg then [logL n e] else []) ∧
  x = ⟨0, n, 3, zr_ (zJ_ name k), c, st, if lg then logN name else ⟨#[]⟩, ⟨#[]⟩, 0, 0, 0⟩
def parX (name : ByteArray) (e n : Int) (l : List (ByteArray × Int)) (x : Sg) : Prop :=
 ∃ (k : Nat) (c : Int), 3 ≤ k ∧ k ≤ 4 ∧ (c = 1 ∨ c = e) ∧ l = (zJ_ name k).zip (List.replicate k (n + (15 + e) / e)) ∧ x = ⟨0, n * (k - 1), 4, zr_ (zJ_ name k), c, [], ⟨#[]⟩, ⟨#[]⟩, 0, 0, 0⟩
def poolX (name : ByteArray) (n : Int) (l : List (ByteArray × Int)) (x : Sg) : Prop :=
 ∃ m c : Int, 1 ≤ m ∧ m ≤ 3 ∧ 1 ≤ c ∧ c ≤ 8 ∧ l = [(metaN name, m), (dataN name, n)] ∧ x = ⟨0, n, 5, zr_ [metaN name, dataN name], c, [], ⟨#[]⟩, ⟨#[]⟩, 0, 0, 0⟩
def cacheX (name : ByteArray) (n : Int) (l : List (ByteArray × Int)) (x : Sg) : Prop :=
 ∃ d c m : Int, 1 ≤ d ∧ d ≤ 2 ∧ 1 ≤ c ∧ c ≤ 4 ∧ 1 ≤ m ∧ m ≤ 2 ∧ l = [(qQ_ name, n), (dataN name, d), (metaN name, 1)] ∧ x = ⟨0, n, 7, zr_ [qQ_ name, dataN name, metaN name], c, [], ⟨#[]⟩, ⟨#[]⟩, 0, m, 0⟩
def CmpX (name : ByteArray) (kind e n : Int) (l : List (ByteArray × Int)) (x : Sg) : Prop :=
 (kind = 3 ∧ mirX name e n l x) ∨ (kind = 4 ∧ parX name e n l x) ∨ (kind = 5 ∧ poolX name n l x) ∨ (kind = 7 ∧ cacheX name n l x)
def yV_ (name : ByteArray) (i : Nat) : ByteArray := name ++ ⟨#[116]⟩ ++ digB i
def xb_ (name : ByteArray) (id : Int) (i : Nat) (z : Int) : Vo := ⟨yV_ name i, id, false, false, [], [⟨0, z, 6, [], 0, [], ⟨#[]⟩, name, i, 0, 0⟩]⟩
inductive ThinsR (name : ByteArray) (i0 : Nat) : Nat → Be → Be → Prop
 | nil (β : Be) : ThinsR name i0 i0 β β
 | snoc {i : Nat} {β β1 : Be} {z : Int} (h : ThinsR name i0 (i + 1) β β1) (hz : 1 ≤ z ∧ z ≤ 4) (hv : β1.g.vols.length < 32) : ThinsR name i0 i β ((zK_ β1).add (xb_ name (idB β1) (i + 1) z))
def yc_ (name : ByteArray) (id : Int) (ro : Bool) (tags : List ByteArray) (x : Sg) : Vo := ⟨name, id, false, ro, tags, [x]⟩
def CompR (β : Be) (name : ByteArray) (kind : Int) (β' : Be) : Prop :=
 ∃ n l x, 1 ≤ n ∧ n ≤ 3 ∧ CmpX name kind β.g.extent n l x ∧
  (HidR β l false β' ∨ ∃ β1 ro tags, HidR β l true β1 ∧ tags.Sublist tagL ∧
   ((kind ≠ 5 ∧ β' = (zK_ β1).add (yc_ name (idB β1) ro tags x)) ∨ (kind = 5 ∧ ∃ i0 i, i0 ≤ 2 ∧ ThinsR name i0 i ((zK_ β1).add (yc_ name (idB β1) ro tags x)) β')))
theorem q5_ (name : ByteArray) (k : Nat) : zJ_ name (k + 1) = zJ_ name k ++ [legN name k] := by simp [zJ_, List.range_succ]
theorem qK_ (l : List ByteArray) (s : ByteArray) : zr_ (l ++ [s]) = zr_ l ++ [⟨true, s, 0⟩] := by simp [zr_]
def xP_ (k : Nat) (n : Int) : List Int := List.replicate k n
theorem replN_succ (k : Nat) (n : Int) : xP_ (k + 1) n = xP_ k n ++ [n] := List.replicate_succ'
theorem xt_ (k : Nat) (n : Int) : (xP_ k n).length = k := List.length_replicate
theorem repl_succ (k : Nat) (n : Int) : List.replicate (k + 1) n = List.replicate k n ++ [n] := List.replicate_succ'
theorem zj_ (name : ByteArray) (k : Nat) : (zJ_ name k).length = k := by simp [zJ_]
theorem CmpX.small {name : ByteArray} {kind e n : Int} {l : List (ByteArray × Int)} {x : Sg} (h : CmpX name kind e n l x) (hn : 1 ≤ n ∧ n ≤ 3) (he : 1 ≤ e ∧ e ≤ 16) : l.length ≤ 4 ∧ (∀ z ∈ l.map Prod.snd, 0 ≤ z ∧ z ≤ 1000) := by
 obtain ⟨_, k, c, lg, st, h2, h3, _, _, _, rfl, _⟩ | ⟨_, k, c, h3, h4, _, rfl, _⟩ | ⟨_, m, c, h1, h3, _, _, rfl, _⟩ | ⟨_, d, c, m, h1, h2, _, _, _, _, rfl, _⟩ := h
 ·have h64 : 0 ≤ (n * e + 63) / 64 ∧ (n * e + 63) / 64 ≤ 1 := by
   have : n * e ≤ 48 := by
    have h1 : n * e ≤ 3 * e := Int.mul_le_mul_of_nonneg_right hn.2 (by omega);omega
   have : 0 ≤ n * e := Int.mul_nonneg (by omega) (by omega);omega
  have hL : 0 ≤ logL n e ∧ logL n e ≤ 1000 := by
   unfold logL;have h1 : 0 ≤ (1 + (n * e + 63) / 64) / e := Int.ediv_nonneg (by omega) (by omega);have h2 : (1 + (n * e + 63) / 64) / e ≤ 1 + (n * e + 63) / 64 := Int.ediv_le_self _ (by omega);omega
  refine ⟨by rw [List.length_zip]; cases lg <;> simp [zj_] <;> omega, fun z hz => ?_⟩;rw [List.map_snd_zip (by cases lg <;> simp [zj_])] at hz;cases lg
  ·simp at hz; omega
  ·simp at hz
   rcases hz with hz | rfl
   ·omega
   ·exact hL
 ·refine ⟨by rw [List.length_zip]; simp [zj_]; omega, fun z hz => ?_⟩
  rw [List.map_snd_zip (by simp [zj_])] at hz;have h1 : 0 ≤ (15 + e) / e := Int.ediv_nonneg (by omega) (by omega);have h2 : (15 + e) / e ≤ 15 + e := Int.ediv_le_self _ (by omega);have := (List.mem_replicate.1 hz).2;omega
 ·exact ⟨by simp, fun z hz => by simp at hz; omega⟩
 ·exact ⟨by simp, fun z hz => by simp at hz; omega⟩
def FPR (B : Nat) (S : Nat → Prop) (w : World) (bb sb : Nat) (β : Be) (vt vd vv vn : Value) (css : List (List Value)) (name : ByteArray) (kind n : Int) (W0 : Nat) (wx : World) : Prop :=
 ∃ l x vN vL vA vS, CmpX name kind β.g.extent n l x ∧ Blk wx W0 58 (sgA x vA vS) ∧ Blk wx (W0 + 1) 26 #[vN] ∧ Blk wx (W0 + 1 + 1) 22 #[vL] ∧ TL wx (fun k => W0 < k) vN (l.map Prod.fst) ∧ IL wx (fun k => W0 < k) vL (l.map Prod.snd) ∧
  AL wx (fun k => W0 < k) vA x.areas ∧ IL wx (fun k => W0 < k) vS x.stale ∧ BU B (fun k => S k ∧ k < W0) wx bb sb β vt vd vv vn css ∧ Nx S (Mt bb sb vv vn) w (fun k => S k ∧ k < W0) (Mt bb sb vv vn) wx
structure PW (B : Nat) (S : Nat → Prop) (w : World) (bb sb : Nat) (β : Be) (vt vd vv vn : Value) (css : List (List Value)) (W0 : Nat) (xl xk xc xm : Int) (xg : ByteArray) (vN vL vA : Value) (names : List ByteArray) (lens : List Int) (areas : List Ar) (wx : World) : Prop where
 cp : CP (W0 + 1 + 1 + 1) wx W0 (W0 + 1) (W0 + 1 + 1) xl xk xc xm xg vN vL vA names lens areas
 bu : BU B (fun k => S k ∧ k < W0) wx bb sb β vt vd vv vn css
 nx : Nx S (Mt bb sb vv vn) w (fun k => S k ∧ k < W0) (Mt bb sb vv vn) wx
 mt : ∀ k, Mt bb sb vv vn k → k < W0
 bl : B ≤ W0 ∧ w.heap.size ≤ W0
section
variable {B : Nat} {S : Nat → Prop} {w wx w' : World} {bb sb : Nat} {β : Be} {vt vd vv vn : Value} {css : List (List Value)} {W0 : Nat} {xl xk xc xm : Int} {xg : ByteArray} {vN vL vA : Value} {names : List ByteArray} {lens : List Int} {areas : List Ar} {s : ByteArray} {z : Int} {e : Ending}
theorem PW.src (h : PW B S w bb sb β vt vd vv vn css W0 xl xk xc xm xg vN vL vA names lens areas wx) (hs : SrcOk B w' sb) (ho : Only (· = sb) wx w') : PW B S w bb sb β vt vd vv vn css W0 xl xk xc xm xg vN vL vA names lens areas w' :=
 ⟨h.cp.only ho (fun k e h2 => by
  have h1 := h.mt sb (.inr (.inl rfl));subst e;rcases h2 with h2 | h2 | h2 | h2 <;> omega), h.bu.src_ hs ho, h.nx.trans (Nx.same (ho.mono fun k _ e => .inr (.inl e))), h.mt, h.bl⟩
theorem PW.up (h : PW B S w bb sb β vt vd vv vn css W0 xl xk xc xm xg vN vL vA names lens areas wx) (hb : Bel wx w') : PW B S w bb sb β vt vd vv vn css W0 xl xk xc xm xg vN vL vA names lens areas w' :=
 ⟨h.cp.only (Only.of_below (fun _ => False) hb) (fun _ h => h.elim), h.bu.up hb, h.nx.below hb, h.mt, h.bl⟩
theorem PW.add (h : PW B S w bb sb β vt vd vv vn css W0 xl xk xc xm xg vN vL vA names lens areas wx) (hr : QF_ (W0 + 1 + 1 + 1) wx W0 (W0 + 1) (W0 + 1 + 1) xl xk xc xm xg names lens areas s z e w') :
  e = .returned (.tuple #[]) ∧ ∃ vN' vL' vA', PW B S w bb sb β vt vd vv vn css W0 xl xk xc xm xg vN' vL' vA' (names ++ [s]) (lens ++ [z]) (areas ++ [⟨true, s, 0⟩]) w' := by
 obtain ⟨vN', vL', vA', rfl, hcp, ho⟩ := hr
 have hcm : ∀ k, CM (W0 + 1 + 1 + 1) W0 (W0 + 1) (W0 + 1 + 1) k → W0 ≤ k := fun k h => by rcases h with h | h | h | h <;> omega
 refine ⟨rfl, vN', vL', vA', hcp, h.bu.far ho (fun k e hk => by have h1 := hcm k e; have h2 := h.mt k hk; omega) (fun k e hk => by have h1 := hcm k e; have h2 := hk.2; omega) (fun k e => by have h1 := hcm k e; have h2 := h.bl.1; omega), ⟨h.nx.only.trans_ ho (fun k hk e => by have h1 := hcm k e; have h2 := h.bl.2; omega), h.nx.deep, h.nx.turn⟩, h.mt, h.bl⟩
theorem PW.set1 (h : PW B S w bb sb β vt vd vv vn css W0 xl xk xc xm xg vN vL vA names lens areas wx) (v : Int) : PW B S w bb sb β vt vd vv vn css W0 v xk xc xm xg vN vL vA names lens areas (wx.setCell ⟨W0, 1, none⟩ (.int .i64 v)) := by
 have ho : Only (· = W0) wx (wx.setCell ⟨W0, 1, none⟩ (.int .i64 v)) := (Only.refl (· = W0) wx).setCell (p := ⟨W0, 1, none⟩) (.inl rfl) _
 have hl := h.cp.low
 have hb := h.bl
 have hf : ∀ (k : Nat), W0 + 1 + 1 + 1 ≤ k → ¬ k = W0 := fun k h e => by omega
 exact ⟨⟨h.cp.xblk.set_ 1 _, h.cp.nblk.only ho (by omega), h.cp.lblk.only ho (by omega), zb_ h.cp.nrow ho (fun k hk => hf k (World.ownsRow.lt h.cp.nrow k hk).1), zb_ h.cp.lrow ho (fun k hk => hf k (World.ownsRow.lt h.cp.lrow k hk).1), zb_ h.cp.arow ho (fun k hk => hf k (World.ownsRow.lt h.cp.arow k hk).1), ⟨hl.1, hl.2.1, hl.2.2.1, hl.2.2.2.1, hl.2.2.2.2.1, hl.2.2.2.2.2.1, Nat.le_trans hl.2.2.2.2.2.2 ho.size⟩⟩,
  h.bu.far ho (fun k e hk => by have h2 := h.mt k hk; omega) (fun k e hk => by have h2 := hk.2; omega) (fun k e => by omega), ⟨h.nx.only.trans_ ho (fun k hk e => by omega), h.nx.deep, h.nx.turn⟩, h.mt, h.bl⟩
theorem PW.set4 (h : PW B S w bb sb β vt vd vv vn css W0 xl xk xc xm xg vN vL vA names lens areas wx) (v : Int) : PW B S w bb sb β vt vd vv vn css W0 xl xk v xm xg vN vL vA names lens areas (wx.setCell ⟨W0, 4, none⟩ (.int .i64 v)) := by
 have ho : Only (· = W0) wx (wx.setCell ⟨W0, 4, none⟩ (.int .i64 v)) := (Only.refl (· = W0) wx).setCell (p := ⟨W0, 4, none⟩) (.inl rfl) _
 have hl := h.cp.low
 have hb := h.bl
 have hf : ∀ (k : Nat), W0 + 1 + 1 + 1 ≤ k → ¬ k = W0 := fun k h e => by omega
 exact ⟨⟨h.cp.xblk.set_ 4 _, h.cp.nblk.only ho (by omega), h.cp.lblk.only ho (by omega), zb_ h.cp.nrow ho (fun k hk => hf k (World.ownsRow.lt h.cp.nrow k hk).1), zb_ h.cp.lrow ho (fun k hk => hf k (World.ownsRow.lt h.cp.lrow k hk).1), zb_ h.cp.arow ho (fun k hk => hf k (World.ownsRow.lt h.cp.arow k hk).1), ⟨hl.1, hl.2.1, hl.2.2.1, hl.2.2.2.1, hl.2.2.2.2.1, hl.2.2.2.2.2.1, Nat.le_trans hl.2.2.2.2.2.2 ho.size⟩⟩,
  h.bu.far ho (fun k e hk => by have h2 := h.mt k hk; omega) (fun k e hk => by have h2 := hk.2; omega) (fun k e => by omega), ⟨h.nx.only.trans_ ho (fun k hk e => by omega), h.nx.deep, h.nx.turn⟩, h.mt, h.bl⟩
theorem PW.set9 (h : PW B S w bb sb β vt vd vv vn css W0 xl xk xc xm xg vN vL vA names lens areas wx) (v : Int) : PW B S w bb sb β vt vd vv vn css W0 xl xk xc v xg vN vL vA names lens areas (wx.setCell ⟨W0, 9, none⟩ (.int .i64 v)) := by
 have ho : Only (· = W0) wx (wx.setCell ⟨W0, 9, none⟩ (.int .i64 v)) := (Only.refl (· = W0) wx).setCell (p := ⟨W0, 9, none⟩) (.inl rfl) _
 have hl := h.cp.low
 have hb := h.bl
 have hf : ∀ (k : Nat), W0 + 1 + 1 + 1 ≤ k → ¬ k = W0 := fun k h e => by omega
 exact ⟨⟨h.cp.xblk.set_ 9 _, h.cp.nblk.only ho (by omega), h.cp.lblk.only ho (by omega), zb_ h.cp.nrow ho (fun k hk => hf k (World.ownsRow.lt h.cp.nrow k hk).1), zb_ h.cp.lrow ho (fun k hk => hf k (World.ownsRow.lt h.cp.lrow k hk).1), zb_ h.cp.arow ho (fun k hk => hf k (World.ownsRow.lt h.cp.arow k hk).1), ⟨hl.1, hl.2.1, hl.2.2.1, hl.2.2.2.1, hl.2.2.2.2.1, hl.2.2.2.2.2.1, Nat.le_trans hl.2.2.2.2.2.2 ho.size⟩⟩,
  h.bu.far ho (fun k e hk => by have h2 := h.mt k hk; omega) (fun k e hk => by have h2 := hk.2; omega) (fun k e => by omega), ⟨h.nx.only.trans_ ho (fun k hk e => by omega), h.nx.deep, h.nx.turn⟩, h.mt, h.bl⟩
theorem PW.set6 (h : PW B S w bb sb β vt vd vv vn css W0 xl xk xc xm xg vN vL vA names lens areas wx) (v : ByteArray) : PW B S w bb sb β vt vd vv vn css W0 xl xk xc xm v vN vL vA names lens areas (wx.setCell ⟨W0, 6, none⟩ (.string v)) := by
 have ho : Only (· = W0) wx (wx.setCell ⟨W0, 6, none⟩ (.string v)) := (Only.refl (· = W0) wx).setCell (p := ⟨W0, 6, none⟩) (.inl rfl) _
 have hl := h.cp.low
 have hb := h.bl
 have hf : ∀ (k : Nat), W0 + 1 + 1 + 1 ≤ k → ¬ k = W0 := fun k h e => by omega
 exact ⟨⟨h.cp.xblk.set_ 6 _, h.cp.nblk.only ho (by omega), h.cp.lblk.only ho (by omega), zb_ h.cp.nrow ho (fun k hk => hf k (World.ownsRow.lt h.cp.nrow k hk).1), zb_ h.cp.lrow ho (fun k hk => hf k (World.ownsRow.lt h.cp.lrow k hk).1), zb_ h.cp.arow ho (fun k hk => hf k (World.ownsRow.lt h.cp.arow k hk).1), ⟨hl.1, hl.2.1, hl.2.2.1, hl.2.2.2.1, hl.2.2.2.2.1, hl.2.2.2.2.2.1, Nat.le_trans hl.2.2.2.2.2.2 ho.size⟩⟩,
  h.bu.far ho (fun k e hk => by have h2 := h.mt k hk; omega) (fun k e hk => by have h2 := hk.2; omega) (fun k e => by omega), ⟨h.nx.only.trans_ ho (fun k hk e => by omega), h.nx.deep, h.nx.turn⟩, h.mt, h.bl⟩
theorem PW.turn {names' : List ByteArray} {lens' : List Int} {areas' : List Ar} {vN' vL' vA' : Value} (h : PW B S w bb sb β vt vd vv vn css W0 xl xk xc xm xg vN vL vA names lens areas wx) (hcp : CP (W0 + 1 + 1 + 1) w' W0 (W0 + 1) (W0 + 1 + 1) xl xk xc xm xg vN' vL' vA' names' lens' areas') (ho : Only (CM (W0 + 1 + 1 + 1) W0 (W0 + 1) (W0 + 1 + 1)) wx w') :
  PW B S w bb sb β vt vd vv vn css W0 xl xk xc xm xg vN' vL' vA' names' lens' areas' w' := by
 have hcm : ∀ k, CM (W0 + 1 + 1 + 1) W0 (W0 + 1) (W0 + 1 + 1) k → W0 ≤ k := fun k h => by rcases h with h | h | h | h <;> omega
 exact ⟨hcp, h.bu.far ho (fun k e hk => by have h1 := hcm k e; have h2 := h.mt k hk; omega) (fun k e hk => by have h1 := hcm k e; have h2 := hk.2; omega) (fun k e => by have h1 := hcm k e; have h2 := h.bl.1; omega), ⟨h.nx.only.trans_ ho (fun k hk e => by have h1 := hcm k e; have h2 := h.bl.2; omega), h.nx.deep, h.nx.turn⟩, h.mt, h.bl⟩
theorem AF.fin {W xb nb lb : Nat} {wr : World} {d : Nat → Bool} {x : Nat → Value} (h : AF W wr xb nb lb xl xk xc xm xg vN vL vA names lens areas s z d x wx) (h2 : d 2 = true) (h5 : d 5 = true) :
  CP W ((wx.setCell ⟨nb, 0, none⟩ (x 2)).setCell ⟨lb, 0, none⟩ (x 5)) xb nb lb xl xk xc xm xg (x 2) (x 5) vA (names ++ [s]) (lens ++ [z]) areas ∧ Only (CM W xb nb lb) wr ((wx.setCell ⟨nb, 0, none⟩ (x 2)).setCell ⟨lb, 0, none⟩ (x 5)) := by
 have hn := h.n1 h2
 have hl := h.l1 h5
 have hS1 : Only (fun k => k = nb ∨ k = lb) wx ((wx.setCell ⟨nb, 0, none⟩ (x 2)).setCell ⟨lb, 0, none⟩ (x 5)) := ((Only.refl (fun k => k = nb ∨ k = lb) wx).setCell (p := ⟨nb, 0, none⟩) (.inl (.inl rfl)) _).setCell (p := ⟨lb, 0, none⟩) (.inl (.inr rfl)) _
 have hw := h.low
 have hfar : ∀ k, W ≤ k → ¬ (k = nb ∨ k = lb) := fun k hk e => by have h1 := hw.2.1; have h2 := hw.2.2.1; omega
 refine ⟨⟨h.xblk.only hS1 (fun e => e.elim hw.2.2.2.1 hw.2.2.2.2.1), (h.nblk.set_ 0 (x 2)).far (p := ⟨lb, 0, none⟩) hw.2.2.2.2.2.1 _, (h.lblk.far (p := ⟨nb, 0, none⟩) (fun e => hw.2.2.2.2.2.1 e.symm) _).set_ 0 (x 5), ?_, ?_, zb_ h.arow hS1 (fun k hk => hfar k (World.ownsRow.lt h.arow k hk).1), ⟨hw.1, hw.2.1, hw.2.2.1, hw.2.2.2.1, hw.2.2.2.2.1, hw.2.2.2.2.2.1, Nat.le_trans hw.2.2.2.2.2.2 hS1.size⟩⟩, (h.on.mono fun k _ e => .inr (.inr (.inr e))).trans (hS1.mono fun k _ e => e.elim (fun e => .inr (.inl e)) (fun e => .inr (.inr (.inl e))))⟩
 ·rw [List.length_append]; exact zb_ hn hS1 (fun k hk => hfar k (World.ownsRow.lt hn k hk).1)
 ·rw [List.length_append]; exact zb_ hl hS1 (fun k hk => hfar k (World.ownsRow.lt hl k hk).1)
theorem dig3 {w : World} {i : Nat} (h : i < 3) : (w.alloc (.cells #[.string ⟨#[48]⟩, .string ⟨#[49]⟩, .string ⟨#[50]⟩] 9)).cell? ⟨w.heap.size, i, none⟩ = some (.string (digB i)) := by
 rw [(Blk.new w _ _).cell]
 rcases (show i = 0 ∨ i = 1 ∨ i = 2 by omega) with rfl | rfl | rfl <;> rfl
theorem dig4 {w : World} {i : Nat} (h : i < 4) : (w.alloc (.cells #[.string ⟨#[48]⟩, .string ⟨#[49]⟩, .string ⟨#[50]⟩, .string ⟨#[51]⟩] 9)).cell? ⟨w.heap.size, i, none⟩ = some (.string (digB i)) := by
 rw [(Blk.new w _ _).cell]
 rcases (show i = 0 ∨ i = 1 ∨ i = 2 ∨ i = 3 by omega) with rfl | rfl | rfl | rfl <;> rfl
theorem dig4l {m : Nat} (h4 : m < 4) : ∀ h : m < ([Value.string ⟨#[48]⟩, .string ⟨#[49]⟩, .string ⟨#[50]⟩, .string ⟨#[51]⟩] : List Value).length, ([Value.string ⟨#[48]⟩, .string ⟨#[49]⟩, .string ⟨#[50]⟩, .string ⟨#[51]⟩] : List Value)[m]'h = .string (digB m) := by
 rcases (show m = 0 ∨ m = 1 ∨ m = 2 ∨ m = 3 by omega) with rfl | rfl | rfl | rfl <;> (intro _; rfl)
theorem parP {n e : Int} (h1 : 1 ≤ n) (h2 : n ≤ 3) (he : 1 ≤ e ∧ e ≤ 16) : ∃ P5 : Int, IntKind.i64.wrap (15 + e) = 15 + e ∧ IntKind.i64.wrap ((15 + e).tdiv e) = P5 ∧ (15 + e) / e = P5 ∧ IntKind.i64.wrap (n + P5) = n + P5 ∧ 0 ≤ P5 ∧ (15 + e) / e = P5 := by
 have hc : 0 ≤ (15 + e) / e := Int.ediv_nonneg (by omega) (by omega)
 have hd : (15 + e) / e ≤ 15 + e := Int.ediv_le_self _ (by omega)
 refine ⟨(15 + e) / e, IntWalk.i64_in _ (by omega), ?_, rfl, IntWalk.i64_in _ (by omega), hc, rfl⟩
 rw [Int.tdiv_eq_ediv_of_nonneg (by omega)]; exact IntWalk.i64_in _ (by omega)
theorem logP {n e : Int} (h1 : 1 ≤ n) (h2 : n ≤ 3) (he : 1 ≤ e ∧ e ≤ 16) : ∃ P1 P3 P5 : Int, IntKind.i64.wrap (n * e) = P1 ∧ IntKind.i64.wrap (P1 + 63) = P1 + 63 ∧ IntKind.i64.wrap ((P1 + 63).tdiv 64) = P3 ∧ (P1 + 63) / 64 = P3 ∧ IntKind.i64.wrap (1 + P3) = 1 + P3 ∧ IntKind.i64.wrap ((1 + P3).tdiv e) = P5 ∧ (1 + P3) / e = P5 ∧ IntKind.i64.wrap (1 + P5) = 1 + P5 ∧ logL n e = 1 + P5 ∧ 0 ≤ P5 := by
 have hle : n * e ≤ 48 := by
  have h1 : n * e ≤ 3 * e := Int.mul_le_mul_of_nonneg_right h2 (by omega);omega
 have hge : 0 ≤ n * e := Int.mul_nonneg (by omega) (by omega)
 have hb : 0 ≤ (n * e + 63) / 64 ∧ (n * e + 63) / 64 ≤ 1 := by omega
 have hc : 0 ≤ (1 + (n * e + 63) / 64) / e := Int.ediv_nonneg (by omega) (by omega)
 have hd : (1 + (n * e + 63) / 64) / e ≤ 1 + (n * e + 63) / 64 := Int.ediv_le_self _ (by omega)
 refine ⟨n * e, (n * e + 63) / 64, (1 + (n * e + 63) / 64) / e, IntWalk.i64_in _ (by omega), IntWalk.i64_in _ (by omega), ?_, rfl, IntWalk.i64_in _ (by omega), ?_, rfl, IntWalk.i64_in _ (by omega), rfl, hc⟩
 ·rw [Int.tdiv_eq_ediv_of_nonneg (by omega)]; exact IntWalk.i64_in _ (by omega)
 ·rw [Int.tdiv_eq_ediv_of_nonneg (by omega)]; exact IntWalk.i64_in _ (by omega)
theorem Qu_ {W base n : Nat} {v : Value} {l : List ByteArray} (h : w.ownsRow base 9 1 v n (T l)) (hW : W < base) : TL w (fun k => W < k) v l := by
 have hn : n = l.length := by have := h.1; simp [T] at this; exact this.symm
 subst hn
 have ho : OS txW (fun k => W < k) w base 9 1 v l (l.map fun s => [.string s]) := ⟨by simp, by
  have e : (l.map fun s => [Value.string s]).flatten = T l := by
   clear h;induction l with
   | nil => rfl
   | cons a r ih => simp [T] at ih ⊢; exact ih
  rw [e]; exact h, fun k c x hc hx => by
  rw [List.getElem?_map, hx] at hc;simp at hc;exact hc.symm⟩
 exact ho.lr txL (by decide) (fun _ h => h) (fun k hk => by have := (World.ownsRow.lt h k hk).1; omega)
theorem Qv_ {W base n : Nat} {v : Value} {l : List Int} (h : w.ownsRow base 3 1 v n (I l)) (hW : W < base) : IL w (fun k => W < k) v l := by
 have hn : n = l.length := by have := h.1; simp [I] at this; exact this.symm
 subst hn
 have ho : OS inW (fun k => W < k) w base 3 1 v l (l.map fun s => [.int .i64 s]) := ⟨by simp, by
  have e : (l.map fun s => [Value.int .i64 s]).flatten = I l := by
   clear h;induction l with
   | nil => rfl
   | cons a r ih => simp [I] at ih ⊢; exact ih
  rw [e]; exact h, fun k c x hc hx => by
  rw [List.getElem?_map, hx] at hc;simp at hc;exact hc.symm⟩
 exact ho.lr inL (by decide) (fun _ h => h) (fun k hk => by have := (World.ownsRow.lt h k hk).1; omega)
theorem Qw_ {W base n : Nat} {v : Value} {l : List Ar} (h : w.ownsRow base 60 3 v n (aC l)) (hn : n = l.length) (hW : W < base) : AL w (fun k => W < k) v l := by
 subst hn
 have ho : OS arW (fun k => W < k) w base 60 3 v l (l.map fun s => (arA s).toList) := ⟨by simp, h, fun k c x hc hx => by
  rw [List.getElem?_map, hx] at hc;simp at hc;exact hc.symm⟩
 exact ho.lr arL (by decide) (fun _ h => h) (fun k hk => by have := (World.ownsRow.lt h k hk).1; omega)
theorem PW.done {name : ByteArray} {kind n : Int} {x : Sg} (h : PW B S w bb sb β vt vd vv vn css W0 xl xk xc xm xg vN vL vA names lens areas wx) (hx : CmpX name kind β.g.extent n (names.zip lens) x) (hl : names.length = lens.length) (he : x = ⟨0, xl, xk, areas, xc, [], xg, ⟨#[]⟩, 0, xm, 0⟩) : FPR B S w bb sb β vt vd vv vn css name kind n W0 wx := by
 subst he
 refine ⟨_, _, vN, vL, vA, .slice none 0 0, hx, h.cp.xblk, h.cp.nblk, h.cp.lblk, ?_, ?_, Qw_ h.cp.arow rfl (by omega), LR.nil, h.bu, h.nx⟩
 ·rw [List.map_fst_zip (by omega)]; exact Qu_ h.cp.nrow (by omega)
 ·rw [List.map_snd_zip (by omega)]; exact Qv_ h.cp.lrow (by omega)
theorem PW.doneS {name : ByteArray} {kind n : Int} {x : Sg} (h : PW B S w bb sb β vt vd vv vn css W0 xl xk xc xm xg vN vL vA names lens areas wx) (st : Int) (hx : CmpX name kind β.g.extent n (names.zip lens) x) (hl : names.length = lens.length) (he : x = ⟨0, xl, xk, areas, xc, [st], xg, ⟨#[]⟩, 0, xm, 0⟩) :
  FPR B S w bb sb β vt vd vv vn css name kind n W0 ((wx.alloc (.cells #[.int .i64 st] 3)).setCell ⟨W0, 5, none⟩ (.slice (some ⟨wx.heap.size, 0, none⟩) 1 1)) := by
 subst he
 have hl2 := h.cp.low
 have hb := h.bl
 have ho : Only (· = W0) (wx.alloc (.cells #[.int .i64 st] 3)) ((wx.alloc (.cells #[.int .i64 st] 3)).setCell ⟨W0, 5, none⟩ (.slice (some ⟨wx.heap.size, 0, none⟩) 1 1)) := (Only.refl (· = W0) _).setCell (p := ⟨W0, 5, none⟩) (.inl rfl) _
 have hu := h.up ((Below.refl _ _).al (.cells #[.int .i64 st] 3))
 have hk : Kept (fun k => W0 < k) (wx.alloc (.cells #[.int .i64 st] 3)) ((wx.alloc (.cells #[.int .i64 st] 3)).setCell ⟨W0, 5, none⟩ (.slice (some ⟨wx.heap.size, 0, none⟩) 1 1)) := Kept.of_only ho (fun g hg e => by subst e; exact Nat.lt_irrefl _ hg)
 refine ⟨_, _, vN, vL, vA, .slice (some ⟨wx.heap.size, 0, none⟩) 1 1, hx, hu.cp.xblk.set_ 5 _, hu.cp.nblk.only ho (by omega), hu.cp.lblk.only ho (by omega), ?_, ?_, AL.keep (Qw_ hu.cp.arow rfl (by omega)) hk (fun _ h => h), ?_, hu.bu.far ho (fun k e hk => by have h2 := h.mt k hk; omega) (fun k e hk => by have h2 := hk.2; omega) (fun k e => by omega), ⟨hu.nx.only.trans_ ho (fun k hk e => by omega), hu.nx.deep, hu.nx.turn⟩⟩
 ·rw [List.map_fst_zip (by omega)]; exact TL.keep (Qu_ hu.cp.nrow (by omega)) hk (fun _ h => h)
 ·rw [List.map_snd_zip (by omega)]; exact IL.keep (Qv_ hu.cp.lrow (by omega)) hk (fun _ h => h)
 ·have hbn := (Blk.new wx 3 #[.int .i64 st]).only ho (by omega)
  exact LR.one (by have := hbn.lt; exact this) (show W0 < wx.heap.size by omega) (show IntC _ _ _ from by unfold IntC; rw [hbn.cell]; rfl)
end
def xf_ (B : Nat) (S : Nat → Prop) (w : World) (bb sb : Nat) (β : Be) (vt vd vv vn : Value) (name : ByteArray) (kind : Int) (e : Ending) (w' : World) : Prop :=
 ∃ β' vv' vn' css' S', CompR β name kind β' ∧ e = .returned (.tuple #[]) ∧ BU B S' w' bb sb β' vt vd vv' vn' css' ∧ Nx S (Mt bb sb vv vn) w S' (Mt bb sb vv' vn') w'
theorem jK_ {α β : Type} : ∀ l : List (α × β), (l.map Prod.fst).zip (l.map Prod.snd) = l
 | [] => rfl
 | (a, b) :: l => by simp [jK_ l]
structure CF (B : Nat) (S : Nat → Prop) (wr : World) (bb sb : Nat) (β : Be) (vt vd vv vn : Value) (css : List (List Value)) (name : ByteArray) (SC : Array Value) (d : Nat → Bool) (x : Nat → Value) (w : World) : Prop where
 bu : BU B S w bb sb (if d 1 then zK_ β else β) vt vd vv vn css
 on : Only (Mt bb sb vv vn) wr w
 mt : ∀ k, Mt bb sb vv vn k → k < wr.heap.size
 f0 : d 0 = true → x 0 = vv
 f1 : d 1 = true → x 1 = .int .u64 (idB β)
 f2 : d 2 = true → ∃ z, x 2 = .int .i64 z
 f3 : d 3 = true → ∃ ro, x 3 = .bool ro
 f4 : d 4 = true → ∃ A c l, l.Sublist tagL ∧ x 4 = .slice A l.length c ∧ TL w (fun k => wr.heap.size ≤ k) (.slice A l.length c) l
 f5 : d 5 = true → ∃ g, x 5 = .slice (some ⟨g, 0, none⟩) 1 1 ∧ wr.heap.size ≤ g ∧ Blk w g 58 SC
 f6 : d 6 = true → x 6 = .agg #[.string name, x 1, .bool false, x 3, x 4, x 5]
 f7 : d 7 = true → ∃ g, x 7 = .slice (some ⟨g, 0, none⟩) 1 1 ∧ wr.heap.size ≤ g ∧ Blk w g 53 #[.string name, x 1, .bool false, x 3, x 4, x 5]
section
variable {B : Nat} {S : Nat → Prop} {wr w w' : World} {bb sb : Nat} {β : Be} {vt vd vv vn v : Value} {css : List (List Value)} {name : ByteArray} {SC : Array Value} {d : Nat → Bool} {x : Nat → Value}
theorem CF.start (h : BU B S wr bb sb β vt vd vv vn css) (x : Nat → Value) : CF B S wr bb sb β vt vd vv vn css name SC none_ x wr.drew :=
 ⟨h.up (Below.refl _ _).drew, (Only.refl _ _).drew, fun k hk => (h.mlt hk).2, (fun h => by cases h), (fun h => by cases h), (fun h => by cases h), (fun h => by cases h), (fun h => by cases h), (fun h => by cases h), (fun h => by cases h), (fun h => by cases h)⟩
theorem CF.s0 (h : CF B S wr bb sb β vt vd vv vn css name SC d x w) : CF B S wr bb sb β vt vd vv vn css name SC (upd d 0 true) (upd x 0 vv) w :=
 ⟨h.bu, h.on, h.mt, fun _ => rfl, h.f1, h.f2, h.f3, h.f4, h.f5, h.f6, h.f7⟩
theorem CF.k5 (h : CF B S wr bb sb β vt vd vv vn css name SC d x w) (ho : Only (Mt bb sb vv vn) w w') (e : d 5 = true) : ∃ g, x 5 = .slice (some ⟨g, 0, none⟩) 1 1 ∧ wr.heap.size ≤ g ∧ Blk w' g 58 SC := by
 obtain ⟨g, e, h1, h2⟩ := h.f5 e
 exact ⟨g, e, h1, zC_ h2 h1 ho h.mt⟩
theorem CF.s1 (h : CF B S wr bb sb β vt vd vv vn css name SC d x w) (h2 : d 2 = false) (h3 : d 3 = false) (h4 : d 4 = false) (h6 : d 6 = false) (h7 : d 7 = false) (hb : BU B S w' bb sb (zK_ β) vt vd vv vn css) (ho : Only (Mt bb sb vv vn) w w') : CF B S wr bb sb β vt vd vv vn css name SC (upd d 1 true) (upd x 1 (.int .u64 (idB β))) w' :=
 ⟨hb, h.on.trans ho, h.mt, h.f0, fun _ => rfl, fun e => tf e h2, fun e => tf e h3, fun e => tf e h4, h.k5 ho, fun e => tf e h6, fun e => tf e h7⟩
theorem CF.s2 {z : Int} (h : CF B S wr bb sb β vt vd vv vn css name SC d x w) (h4 : d 4 = false) (h6 : d 6 = false) (h7 : d 7 = false) (hs : SrcOk B w' sb) (ho : Only (· = sb) w w') : CF B S wr bb sb β vt vd vv vn css name SC (upd d 2 true) (upd x 2 (.int .i64 z)) w' :=
 ⟨h.bu.src_ hs ho, h.on.trans (ho.mono fun _ _ e => .inr (.inl e)), h.mt, h.f0, h.f1, fun _ => ⟨z, rfl⟩, h.f3, fun e => tf e h4, h.k5 (ho.mono fun _ _ e => .inr (.inl e)), fun e => tf e h6, fun e => tf e h7⟩
theorem CF.s3 {ro : Bool} (h : CF B S wr bb sb β vt vd vv vn css name SC d x w) (h6 : d 6 = false) (h7 : d 7 = false) : CF B S wr bb sb β vt vd vv vn css name SC (upd d 3 true) (upd x 3 (.bool ro)) w :=
 ⟨h.bu, h.on, h.mt, h.f0, h.f1, h.f2, fun _ => ⟨ro, rfl⟩, h.f4, h.f5, fun e => tf e h6, fun e => tf e h7⟩
theorem CF.s4 {A : Option Addr} {c : Nat} {l : List ByteArray} (h : CF B S wr bb sb β vt vd vv vn css name SC d x w) (h6 : d 6 = false) (h7 : d 7 = false) (hs : SrcOk B w' sb) (ho : Only (· = sb) w w') (hl : l.Sublist tagL) (ht : TL w' (fun k => w.heap.size ≤ k) (.slice A l.length c) l) : CF B S wr bb sb β vt vd vv vn css name SC (upd d 4 true) (upd x 4 (.slice A l.length c)) w' :=
 ⟨h.bu.src_ hs ho, h.on.trans (ho.mono fun _ _ e => .inr (.inl e)), h.mt, h.f0, h.f1, h.f2, h.f3, fun _ => ⟨A, c, l, hl, rfl, TL.keep ht Kept.same (fun g hg => Nat.le_trans h.on.size hg)⟩, h.k5 (ho.mono fun _ _ e => .inr (.inl e)), fun e => tf e h6, fun e => tf e h7⟩
theorem CF.s5 (h : CF B S wr bb sb β vt vd vv vn css name SC d x w) (h6 : d 6 = false) (h7 : d 7 = false) : CF B S wr bb sb β vt vd vv vn css name SC (upd d 5 true) (upd x 5 (.slice (some ⟨w.heap.size, 0, none⟩) 1 1)) (w.alloc (.cells SC 58)) :=
 ⟨h.bu.up ((Below.refl _ _).al _), h.on.alloc _, h.mt, h.f0, h.f1, h.f2, h.f3, fun e => by
  obtain ⟨A, c, l, h1, h2, h3⟩ := h.f4 e;exact ⟨A, c, l, h1, h2, h3.up ((Below.refl _ _).al _)⟩, fun _ => ⟨_, rfl, h.on.size, Blk.new w _ _⟩, fun e => tf e h6, fun e => tf e h7⟩
theorem CF.s6 (h : CF B S wr bb sb β vt vd vv vn css name SC d x w) (h7 : d 7 = false) : CF B S wr bb sb β vt vd vv vn css name SC (upd d 6 true) (upd x 6 (.agg #[.string name, x 1, .bool false, x 3, x 4, x 5])) w :=
 ⟨h.bu, h.on, h.mt, h.f0, h.f1, h.f2, h.f3, h.f4, h.f5, fun _ => rfl, fun e => tf e h7⟩
theorem CF.s7 (h : CF B S wr bb sb β vt vd vv vn css name SC d x w) : CF B S wr bb sb β vt vd vv vn css name SC (upd d 7 true) (upd x 7 (.slice (some ⟨w.heap.size, 0, none⟩) 1 1)) (w.alloc (.cells #[.string name, x 1, .bool false, x 3, x 4, x 5] 53)) :=
 ⟨h.bu.up ((Below.refl _ _).al _), h.on.alloc _, h.mt, h.f0, h.f1, h.f2, h.f3, fun e => by
  obtain ⟨A, c, l, h1, h2, h3⟩ := h.f4 e;exact ⟨A, c, l, h1, h2, h3.up ((Below.refl _ _).al _)⟩, fun e => by
  obtain ⟨g, e, h1, h2⟩ := h.f5 e;exact ⟨g, e, h1, h2.alloc _⟩, h.f6, fun _ => ⟨_, rfl, h.on.size, Blk.new w _ _⟩⟩
theorem za_ {k j i : Nat} {D : List (List Nat)} {d : Nat → Bool} (hcl : zA_ k D d = true) (hi : d i = false) (hj : j < k) (hm : i ∈ D.getD j []) : d j = false := Bool.eq_false_iff.2 fun e => tf (zc_ hcl j i hj hm e) hi
end
end Go.Proofs.YtdkcfgahdcpkkaaDoor
