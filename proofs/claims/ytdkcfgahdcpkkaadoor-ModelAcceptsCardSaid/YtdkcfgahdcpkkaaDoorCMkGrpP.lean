/- Groups that are made, in plain words. -/
import Derived.Test.YtdkcfgahdcpkkaaDoorCFlags
import Derived.Test.YtdkcfgahdcpkkaaDoorCMkMore
import Derived.Test.YtdkcfgahdcpkkaaDoorCMkCmp3
import Derived.Test.YtdkcfgahdcpkkaaDoorCMkCmp4
import Derived.Test.YtdkcfgahdcpkkaaDoorCMkCmp5
import Derived.Test.YtdkcfgahdcpkkaaDoorCMkCmp7
import Derived.Test.YtdkcfgahdcpkkaaDoorCMkStr
set_option linter.all false
namespace Go.Proofs.YtdkcfgahdcpkkaaDoor
open Go.RowKit
def allC (D : List (List Nat)) : Nat → List (List Bool)
 | 0 => [[]]
 | k + 1 => (allC D k).flatMap fun l => bif (D.getD k []).all (fun i => l.getD i false) then [l ++ [false], l ++ [true]] else [l ++ [false]]
def topB (k : Nat) (D : List (List Nat)) : Bool := (List.range k).all fun j => (D.getD j []).all fun i => Nat.blt i j
theorem Ym_ {k : Nat} {D : List (List Nat)} (h : topB k D = true) {j i : Nat} (hj : j < k) (hi : i ∈ D.getD j []) : i < j :=
 Nat.le_of_ble_eq_true (List.all_eq_true.1 (List.all_eq_true.1 h j (List.mem_range.2 hj)) i hi)
def chkC (k : Nat) (B : List Nat) (D : List (List Nat)) (R : (Nat → Bool) → List Nat) : Bool :=
 (allC D k).all fun l => Z4_ k B D R (fnL l)
theorem k2_ {D : List (List Nat)} {d : Nat → Bool} : ∀ k, topB k D = true → zA_ k D d = true → ((List.range k).map d) ∈ allC D k
 | 0, _, _ => by simp [allC]
 | k + 1, ht, hc => by
  have ht' : topB k D = true := List.all_eq_true.2 fun j hj => List.all_eq_true.1 ht j (List.mem_range.2 (Nat.lt_succ_of_lt (List.mem_range.1 hj)));have hc' : zA_ k D d = true := List.all_eq_true.2 fun j hj => List.all_eq_true.1 hc j (List.mem_range.2 (Nat.lt_succ_of_lt (List.mem_range.1 hj)));have ih := k2_ k ht' hc';rw [List.range_succ, List.map_append];simp only [allC, List.mem_flatMap];refine ⟨_, ih, ?_⟩;cases hd : d k with
  | false =>
   simp only [List.map_cons, List.map_nil, hd];cases (D.getD k []).all (fun i => ((List.range k).map d).getD i false) <;> simp
  | true =>
   have hk := List.all_eq_true.1 hc k (List.mem_range.2 (Nat.lt_succ_self k));rw [hd, Bool.not_true, Bool.false_or] at hk
   have : (D.getD k []).all (fun i => ((List.range k).map d).getD i false) = true := by
    rw [List.all_eq_true] at hk ⊢;intro i hi;have hik := Ym_ ht (Nat.lt_succ_self k) hi;simp [List.getD, hik];exact hk i hi
   rw [this];simp [hd]
theorem Qj_ {k : Nat} {B : List Nat} {D : List (List Nat)} {R : (Nat → Bool) → List Nat} (ht : topB k D = true) (h : chkC k B D R = true) {d : Nat → Bool} (hc : zA_ k D d = true) : Z4_ k B D R (nrm k d) = true :=
 List.all_eq_true.1 h _ (k2_ k ht hc)
section
variable {P : Program} {md : Region.Mode} {ops : Array Oper} {Q : Exit → Act → World → Prop} {S : World → Prop} {k f : Nat} {L : (Nat → Bool) → Array Bool} {B : List Nat} {D : List (List Nat)} {mk : (Nat → Value) → Act} {F : (Nat → Bool) → (Nat → Value) → World → Prop}
theorem Q3_ (hchk : chkC k B D (fun d => Region.ready md ops (L d)) = true) (hset : ∀ j, j < k → ∀ d, (L d).setIfInBounds (B.getD j 0) true = L (upd d j true)) (hL : ∀ d, L d = L (nrm k d))
  (hDD : topB k D = true)
  (hS : ∀ d x w, F d x w → S w)
  (hstep : ∀ j, j < k → ∀ d x w, F d x w → zA_ k D d = true → d j = false → (∀ i ∈ D.getD j [], d i = true) → ∀ K : Act → World → Prop, (∀ v w', F (upd d j true) (upd x j v) w' → K (mk (upd x j v)) w') → wpOp P ops Q (B.getD j 0) K (mk x) w)
  (hfin : ∀ d x w, (∀ i, i < k → d i = true) → F d x w → wpAnyH P md ops Q S f (L d) (mk x) w) :
  ∀ (n : Nat) (d : Nat → Bool) (x : Nat → Value) (w : World), left k d = n → zA_ k D d = true → F d x w → wpAnyH P md ops Q S (n + f) (L d) (mk x) w := by
 have hD : ∀ j, j < k → ∀ i ∈ D.getD j [], i < k := fun j hj i hi => Nat.lt_trans (Ym_ hDD hj hi) hj
 intro n
 induction n with
 | zero =>
  intro d x w hn _ hF;rw [Nat.zero_add];exact hfin d x w (qv_ k hn) hF
 | succ n ih =>
  intro d x w hn hcl hF;have hc1 := Qj_ hDD hchk hcl
  have hall : ∀ l : List Nat, (∀ i ∈ l, i < k) → l.all (nrm k d) = l.all d := fun l hl => by
   rw [Bool.eq_iff_iff, List.all_eq_true, List.all_eq_true];exact ⟨fun h i hi => (yR_ (hl i hi)).symm.trans (h i hi), fun h i hi => (yR_ (hl i hi)).trans (h i hi)⟩
  have hcl' : zA_ k D (nrm k d) = true := by
   unfold zA_ at hcl ⊢;rw [List.all_eq_true] at hcl ⊢;intro j hj;have hj' := List.mem_range.1 hj;rw [yR_ hj', hall _ (hD j hj')];exact hcl j hj
  unfold Z4_ at hc1;rw [hcl', hall _ (fun i hi => List.mem_range.1 hi)] at hc1;dsimp only at hc1
  rw [← hL] at hc1
  have hna : (List.range k).all d = false := by
   obtain ⟨i, hi, hd⟩ := jr_ (d := d) k (by omega);cases h : (List.range k).all d with
   | false => rfl
   | true =>
    have := List.all_eq_true.1 h i (List.mem_range.2 hi);rw [hd] at this;cases this
  rw [hna, Bool.not_true, Bool.false_or, Bool.false_or, Bool.and_eq_true, Bool.not_eq_true', List.isEmpty_eq_false_iff, List.all_eq_true] at hc1;rw [show n + 1 + f = (n + f) + 1 by omega];refine wpAnyH_all rfl hc1.1 (fun i hi => ?_);have hx := hc1.2 i hi;rw [List.any_eq_true] at hx;obtain ⟨j, hj, hx⟩ := hx;have hj' := List.mem_range.1 hj;rw [Bool.and_eq_true, Bool.and_eq_true, yR_ hj', hall _ (hD j hj'), Bool.not_eq_true', List.all_eq_true] at hx;obtain ⟨hb, hd, hdep⟩ := hx;have hb' : i = B.getD j 0 := Nat.eq_of_beq_eq_true hb;subst hb';refine hstep j hj' d x w hF hcl hd hdep _ (fun v w' h => ⟨hS _ _ _ h, ?_⟩);have he := hset j hj' d;rw [he];refine ih _ _ _ (by have := jq_ hd k hj'; omega) ?_ h;unfold zA_;rw [List.all_eq_true];intro m hm;have hm' := List.mem_range.1 hm;by_cases e : m = j
  ·subst e
   rw [yK_, Bool.not_true, Bool.false_or, List.all_eq_true];intro i hi;by_cases e2 : i = m
   ·subst e2; exact yK_ d i true
   ·rw [xX_ d true e2]; exact hdep i hi
  ·rw [xX_ d true e]
   have := List.all_eq_true.1 hcl m hm;rw [Bool.or_eq_true] at this ⊢;refine this.imp id (fun h => ?_);rw [List.all_eq_true] at h ⊢;intro i hi;by_cases e2 : i = j
   ·subst e2; exact yK_ d i true
   ·rw [xX_ d true e2]; exact h i hi
theorem ku_ {a : Act} {w0 : World} {listed : Array Bool} {fuel : Nat} (hchk : chkC k B D (fun d => Region.ready md ops (L d)) = true) (hset : ∀ j, j < k → ∀ d, (L d).setIfInBounds (B.getD j 0) true = L (upd d j true)) (hL : ∀ d, L d = L (nrm k d))
  (hDD : topB k D = true)
  (hS : ∀ d x w, F d x w → S w)
  (hstep : ∀ j, j < k → ∀ d x w, F d x w → zA_ k D d = true → d j = false → (∀ i ∈ D.getD j [], d i = true) → ∀ K : Act → World → Prop, (∀ v w', F (upd d j true) (upd x j v) w' → K (mk (upd x j v)) w') → wpOp P ops Q (B.getD j 0) K (mk x) w)
  (hfin : ∀ d x w, (∀ i, i < k → d i = true) → F d x w → wpAnyH P md ops Q S f (L (fun _ => true)) (mk x) w)
  (hfuel : fuel = k + f) (hli : listed = L none_) (x0 : Nat → Value) (hx0 : a = mk x0) (hF0 : F none_ x0 w0) : wpAnyH P md ops Q S fuel listed a w0 := by
 refine xW_ (Q3_ (f := f) hchk hset hL hDD hS hstep (fun d x w hd hF => ?_) k none_ x0 w0 (qw_ k) qJ_ hF0) hfuel hli hx0
 have e : nrm k d = nrm k (fun _ => true) := by
  funext i
  rcases Nat.lt_or_ge i k with hi | hi
  ·rw [yR_ hi, yR_ hi, hd i hi]
  ·rw [kY_ hi, kY_ hi]
 have := hfin d x w hd hF
 rw [hL, ← e, ← hL] at this
 exact this
end
section
variable {P : Program} {md : Region.Mode} {ops : Array Oper} {Q : Exit → Act → World → Prop} {S : World → Prop} {k f : Nat} {L : (Nat → Bool) → Array Bool} {B : List Nat} {D : List (List Nat)} {F : (Nat → Bool) → (Nat → Value) → World → Prop} {ts : List Nat}
theorem kt_ {a : Act} {w0 : World} {listed : Array Bool} {fuel : Nat} (hchk : chkC k B D (fun d => Region.ready md ops (L d)) = true) (hset : ∀ j, j < k → ∀ d, (L d).setIfInBounds (B.getD j 0) true = L (upd d j true)) (hL : ∀ d, L d = L (nrm k d))
  (hDD : topB k D = true)
  (hS : ∀ d x w, F d x w → S w)
  (hstep : ∀ j, j < k → ∀ d x w, F d x w → zA_ k D d = true → d j = false → (∀ i ∈ D.getD j [], d i = true) → ∀ K : Act → World → Prop, (∀ v w', F (upd d j true) (upd x j v) w' → K (putK a ts 0 (upd x j v)) w') → wpOp P ops Q (B.getD j 0) K (putK a ts 0 x) w)
  (hfin : ∀ d x w, (∀ i, i < k → d i = true) → F d x w → wpAnyH P md ops Q S f (L (fun _ => true)) (putK a ts 0 x) w)
  (hfuel : fuel = k + f) (hli : listed = L none_) (hx0 : a = putK a ts 0 (getK a ts)) (hF0 : F none_ (getK a ts) w0) : wpAnyH P md ops Q S fuel listed a w0 :=
 ku_ hchk hset hL hDD hS hstep hfin hfuel hli (getK a ts) hx0 hF0
end
theorem infoD : (Tryd.prog.info? 46).map (fun i => (i.zero, i.size, i.bytes)) = some (some (.agg #[.string ⟨#[]⟩, .int .u64 0, .int .i64 0, .int .i64 0, .bool false, .bool false, .slice none 0 0]), 7, 72) := by kernel_rfl
def extP (z : Int) : Prop := z = 0 ∨ z = 4 ∨ z = 12 ∨ z = 30 ∨ z = 60
def exP (z : Int) : Prop := z = 1 ∨ z = 2 ∨ z = 4 ∨ z = 8 ∨ z = 16
def pvN (k : Nat) : ByteArray := ⟨#[112, 118]⟩ ++ digB k
def DkR (k : Nat) (d : Dk) : Prop := d.name = pvN k ∧ d.id = (k : Int) + 1 ∧ 8 ≤ d.first ∧ d.first ≤ 16 ∧ extP d.ext ∧ d.tags.Sublist tagL
def G0 (id seq ext : Int) (tags : List ByteArray) (disks : List Dk) : Gr := ⟨⟨#[118, 103]⟩, id, seq, ext, 0, tags, disks, [], []⟩
def xn_ (k : Nat) : List Int := List.replicate k 0
theorem Zk_ (k : Nat) : xn_ (k + 1) = xn_ k ++ [0] := List.replicate_succ'
theorem qe_ (k : Nat) : (xn_ k).length = k := List.length_replicate
structure DU (B W : Nat) (S : Nat → Prop) (sb bb : Nat) (id seq ext : Int) (tags : List ByteArray) (disks : List Dk) (m : Nat) (vt vd vn : Value) (css : List (List Value)) (wx : World) : Prop where
 blk : Blk wx bb 75 #[.pointer (some ⟨sb, 0, none⟩), .string ⟨#[118, 103]⟩, .int .u64 id, .int .i64 seq, .int .i64 ext, .int .i64 0, vt, vd, .slice none 0 0, .slice none 0 0, vn]
 src : SrcOk B wx sb
 tl : TL wx S vt tags
 ds : OS dkW S wx W 46 7 vd disks css
 nx : wx.ownsRow W 3 1 vn m (I (xn_ m))
 sS : ∀ k, S k → W ≤ k ∧ k ≠ bb ∧ vd.ownBlock ≠ some k ∧ vn.ownBlock ≠ some k
 wb : W ≤ bb ∧ sb < W ∧ B ≤ W
 low : W ≤ wx.heap.size
section
variable {B W : Nat} {S : Nat → Prop} {sb bb m : Nat} {id seq ext : Int} {tags : List ByteArray} {disks : List Dk} {vt vd vn vd' vn' : Value} {css : List (List Value)} {wx w' w8 : World}
theorem DU.only {F : Nat → Prop} (h : DU B W S sb bb id seq ext tags disks m vt vd vn css wx) (hs : SrcOk B w' sb) (ho : Only F wx w') (hF : ∀ k, F k → k < W) : DU B W S sb bb id seq ext tags disks m vt vd vn css w' :=
 ⟨h.blk.only ho (fun e => by have h1 := hF _ e; have h2 := h.wb.1; omega), hs, TL.keep h.tl (Kept.of_only ho fun g hg e => by have h1 := hF _ e; have h2 := (h.sS g hg).1; omega) (fun _ h => h),
  h.ds.only dkL ho (fun k hk e => by have h1 := hF _ e; have h2 := (h.ds.lt hk).1; omega) (fun k hk e => by have h1 := hF _ e; have h2 := (h.sS k hk).1; omega) (fun _ h => h), zb_ h.nx ho (fun k hk e => by have h1 := hF _ e; have h2 := (World.ownsRow.lt h.nx k hk).1; omega), h.sS, h.wb, Nat.le_trans h.low ho.size⟩
theorem DU.srcd (h : DU B W S sb bb id seq ext tags disks m vt vd vn css wx) (hs : SrcOk B w' sb) (ho : Only (· = sb) wx w') : DU B W S sb bb id seq ext tags disks m vt vd vn css w' := h.only hs ho (fun k e => by have h1 := h.wb.2.1; have e' : k = sb := e; omega)
theorem DU.up (h : DU B W S sb bb id seq ext tags disks m vt vd vn css wx) (hb : Bel wx w') : DU B W S sb bb id seq ext tags disks m vt vd vn css w' := h.only (h.src.below hb) (Only.of_below (fun _ => False) hb) (fun _ h => h.elim)
theorem DU.vdne (h : DU B W S sb bb id seq ext tags disks m vt vd vn css wx) {k : Nat} (hk : vd.ownBlock = some k) : k ≠ bb ∧ vn.ownBlock ≠ some k := ⟨fun e => yG_ h.ds.own (e ▸ hk) h.blk (by decide), fun e => zS_ h.ds.own h.nx (by decide) k hk e⟩
theorem DU.vnne (h : DU B W S sb bb id seq ext tags disks m vt vd vn css wx) {k : Nat} (hk : vn.ownBlock = some k) : k ≠ bb ∧ vd.ownBlock ≠ some k := ⟨fun e => yG_ h.nx (e ▸ hk) h.blk (by decide), fun e => zS_ h.ds.own h.nx (by decide) k e hk⟩
theorem DU.weak {S' : Nat → Prop} (h : DU B W S sb bb id seq ext tags disks m vt vd vn css wx) (hS : ∀ k, S k → k < wx.heap.size → S' k) (hn : ∀ k, S' k → W ≤ k ∧ k ≠ bb ∧ vd.ownBlock ≠ some k ∧ vn.ownBlock ≠ some k) : DU B W S' sb bb id seq ext tags disks m vt vd vn css wx :=
 ⟨h.blk, h.src, TL.keep h.tl.low1 Kept.same (fun k hk => hS k hk.1 hk.2), h.ds.imp dkL hS, h.nx, hn, h.wb, h.low⟩
theorem DU.pushD {d : Dk} {new : List Value} (h : DU B W S sb bb id seq ext tags disks m vt vd vn css wx) (hlo : ∀ k, S k → k < wx.heap.size) (hn : dkW wx S new d) (ho : w8.ownsRow W 46 7 vd' (disks.length + 1) (css.flatten ++ new)) (hg : wx.grownBy w8 vd.ownBlock) (hd : vd'.ownBlock = vd.ownBlock ∨ vd'.ownBlock = some wx.heap.size) :
  DU B W S sb bb id seq ext tags (disks ++ [d]) m vt vd' vn (css ++ [new]) (w8.setCell ⟨bb, 7, none⟩ vd') ∧ Only (fun k => W ≤ k) wx (w8.setCell ⟨bb, 7, none⟩ vd') := by
 have hon : Only (fun k => vd.ownBlock = some k) wx w8 := (Only.refl (fun k => vd.ownBlock = some k) wx).grown hg (fun k e => .inl e)
 have ho2 : Only (· = bb) w8 (w8.setCell ⟨bb, 7, none⟩ vd') := (Only.refl (· = bb) w8).setCell (p := ⟨bb, 7, none⟩) (.inl rfl) vd'
 have hwb := h.wb
 have hblk8 := h.blk.only hon (fun e => (h.vdne e).1 rfl)
 have hv' : ∀ k, vd'.ownBlock = some k → k ≠ bb := fun k hk e => yG_ ho (e ▸ hk) hblk8 (by decide)
 have hsd : ∀ k, S k → vd'.ownBlock ≠ some k := fun k hk e => by
  rcases hd with hd | hd
  ·exact (h.sS k hk).2.2.1 (hd ▸ e)
  ·rw [e] at hd; injection hd with hd; have := hlo k hk; omega
 have hds := h.ds.push dkL ho hg (fun k hk hS => (h.sS k hS).2.2.1 hk) hn (S' := S) (fun k h _ => h)
 refine ⟨⟨hblk8.set_ 7 vd', (h.src.only hon (fun e => by have := (h.ds.lt e).1; omega) (fun k e => by have := (h.ds.lt e).1; omega)).only ho2 (fun e => by have e' : sb = bb := e; omega) (fun k e => by have e' : k = bb := e; omega), TL.keep (TL.keep h.tl (Kept.of_only hon fun g hg e => (h.sS g hg).2.2.1 e) (fun _ h => h)) (Kept.of_only ho2 fun g hg e => (h.sS g hg).2.1 e) (fun _ h => h),
  hds.only dkL ho2 (fun k hk e => hv' k hk e) (fun k hk e => (h.sS k hk).2.1 e) (fun _ h => h), zb_ (zb_ h.nx hon (fun k hk e => (h.vnne hk).2 e)) ho2 (fun k hk e => (h.vnne hk).1 e), fun k hk => ⟨(h.sS k hk).1, (h.sS k hk).2.1, hsd k hk, (h.sS k hk).2.2.2⟩, h.wb, Nat.le_trans h.low (Nat.le_trans hon.size ho2.size)⟩, ?_⟩
 exact (hon.mono fun k _ e => (h.ds.lt e).1).trans_ ho2 (fun k _ e => by have e' : k = bb := e; show W ≤ k; omega)
theorem DU.pushN (h : DU B W S sb bb id seq ext tags disks m vt vd vn css wx) (hlo : ∀ k, S k → k < wx.heap.size) (ho : w8.ownsRow W 3 1 vn' (m + 1) (I (xn_ m) ++ [.int .i64 0])) (hg : wx.grownBy w8 vn.ownBlock) (hd : vn'.ownBlock = vn.ownBlock ∨ vn'.ownBlock = some wx.heap.size) :
  DU B W S sb bb id seq ext tags disks (m + 1) vt vd vn' css (w8.setCell ⟨bb, 10, none⟩ vn') ∧ Only (fun k => W ≤ k) wx (w8.setCell ⟨bb, 10, none⟩ vn') := by
 have hon : Only (fun k => vn.ownBlock = some k) wx w8 := (Only.refl (fun k => vn.ownBlock = some k) wx).grown hg (fun k e => .inl e)
 have ho2 : Only (· = bb) w8 (w8.setCell ⟨bb, 10, none⟩ vn') := (Only.refl (· = bb) w8).setCell (p := ⟨bb, 10, none⟩) (.inl rfl) vn'
 have hwb := h.wb
 have hnl : ∀ k, vn.ownBlock = some k → W ≤ k := fun k e => (World.ownsRow.lt h.nx k e).1
 have hblk8 := h.blk.only hon (fun e => (h.vnne e).1 rfl)
 have hv' : ∀ k, vn'.ownBlock = some k → k ≠ bb := fun k hk e => yG_ ho (e ▸ hk) hblk8 (by decide)
 have hsd : ∀ k, S k → vn'.ownBlock ≠ some k := fun k hk e => by
  rcases hd with hd | hd
  ·exact (h.sS k hk).2.2.2 (hd ▸ e)
  ·rw [e] at hd; injection hd with hd; have := hlo k hk; omega
 refine ⟨⟨hblk8.set_ 10 vn', (h.src.only hon (fun e => by have := hnl _ e; omega) (fun k e => by have := hnl _ e; omega)).only ho2 (fun e => by have e' : sb = bb := e; omega) (fun k e => by have e' : k = bb := e; omega), TL.keep (TL.keep h.tl (Kept.of_only hon fun g hg e => (h.sS g hg).2.2.2 e) (fun _ h => h)) (Kept.of_only ho2 fun g hg e => (h.sS g hg).2.1 e) (fun _ h => h),
  (h.ds.only dkL hon (fun k hk e => (h.vdne hk).2 e) (fun k hk e => (h.sS k hk).2.2.2 e) (fun _ h => h)).only dkL ho2 (fun k hk e => (h.vdne hk).1 e) (fun k hk e => (h.sS k hk).2.1 e) (fun _ h => h), zb_ (by rw [Zk_, QE_]; exact ho) ho2 (fun k hk e => hv' k hk e), fun k hk => ⟨(h.sS k hk).1, (h.sS k hk).2.1, (h.sS k hk).2.2.1, hsd k hk⟩, h.wb, Nat.le_trans h.low (Nat.le_trans hon.size ho2.size)⟩, ?_⟩
 exact (hon.mono fun k _ e => hnl k e).trans_ ho2 (fun k _ e => by have e' : k = bb := e; show W ≤ k; omega)
theorem XW_ {w : World} {base base' n size : Nat} {T : TypeId} {v : Value} {xs : List Value} (h : w.ownsRow base T size v n xs) (hb : base' ≤ base) : w.ownsRow base' T size v n xs := by
 refine ⟨h.1, ?_⟩
 rcases h.2 with h2 | ⟨g, cap, cur, h1, h2, h3⟩
 ·exact .inl h2
 ·exact .inr ⟨g, cap, cur, h1, Nat.le_trans hb h2, h3⟩
theorem DU.bu (h : DU B W S sb bb id seq ext tags disks disks.length vt vd vn css wx) (hd : 1 ≤ disks.length ∧ disks.length ≤ 4) (hdk : ∀ d ∈ disks, extP d.ext) (hex : exP ext) :
  BU B (fun k => S k ∨ vd.ownBlock = some k) wx bb sb ⟨G0 id seq ext tags disks, xn_ disks.length⟩ vt vd (.slice none 0 0) vn [] := by
 have hwb := h.wb
 refine ⟨h.blk, h.src, TL.keep h.tl Kept.same (fun _ h => .inl h), h.ds.lr dkL (by decide) (fun _ h => .inl h) (fun _ h => .inr h), OS.nil, ?_, ?_, by omega, by omega, ⟨(fun e => by cases e), (fun e => by cases e)⟩, ⟨fun e => (h.vnne e).1 rfl, fun e => by have := (World.ownsRow.lt h.nx _ e).1; omega⟩, (fun k e => by cases e), rfl, ?_⟩
 ·show wx.ownsRow B 3 1 vn (xn_ disks.length).length (I (xn_ disks.length))
  rw [qe_]; exact XW_ h.nx hwb.2.2
 ·rintro k (hk | hk) (e | e | e | e)
  ·exact (h.sS k hk).2.1 e
  ·have := (h.sS k hk).1; omega
  ·cases e
  ·exact (h.sS k hk).2.2.2 e
  ·exact (h.vdne hk).1 e
  ·have := (h.ds.lt hk).1; omega
  ·cases e
  ·exact (h.vdne hk).2 e
 ·refine ⟨hd, by show (xn_ disks.length).length = disks.length; rw [qe_], fun d hdm => ?_, fun i z d hi hdi => ?_, ?_⟩
  ·have := hdk d hdm; unfold extP at this; show 0 ≤ d.ext ∧ d.ext ≤ 60; omega
  ·have h1 := List.mem_of_getElem? hi
   have h2 : z = 0 := (List.mem_replicate.1 h1).2;have h3 := hdk d (List.mem_of_getElem? hdi); unfold extP at h3;omega
  ·unfold exP at hex; show 1 ≤ ext ∧ ext ≤ 16; omega
end
structure DF (B W : Nat) (S : Nat → Prop) (sb bb : Nat) (id seq ext : Int) (tags : List ByteArray) (disks : List Dk) (m : Nat) (vt vd vn : Value) (css : List (List Value)) (wr : World) (k : Nat) (d : Nat → Bool) (x : Nat → Value) (w : World) : Prop where
 du : DU B W S sb bb id seq ext tags disks m vt vd vn css w
 on : Only (· = sb) wr w
 mt : sb < wr.heap.size
 f0 : d 0 = true → x 0 = vd
 f1 : d 1 = true → ∃ g, x 1 = .slice (some ⟨g, 0, none⟩) 4 4 ∧ wr.heap.size ≤ g ∧ Blk w g 9 #[.string ⟨#[48]⟩, .string ⟨#[49]⟩, .string ⟨#[50]⟩, .string ⟨#[51]⟩]
 f2 : d 2 = true → ∃ g, x 2 = .pointer (some ⟨g, k, none⟩) ∧ wr.heap.size ≤ g ∧ Blk w g 9 #[.string ⟨#[48]⟩, .string ⟨#[49]⟩, .string ⟨#[50]⟩, .string ⟨#[51]⟩]
 f3 : d 3 = true → x 3 = .string (digB k)
 f4 : d 4 = true → x 4 = .string (pvN k)
 f5 : d 5 = true → ∃ z : Int, (0 ≤ z ∧ z ≤ 8) ∧ x 5 = .int .i64 z
 f6 : d 6 = true → ∃ z : Int, (8 ≤ z ∧ z ≤ 16) ∧ x 6 = .int .i64 z
 f7 : d 7 = true → ∃ g, x 7 = .slice (some ⟨g, 0, none⟩) 5 5 ∧ wr.heap.size ≤ g ∧ Blk w g 3 #[.int .i64 0, .int .i64 4, .int .i64 12, .int .i64 30, .int .i64 60]
 f8 : d 8 = true → ∃ z : Int, extP z ∧ x 8 = .int .i64 z
 f9 : d 9 = true → ∃ z : Int, x 9 = .int .i64 z
 f10 : d 10 = true → ∃ b, x 10 = .bool b
 f11 : d 11 = true → ∃ z : Int, x 11 = .int .i64 z
 f12 : d 12 = true → ∃ b, x 12 = .bool b
 f13 : d 13 = true → ∃ A c l, l.Sublist tagL ∧ x 13 = .slice A l.length c ∧ TL w (fun k => wr.heap.size ≤ k) (.slice A l.length c) l
 f14 : d 14 = true → x 14 = .agg #[x 4, .int .u64 ((k : Int) + 1), x 6, x 8, x 10, x 12, x 13]
 f15 : d 15 = true → ∃ g, x 15 = .slice (some ⟨g, 0, none⟩) 1 1 ∧ wr.heap.size ≤ g ∧ Blk w g 46 #[x 4, .int .u64 ((k : Int) + 1), x 6, x 8, x 10, x 12, x 13]
section
variable {B W : Nat} {S : Nat → Prop} {sb bb : Nat} {id seq ext : Int} {tags : List ByteArray} {disks : List Dk} {m k : Nat} {vt vd vn : Value} {css : List (List Value)} {wr w w' : World} {d : Nat → Bool} {x : Nat → Value}
theorem DF.k1 (h : DF B W S sb bb id seq ext tags disks m vt vd vn css wr k d x w) (ho : Only (· = sb) w w') (e : d 1 = true) : ∃ g, x 1 = .slice (some ⟨g, 0, none⟩) 4 4 ∧ wr.heap.size ≤ g ∧ Blk w' g 9 #[.string ⟨#[48]⟩, .string ⟨#[49]⟩, .string ⟨#[50]⟩, .string ⟨#[51]⟩] := by
 obtain ⟨g, e, h1, h2⟩ := h.f1 e
 exact ⟨g, e, h1, zC_ h2 h1 ho (fun k (e : k = sb) => e ▸ h.mt)⟩
theorem DF.k2 (h : DF B W S sb bb id seq ext tags disks m vt vd vn css wr k d x w) (ho : Only (· = sb) w w') (e : d 2 = true) : ∃ g, x 2 = .pointer (some ⟨g, k, none⟩) ∧ wr.heap.size ≤ g ∧ Blk w' g 9 #[.string ⟨#[48]⟩, .string ⟨#[49]⟩, .string ⟨#[50]⟩, .string ⟨#[51]⟩] := by
 obtain ⟨g, e, h1, h2⟩ := h.f2 e
 exact ⟨g, e, h1, zC_ h2 h1 ho (fun k (e : k = sb) => e ▸ h.mt)⟩
theorem DF.k7 (h : DF B W S sb bb id seq ext tags disks m vt vd vn css wr k d x w) (ho : Only (· = sb) w w') (e : d 7 = true) : ∃ g, x 7 = .slice (some ⟨g, 0, none⟩) 5 5 ∧ wr.heap.size ≤ g ∧ Blk w' g 3 #[.int .i64 0, .int .i64 4, .int .i64 12, .int .i64 30, .int .i64 60] := by
 obtain ⟨g, e, h1, h2⟩ := h.f7 e
 exact ⟨g, e, h1, zC_ h2 h1 ho (fun k (e : k = sb) => e ▸ h.mt)⟩
theorem DF.k13 (h : DF B W S sb bb id seq ext tags disks m vt vd vn css wr k d x w) (ho : Only (· = sb) w w') (e : d 13 = true) : ∃ A c l, l.Sublist tagL ∧ x 13 = .slice A l.length c ∧ TL w' (fun k => wr.heap.size ≤ k) (.slice A l.length c) l := by
 obtain ⟨A, c, l, h1, e, h2⟩ := h.f13 e
 exact ⟨A, c, l, h1, e, TL.keep h2 (Kept.of_only ho fun g hg e => by have h1 := (fun k (e : k = sb) => e ▸ h.mt) g e; omega) (fun _ h => h)⟩
theorem DF.k15 (h : DF B W S sb bb id seq ext tags disks m vt vd vn css wr k d x w) (ho : Only (· = sb) w w') (e : d 15 = true) : ∃ g, x 15 = .slice (some ⟨g, 0, none⟩) 1 1 ∧ wr.heap.size ≤ g ∧ Blk w' g 46 #[x 4, .int .u64 ((k : Int) + 1), x 6, x 8, x 10, x 12, x 13] := by
 obtain ⟨g, e, h1, h2⟩ := h.f15 e
 exact ⟨g, e, h1, zC_ h2 h1 ho (fun k (e : k = sb) => e ▸ h.mt)⟩
theorem DF.start (h : DU B W S sb bb id seq ext tags disks m vt vd vn css wr) (hm : sb < wr.heap.size) (x : Nat → Value) : DF B W S sb bb id seq ext tags disks m vt vd vn css wr k none_ x wr.drew :=
 ⟨h.up (Below.refl _ _).drew, (Only.refl _ _).drew, hm, (fun h => by cases h), (fun h => by cases h), (fun h => by cases h), (fun h => by cases h), (fun h => by cases h), (fun h => by cases h), (fun h => by cases h), (fun h => by cases h), (fun h => by cases h), (fun h => by cases h), (fun h => by cases h), (fun h => by cases h), (fun h => by cases h), (fun h => by cases h), (fun h => by cases h), (fun h => by cases h)⟩
theorem DF.s0 (h : DF B W S sb bb id seq ext tags disks m vt vd vn css wr k d x w) : DF B W S sb bb id seq ext tags disks m vt vd vn css wr k (upd d 0 true) (upd x 0 (vd)) w :=
 ⟨h.du, h.on, h.mt, (fun _ => rfl), h.f1, h.f2, h.f3, h.f4, h.f5, h.f6, h.f7, h.f8, h.f9, h.f10, h.f11, h.f12, h.f13, h.f14, h.f15⟩
theorem DF.s1 (h : DF B W S sb bb id seq ext tags disks m vt vd vn css wr k d x w) : DF B W S sb bb id seq ext tags disks m vt vd vn css wr k (upd d 1 true) (upd x 1 (.slice (some ⟨w.heap.size, 0, none⟩) 4 4)) (w.alloc (.cells #[.string ⟨#[48]⟩, .string ⟨#[49]⟩, .string ⟨#[50]⟩, .string ⟨#[51]⟩] 9)) :=
 ⟨h.du.up ((Below.refl _ _).al _), h.on.alloc _, h.mt, h.f0, (fun _ => ⟨_, rfl, h.on.size, Blk.new w _ _⟩), h.k2 ((Only.refl (· = sb) w).alloc _), h.f3, h.f4, h.f5, h.f6, h.k7 ((Only.refl (· = sb) w).alloc _), h.f8, h.f9, h.f10, h.f11, h.f12, h.k13 ((Only.refl (· = sb) w).alloc _), h.f14, h.k15 ((Only.refl (· = sb) w).alloc _)⟩
theorem DF.s2 {g : Nat} (h : DF B W S sb bb id seq ext tags disks m vt vd vn css wr k d x w) (hg : wr.heap.size ≤ g) (hb : Blk w g 9 #[.string ⟨#[48]⟩, .string ⟨#[49]⟩, .string ⟨#[50]⟩, .string ⟨#[51]⟩]) : DF B W S sb bb id seq ext tags disks m vt vd vn css wr k (upd d 2 true) (upd x 2 (.pointer (some ⟨g, k, none⟩))) w :=
 ⟨h.du, h.on, h.mt, h.f0, h.f1, (fun _ => ⟨g, rfl, hg, hb⟩), h.f3, h.f4, h.f5, h.f6, h.f7, h.f8, h.f9, h.f10, h.f11, h.f12, h.f13, h.f14, h.f15⟩
theorem DF.s3 (h : DF B W S sb bb id seq ext tags disks m vt vd vn css wr k d x w) : DF B W S sb bb id seq ext tags disks m vt vd vn css wr k (upd d 3 true) (upd x 3 (.string (digB k))) w :=
 ⟨h.du, h.on, h.mt, h.f0, h.f1, h.f2, (fun _ => rfl), h.f4, h.f5, h.f6, h.f7, h.f8, h.f9, h.f10, h.f11, h.f12, h.f13, h.f14, h.f15⟩
theorem DF.s4 (h : DF B W S sb bb id seq ext tags disks m vt vd vn css wr k d x w) (g14 : d 14 = false) (g15 : d 15 = false) : DF B W S sb bb id seq ext tags disks m vt vd vn css wr k (upd d 4 true) (upd x 4 (.string (pvN k))) w :=
 ⟨h.du, h.on, h.mt, h.f0, h.f1, h.f2, h.f3, (fun _ => rfl), h.f5, h.f6, h.f7, h.f8, h.f9, h.f10, h.f11, h.f12, h.f13, (fun e => tf e g14), (fun e => tf e g15)⟩
theorem DF.s5 {z : Int} (h : DF B W S sb bb id seq ext tags disks m vt vd vn css wr k d x w) (hz : 0 ≤ z ∧ z ≤ 8) (hs : SrcOk B w' sb) (ho : Only (· = sb) w w') : DF B W S sb bb id seq ext tags disks m vt vd vn css wr k (upd d 5 true) (upd x 5 (.int .i64 z)) w' :=
 ⟨h.du.srcd hs ho, h.on.trans ho, h.mt, h.f0, h.k1 ho, h.k2 ho, h.f3, h.f4, (fun _ => ⟨z, hz, rfl⟩), h.f6, h.k7 ho, h.f8, h.f9, h.f10, h.f11, h.f12, h.k13 ho, h.f14, h.k15 ho⟩
theorem DF.s6 {z : Int} (h : DF B W S sb bb id seq ext tags disks m vt vd vn css wr k d x w) (g14 : d 14 = false) (g15 : d 15 = false) (hz : 8 ≤ z ∧ z ≤ 16) : DF B W S sb bb id seq ext tags disks m vt vd vn css wr k (upd d 6 true) (upd x 6 (.int .i64 z)) w :=
 ⟨h.du, h.on, h.mt, h.f0, h.f1, h.f2, h.f3, h.f4, h.f5, (fun _ => ⟨z, hz, rfl⟩), h.f7, h.f8, h.f9, h.f10, h.f11, h.f12, h.f13, (fun e => tf e g14), (fun e => tf e g15)⟩
theorem DF.s7 (h : DF B W S sb bb id seq ext tags disks m vt vd vn css wr k d x w) : DF B W S sb bb id seq ext tags disks m vt vd vn css wr k (upd d 7 true) (upd x 7 (.slice (some ⟨w.heap.size, 0, none⟩) 5 5)) (w.alloc (.cells #[.int .i64 0, .int .i64 4, .int .i64 12, .int .i64 30, .int .i64 60] 3)) :=
 ⟨h.du.up ((Below.refl _ _).al _), h.on.alloc _, h.mt, h.f0, h.k1 ((Only.refl (· = sb) w).alloc _), h.k2 ((Only.refl (· = sb) w).alloc _), h.f3, h.f4, h.f5, h.f6, (fun _ => ⟨_, rfl, h.on.size, Blk.new w _ _⟩), h.f8, h.f9, h.f10, h.f11, h.f12, h.k13 ((Only.refl (· = sb) w).alloc _), h.f14, h.k15 ((Only.refl (· = sb) w).alloc _)⟩
theorem DF.s8 {z : Int} (h : DF B W S sb bb id seq ext tags disks m vt vd vn css wr k d x w) (g14 : d 14 = false) (g15 : d 15 = false) (hz : extP z) (hs : SrcOk B w' sb) (ho : Only (· = sb) w w') : DF B W S sb bb id seq ext tags disks m vt vd vn css wr k (upd d 8 true) (upd x 8 (.int .i64 z)) w' :=
 ⟨h.du.srcd hs ho, h.on.trans ho, h.mt, h.f0, h.k1 ho, h.k2 ho, h.f3, h.f4, h.f5, h.f6, h.k7 ho, (fun _ => ⟨z, hz, rfl⟩), h.f9, h.f10, h.f11, h.f12, h.k13 ho, (fun e => tf e g14), (fun e => tf e g15)⟩
theorem DF.s9 {z : Int} (h : DF B W S sb bb id seq ext tags disks m vt vd vn css wr k d x w) (hs : SrcOk B w' sb) (ho : Only (· = sb) w w') : DF B W S sb bb id seq ext tags disks m vt vd vn css wr k (upd d 9 true) (upd x 9 (.int .i64 z)) w' :=
 ⟨h.du.srcd hs ho, h.on.trans ho, h.mt, h.f0, h.k1 ho, h.k2 ho, h.f3, h.f4, h.f5, h.f6, h.k7 ho, h.f8, (fun _ => ⟨z, rfl⟩), h.f10, h.f11, h.f12, h.k13 ho, h.f14, h.k15 ho⟩
theorem DF.s10 {b : Bool} (h : DF B W S sb bb id seq ext tags disks m vt vd vn css wr k d x w) (g14 : d 14 = false) (g15 : d 15 = false) : DF B W S sb bb id seq ext tags disks m vt vd vn css wr k (upd d 10 true) (upd x 10 (.bool b)) w :=
 ⟨h.du, h.on, h.mt, h.f0, h.f1, h.f2, h.f3, h.f4, h.f5, h.f6, h.f7, h.f8, h.f9, (fun _ => ⟨b, rfl⟩), h.f11, h.f12, h.f13, (fun e => tf e g14), (fun e => tf e g15)⟩
theorem DF.s11 {z : Int} (h : DF B W S sb bb id seq ext tags disks m vt vd vn css wr k d x w) (hs : SrcOk B w' sb) (ho : Only (· = sb) w w') : DF B W S sb bb id seq ext tags disks m vt vd vn css wr k (upd d 11 true) (upd x 11 (.int .i64 z)) w' :=
 ⟨h.du.srcd hs ho, h.on.trans ho, h.mt, h.f0, h.k1 ho, h.k2 ho, h.f3, h.f4, h.f5, h.f6, h.k7 ho, h.f8, h.f9, h.f10, (fun _ => ⟨z, rfl⟩), h.f12, h.k13 ho, h.f14, h.k15 ho⟩
theorem DF.s12 {b : Bool} (h : DF B W S sb bb id seq ext tags disks m vt vd vn css wr k d x w) (g14 : d 14 = false) (g15 : d 15 = false) : DF B W S sb bb id seq ext tags disks m vt vd vn css wr k (upd d 12 true) (upd x 12 (.bool b)) w :=
 ⟨h.du, h.on, h.mt, h.f0, h.f1, h.f2, h.f3, h.f4, h.f5, h.f6, h.f7, h.f8, h.f9, h.f10, h.f11, (fun _ => ⟨b, rfl⟩), h.f13, (fun e => tf e g14), (fun e => tf e g15)⟩
theorem DF.s13 {A : Option Addr} {c : Nat} {l : List ByteArray} (h : DF B W S sb bb id seq ext tags disks m vt vd vn css wr k d x w) (g14 : d 14 = false) (g15 : d 15 = false) (hl : l.Sublist tagL) (ht : TL w' (fun k => w.heap.size ≤ k) (.slice A l.length c) l) (hs : SrcOk B w' sb) (ho : Only (· = sb) w w') : DF B W S sb bb id seq ext tags disks m vt vd vn css wr k (upd d 13 true) (upd x 13 (.slice A l.length c)) w' :=
 ⟨h.du.srcd hs ho, h.on.trans ho, h.mt, h.f0, h.k1 ho, h.k2 ho, h.f3, h.f4, h.f5, h.f6, h.k7 ho, h.f8, h.f9, h.f10, h.f11, h.f12, (fun _ => ⟨A, c, l, hl, rfl, TL.keep ht Kept.same (fun g hg => Nat.le_trans h.on.size hg)⟩), (fun e => tf e g14), (fun e => tf e g15)⟩
theorem DF.s14 (h : DF B W S sb bb id seq ext tags disks m vt vd vn css wr k d x w) : DF B W S sb bb id seq ext tags disks m vt vd vn css wr k (upd d 14 true) (upd x 14 (.agg #[x 4, .int .u64 ((k : Int) + 1), x 6, x 8, x 10, x 12, x 13])) w :=
 ⟨h.du, h.on, h.mt, h.f0, h.f1, h.f2, h.f3, h.f4, h.f5, h.f6, h.f7, h.f8, h.f9, h.f10, h.f11, h.f12, h.f13, (fun _ => rfl), h.f15⟩
theorem DF.s15 (h : DF B W S sb bb id seq ext tags disks m vt vd vn css wr k d x w) : DF B W S sb bb id seq ext tags disks m vt vd vn css wr k (upd d 15 true) (upd x 15 (.slice (some ⟨w.heap.size, 0, none⟩) 1 1)) (w.alloc (.cells #[x 4, .int .u64 ((k : Int) + 1), x 6, x 8, x 10, x 12, x 13] 46)) :=
 ⟨h.du.up ((Below.refl _ _).al _), h.on.alloc _, h.mt, h.f0, h.k1 ((Only.refl (· = sb) w).alloc _), h.k2 ((Only.refl (· = sb) w).alloc _), h.f3, h.f4, h.f5, h.f6, h.k7 ((Only.refl (· = sb) w).alloc _), h.f8, h.f9, h.f10, h.f11, h.f12, h.k13 ((Only.refl (· = sb) w).alloc _), h.f14, (fun _ => ⟨_, rfl, h.on.size, Blk.new w _ _⟩)⟩
end
theorem YF_ {w : World} {g n : Nat} {T : TypeId} {cs : Array Value} (h : Blk w g T cs) (hn : cs.size = n) : Reads w w.heap.size 1 (some ⟨g, 0, none⟩) n cs.toList := by
 refine ⟨by simp [hn], fun _ => ⟨_, rfl, h.lt, fun j u hu => ?_⟩⟩
 rw [add_zero, h.cell]
 simpa using hu
def Be.setLast (β : Be) (x : Vo) : Be := ⟨{ β.g with vols := β.g.vols.dropLast ++ [x] }, β.next⟩
def GrpS (β : Be) (name : ByteArray) (β' : Be) : Prop :=
 (∃ n, 1 ≤ n ∧ n ≤ 4 ∧ LinR β name false n false β') ∨
 (∃ n d a β1 k β2 l', 1 ≤ n ∧ n ≤ 4 ∧ AreaR (zK_ β) d n (some a) β1 ∧ k ≤ 2 ∧ MoreR k (β1.add (zP_ name (idB β) false n a)) [linSeg n a] β2 l' ∧ β' = β2.setLast { zP_ name (idB β) false n a with segs := l' }) ∨
 StrR β name β' ∨ ∃ kind, (kind = 3 ∨ kind = 4 ∨ kind = 5 ∨ kind = 7) ∧ CompR β name kind β'
def nmG (i : Nat) : ByteArray := ⟨#[(97 + i).toUInt8]⟩
inductive GrpsR (i0 : Nat) : Nat → Be → Be → Prop
 | nil (β : Be) : GrpsR i0 i0 β β
 | snoc {i : Nat} {β β1 β2 : Be} (h : GrpsR i0 (i + 1) β β1) (hs : GrpS β1 (nmG (i + 1)) β2) : GrpsR i0 i β β2
def rmG (i : Nat) : Rm := ⟨⟨#[111, 108, 100]⟩, i, i⟩
def ya_ (h i : Nat) : List Rm := (List.range (h - i)).map fun q => rmG (h - q)
theorem Xa_ (h : Nat) : ya_ h h = [] := by simp [ya_]
theorem ZP_ {h i : Nat} (hi : i < h) : ya_ h i = ya_ h (i + 1) ++ [rmG (i + 1)] := by
 unfold ya_
 rw [show h - i = (h - (i + 1)) + 1 by omega, List.range_succ, List.map_append]
 simp
 congr 1
 omega
def GrpR (γ : Gr) : Prop :=
 ∃ id seq ext tags disks n0 β h, 0 ≤ id ∧ id < 1000 ∧ 0 ≤ seq ∧ seq < 50 ∧ exP ext ∧ tags.Sublist tagL ∧ 1 ≤ disks.length ∧ disks.length ≤ 4 ∧ (∀ k d, disks[k]? = some d → DkR k d) ∧ n0 ≤ 4 ∧
  GrpsR n0 0 ⟨G0 id seq ext tags disks, xn_ disks.length⟩ β ∧ h ≤ 2 ∧ γ = { β.g with hist := ya_ h 0 }
structure Far (n m : Nat) (β β' : Be) : Prop where
 next : β.g.next ≤ β'.g.next ∧ β'.g.next ≤ β.g.next + n
 vols : β'.g.vols.length ≤ β.g.vols.length + m
theorem Far.trans {n m n' m' : Nat} {β β1 β2 : Be} (h : Far n m β β1) (h' : Far n' m' β1 β2) : Far (n + n') (m + m') β β2 := by
 have h1 := h.next; have h2 := h'.next; have h3 := h.vols; have h4 := h'.vols
 exact ⟨by omega, by omega⟩
theorem Far.mono {n m n' m' : Nat} {β β1 : Be} (h : Far n m β β1) (h1 : n ≤ n') (h2 : m ≤ m') : Far n' m' β β1 := by
 have h3 := h.next; have h4 := h.vols
 exact ⟨by omega, by omega⟩
theorem Far.of_g {β β' : Be} (h : β'.g = β.g) : Far 0 0 β β' := ⟨by rw [h]; simp, by rw [h]; simp⟩
theorem y2_ (β : Be) : Far 1 0 β (zK_ β) := ⟨by show β.g.next ≤ β.g.next + 1 ∧ β.g.next + 1 ≤ _; omega, Nat.le_refl _⟩
theorem qE_ (β : Be) (x : Vo) : Far 0 1 β (β.add x) := ⟨by show β.g.next ≤ β.g.next ∧ β.g.next ≤ _; omega, by show (β.g.vols ++ [x]).length ≤ _; simp⟩
theorem LinR.far {β β' : Be} {name : ByteArray} {hid : Bool} {n : Int} {ok : Bool} (h : LinR β name hid n ok β') : Far 1 1 β β' := by
 obtain ⟨l, e, h1, _⟩ := h.g
 exact ⟨by rw [e]; show β.g.next ≤ β.g.next + 1 ∧ β.g.next + 1 ≤ _; omega, by rw [e]; simp; exact h1⟩
theorem HidR.far {l : List (ByteArray × Int)} {β β' : Be} {ok : Bool} (h : HidR β l ok β') : Far l.length l.length β β' := by
 obtain ⟨vs, m, e, h1, h2, h3, _⟩ := h.g
 exact ⟨by rw [e]; exact ⟨h1, h2⟩, by rw [e]; simp; exact h3⟩
theorem StrR.far {β β' : Be} {name : ByteArray} (h : StrR β name β') : Far 1 1 β β' := by
 obtain ⟨n, k, l, h, _⟩ | ⟨k, n, l, β1, _, _, _, _, h, rfl⟩ := h
 ·exact (Far.of_g h.g).mono (by omega) (by omega)
 ·exact ((Far.of_g h.g).trans ((y2_ β1).trans (qE_ _ _))).mono (by omega) (by omega)
theorem ThinsR.far {name : ByteArray} {i0 i : Nat} {β β' : Be} (h : ThinsR name i0 i β β') : i ≤ i0 ∧ Far (i0 - i) (i0 - i) β β' := by
 induction h with
 | nil β => exact ⟨Nat.le_refl _, (Far.of_g rfl).mono (by omega) (by omega)⟩
 | snoc h hz hv ih =>
  refine ⟨by omega, (ih.2.trans ((y2_ _).trans (qE_ _ _))).mono (by omega) (by omega)⟩
theorem CompR.far {β β' : Be} {name : ByteArray} {kind : Int} (h : CompR β name kind β') (he : 1 ≤ β.g.extent ∧ β.g.extent ≤ 16) : Far 7 7 β β' := by
 obtain ⟨n, l, x, h1, h3, hx, hr⟩ := h
 have hl := (hx.small ⟨h1, h3⟩ he).1
 rcases hr with hr | ⟨β1, ro, tags, hr, _, ⟨_, rfl⟩ | ⟨_, i0, i, hi, ht⟩⟩
 ·exact hr.far.mono (by omega) (by omega)
 ·exact (hr.far.trans ((y2_ _).trans (qE_ _ _))).mono (by omega) (by omega)
 ·exact (hr.far.trans (((y2_ _).trans (qE_ _ _)).trans ht.far.2)).mono (by omega) (by omega)
theorem MoreR.far {k : Nat} {β β' : Be} {l l' : List Sg} (h : MoreR k β l β' l') : Far 0 0 β β' := Far.of_g h.g.1
theorem GrpS.far {β β' : Be} {name : ByteArray} (h : GrpS β name β') (he : 1 ≤ β.g.extent ∧ β.g.extent ≤ 16) : Far 7 7 β β' := by
 obtain ⟨n, _, _, h⟩ | ⟨n, d, a, β1, k, β2, l', _, _, h1, _, h2, rfl⟩ | h | ⟨kind, _, h⟩ := h
 ·exact h.far.mono (by omega) (by omega)
 ·have h3 : Far 0 0 β2 (β2.setLast { zP_ name (idB β) false n a with segs := l' }) := ⟨by show β2.g.next ≤ β2.g.next ∧ β2.g.next ≤ _; omega, by
   have e : β2.g.vols = β1.g.vols ++ [zP_ name (idB β) false n a] := by rw [h2.g.1]; rfl
   show (β2.g.vols.dropLast ++ [_]).length ≤ _
   rw [e]; simp⟩
  exact ((y2_ β).trans ((Far.of_g h1.g).trans ((qE_ _ _).trans (h2.far.trans h3)))).mono (by omega) (by omega)
 ·exact h.far.mono (by omega) (by omega)
 ·exact h.far he
def KeepG (β β' : Be) : Prop := β'.g.disks = β.g.disks ∧ β'.g.extent = β.g.extent
theorem KeepG.trans {β β1 β2 : Be} (h : KeepG β β1) (h' : KeepG β1 β2) : KeepG β β2 := ⟨h'.1.trans h.1, h'.2.trans h.2⟩
theorem jt_ {β β' : Be} (h : β'.g = β.g) : KeepG β β' := by rw [KeepG, h]; exact ⟨rfl, rfl⟩
theorem LinR.keep {β β' : Be} {name : ByteArray} {hid : Bool} {n : Int} {ok : Bool} (h : LinR β name hid n ok β') : KeepG β β' := by
 obtain ⟨l, e, _⟩ := h.g
 rw [KeepG, e]; exact ⟨rfl, rfl⟩
theorem HidR.keep {l : List (ByteArray × Int)} {β β' : Be} {ok : Bool} (h : HidR β l ok β') : KeepG β β' := by
 obtain ⟨vs, m, e, _⟩ := h.g
 rw [KeepG, e]; exact ⟨rfl, rfl⟩
theorem ThinsR.keep {name : ByteArray} {i0 i : Nat} {β β' : Be} (h : ThinsR name i0 i β β') : KeepG β β' := by
 induction h with
 | nil β => exact ⟨rfl, rfl⟩
 | snoc h hz hv ih => exact ih
theorem StrR.keep {β β' : Be} {name : ByteArray} (h : StrR β name β') : KeepG β β' := by
 obtain ⟨n, k, l, h, _⟩ | ⟨k, n, l, β1, _, _, _, _, h, rfl⟩ := h
 ·exact jt_ h.g
 ·exact (jt_ h.g : KeepG β β1)
theorem CompR.keep {β β' : Be} {name : ByteArray} {kind : Int} (h : CompR β name kind β') : KeepG β β' := by
 obtain ⟨n, l, x, h1, h3, hx, hr⟩ := h
 rcases hr with hr | ⟨β1, ro, tags, hr, _, ⟨_, rfl⟩ | ⟨_, i0, i, hi, ht⟩⟩
 ·exact hr.keep
 ·exact (hr.keep : KeepG β β1)
 ·exact (hr.keep : KeepG β β1).trans ht.keep
theorem GrpS.keep {β β' : Be} {name : ByteArray} (h : GrpS β name β') : KeepG β β' := by
 obtain ⟨n, _, _, h⟩ | ⟨n, d, a, β1, k, β2, l', _, _, h1, _, h2, rfl⟩ | h | ⟨kind, _, h⟩ := h
 ·exact h.keep
 ·exact (jt_ h1.g : KeepG (zK_ β) β1).trans (jt_ h2.g.1 : KeepG _ β2)
 ·exact h.keep
 ·exact h.keep
theorem GrpsR.keep {i0 i : Nat} {β β' : Be} (h : GrpsR i0 i β β') : KeepG β β' := by
 induction h with
 | nil β => exact ⟨rfl, rfl⟩
 | snoc h hs ih => exact ih.trans hs.keep
end Go.Proofs.YtdkcfgahdcpkkaaDoor
