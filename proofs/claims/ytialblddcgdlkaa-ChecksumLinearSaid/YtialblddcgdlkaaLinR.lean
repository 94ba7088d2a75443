/- ChecksumLinear: the region of four builds and four appends, by its 31 states (printed by genLinR.py). -/
import Derived.Test.YtialblddcgdlkaaLinC
import Derived.Deep.RegionHeld3
namespace Go.Proofs.Ytialblddcgdlkaa
open Go.RowKit

theorem xor64 (x y : BitVec 64) : bits .xor .u64 (x.toNat : Int) (y.toNat : Int) = ((x ^^^ y).toNat : Int) := by
  have hx := x.isLt
  have hy := y.isLt
  have hz := (x ^^^ y).isLt
  show IntKind.u64.wrap ((BitVec.ofInt 64 (x.toNat : Int) ^^^ BitVec.ofInt 64 (y.toNat : Int)).toNat : Int) = _
  rw [BitVec.ofInt_natCast, BitVec.ofInt_natCast, BitVec.ofNat_toNat, BitVec.ofNat_toNat, BitVec.setWidth_eq, BitVec.setWidth_eq]
  rw [BitVec.toNat_xor] at hz ⊢
  simp [IntKind.wrap, IntKind.bits, IntKind.signed]
  omega
theorem take_snoc (f : T3 → BitVec 64) {l : List T3} {k : Nat} {t : T3} {z : Int} (h : l[k]? = some t) (hz : ((f t).toNat : Int) = z) : ((l.take (k + 1)).map f).map V64 = ((l.take k).map f).map V64 ++ [.int .u64 z] := by
  subst hz
  rw [List.take_add_one, h]
  simp [V64]
theorem _root_.Go.World.ownsRow.form2' {w : World} {base k n : Nat} {e : TypeId} {v : Value} {xs : List Value} (h : w.ownsRow base e k v n xs) : ∃ A c, v = .slice A n c := by
  rcases h.2 with ⟨h, h0⟩ | ⟨g, cap, cur, h, _⟩
  · exact ⟨none, 0, by rw [h, h0]⟩
  · exact ⟨_, _, h⟩
theorem lin_vals (T : List T3) : ∃ a b c d z : Int, V32 (extW 0#32 (T.map x0)) = .int .u32 a ∧ V32 (extW 0#32 (T.map x1)) = .int .u32 b ∧ V32 (extW 0#32 (T.map x2)) = .int .u32 c ∧ V32 (extW 0#32 (T.map x3)) = .int .u32 d ∧ bits .xor .u32 a b = z ∧ bits .xor .u32 z c = d :=
  ⟨_, _, _, _, _, rfl, rfl, rfl, rfl, xor32 _ _, by rw [xor32, ← lin_law]⟩
/-- two rows of one's own in different blocks -/
def Apart (v u : Value) : Prop := ∀ g, v.ownBlock = some g → u.ownBlock ≠ some g
/-- four rows -/
structure S4 (W w : World) (va vb vc vd : Value) (na nb nc nd : Nat) (xa xb xc xd : List Value) : Prop where
  a : w.ownsRow W.heap.size 33 1 va na xa
  b : w.ownsRow W.heap.size 33 1 vb nb xb
  c : w.ownsRow W.heap.size 33 1 vc nc xc
  d : w.ownsRow W.heap.size 33 1 vd nd xd
  ab : Apart va vb
  ac : Apart va vc
  ad : Apart va vd
  bc : Apart vb vc
  bd : Apart vb vd
  cd : Apart vc vd
  bel : Below W.heap.size W w
section
variable {W w w' : World} {va vb vc vd v' : Value} {na nb nc nd n' : Nat} {xa xb xc xd x' : List Value}
theorem S4.sz (h : S4 W w va vb vc vd na nb nc nd xa xb xc xd) : W.heap.size ≤ w.heap.size := h.bel.size
theorem S4.alloc (h : S4 W w va vb vc vd na nb nc nd xa xb xc xd) (o : Obj) : S4 W (w.alloc o) va vb vc vd na nb nc nd xa xb xc xd :=
  ⟨h.a.alloc o, h.b.alloc o, h.c.alloc o, h.d.alloc o, h.ab, h.ac, h.ad, h.bc, h.bd, h.cd, h.bel.al o⟩
theorem S4.drew (h : S4 W w va vb vc vd na nb nc nd xa xb xc xd) : S4 W w.drew va vb vc vd na nb nc nd xa xb xc xd :=
  have k : ∀ {v : Value} {n : Nat} {xs : List Value}, w.ownsRow W.heap.size 33 1 v n xs → w.drew.ownsRow W.heap.size 33 1 v n xs := fun h => own_only h ((Only.refl (fun _ => False) w).drew) (fun _ _ h => h)
  ⟨k h.a, k h.b, k h.c, k h.d, h.ab, h.ac, h.ad, h.bc, h.bd, h.cd, h.bel.drew⟩
theorem Apart.symm {v u : Value} (h : Apart v u) : Apart u v := fun g hg hv => h g hv hg
theorem own_other {v u : Value} {n : Nat} {xs : List Value} (hu : w.ownsRow W.heap.size 33 1 u n xs) (hg : w.grownBy w' v.ownBlock) (h : Apart v u) : w'.ownsRow W.heap.size 33 1 u n xs :=
  own_only hu ((Only.refl (fun k => v.ownBlock = some k) w).grown hg (fun k e => .inl e)) (fun k hk e => h k e hk)
theorem apart_new {v u : Value} {n : Nat} {xs : List Value} (hu : w.ownsRow W.heap.size 33 1 u n xs) (h : Apart v u) (hd : v'.ownBlock = v.ownBlock ∨ v'.ownBlock = some w.heap.size) : Apart v' u := fun g hg hu' => by
  rcases hd with hd | hd
  · exact h g (hd ▸ hg) hu'
  · rw [hd] at hg
    injection hg with hg
    have := (hu.lt g hu').2
    omega
theorem bel_grown {v : Value} {n : Nat} {xs : List Value} (hb : Below W.heap.size W w) (hv : w.ownsRow W.heap.size 33 1 v n xs) (hg : w.grownBy w' v.ownBlock) : Below W.heap.size W w' :=
  hb.grown hg hb.size (fun k hk => (hv.lt k hk).1)
theorem S4.a' (h : S4 W w va vb vc vd na nb nc nd xa xb xc xd) (ho : w'.ownsRow W.heap.size 33 1 v' n' x') (hg : w.grownBy w' va.ownBlock) (hd : v'.ownBlock = va.ownBlock ∨ v'.ownBlock = some w.heap.size) : S4 W w' v' vb vc vd n' nb nc nd x' xb xc xd :=
  ⟨ho, own_other h.b hg h.ab, own_other h.c hg h.ac, own_other h.d hg h.ad, apart_new h.b h.ab hd, apart_new h.c h.ac hd, apart_new h.d h.ad hd, h.bc, h.bd, h.cd, bel_grown h.bel h.a hg⟩
theorem S4.b' (h : S4 W w va vb vc vd na nb nc nd xa xb xc xd) (ho : w'.ownsRow W.heap.size 33 1 v' n' x') (hg : w.grownBy w' vb.ownBlock) (hd : v'.ownBlock = vb.ownBlock ∨ v'.ownBlock = some w.heap.size) : S4 W w' va v' vc vd na n' nc nd xa x' xc xd :=
  ⟨own_other h.a hg h.ab.symm, ho, own_other h.c hg h.bc, own_other h.d hg h.bd, (apart_new h.a h.ab.symm hd).symm, h.ac, h.ad, apart_new h.c h.bc hd, apart_new h.d h.bd hd, h.cd, bel_grown h.bel h.b hg⟩
theorem S4.c' (h : S4 W w va vb vc vd na nb nc nd xa xb xc xd) (ho : w'.ownsRow W.heap.size 33 1 v' n' x') (hg : w.grownBy w' vc.ownBlock) (hd : v'.ownBlock = vc.ownBlock ∨ v'.ownBlock = some w.heap.size) : S4 W w' va vb v' vd na nb n' nd xa xb x' xd :=
  ⟨own_other h.a hg h.ac.symm, own_other h.b hg h.bc.symm, ho, own_other h.d hg h.cd, h.ab, (apart_new h.a h.ac.symm hd).symm, h.ad, (apart_new h.b h.bc.symm hd).symm, h.bd, apart_new h.d h.cd hd, bel_grown h.bel h.c hg⟩
theorem S4.d' (h : S4 W w va vb vc vd na nb nc nd xa xb xc xd) (ho : w'.ownsRow W.heap.size 33 1 v' n' x') (hg : w.grownBy w' vd.ownBlock) (hd : v'.ownBlock = vd.ownBlock ∨ v'.ownBlock = some w.heap.size) : S4 W w' va vb vc v' na nb nc n' xa xb xc x' :=
  ⟨own_other h.a hg h.ad.symm, own_other h.b hg h.bd.symm, own_other h.c hg h.cd.symm, ho, h.ab, h.ac, (apart_new h.a h.ad.symm hd).symm, h.bc, (apart_new h.b h.bd.symm hd).symm, (apart_new h.c h.cd.symm hd).symm, bel_grown h.bel h.d hg⟩
/-- what lies behind wr and was made ahead of the append lies as it lay -/
theorem cell_over {wr : World} {v : Value} {n : Nat} {xs : List Value} (hv : wr.ownsRow W.heap.size 33 1 v n xs) (hg : w.grownBy w' v.ownBlock) : ∀ g, wr.heap.size ≤ g → g < w.heap.size → w'.cell? ⟨g, 0, none⟩ = w.cell? ⟨g, 0, none⟩ := fun g h1 h2 =>
  World.cell?_of_block (hg.block g h2 (fun e => by have := (hv.lt g e.symm).2; omega))
theorem cell_new {g : Nat} {x : Value} {t : TypeId} (h : g = w.heap.size) : (w.alloc (.cells #[x] t)).cell? ⟨g, 0, none⟩ = some x := by subst h; exact cell_one_new w x t 0 x rfl
theorem cell_drew (p : Addr) : w.drew.cell? p = w.cell? p := rfl
theorem cell_low {g : Nat} (o : Obj) (h : g < w.heap.size) : (w.alloc o).cell? ⟨g, 0, none⟩ = w.cell? ⟨g, 0, none⟩ := World.cell?_of_block (Below.heap_alloc w o g h)
theorem reads_one {g : Nat} {x : Value} (h : w.cell? ⟨g, 0, none⟩ = some x) : Reads w w.heap.size 1 (some ⟨g, 0, none⟩) 1 [x] :=
  ⟨rfl, fun _ => ⟨_, rfl, block_lt_of_cell h, fun j u hu => by
    match j, hu with
    | 0, hu => rw [show (⟨g, 0, none⟩ : Addr).add 0 = ⟨g, 0, none⟩ from rfl, h]; exact hu
    | j + 1, hu => simp at hu⟩⟩
theorem one_u64 {z : Int} : ∀ u ∈ [Value.int .u64 z], u.oneCell' = true := by simp [Value.oneCell']
theorem tri_vals (t : T3) : ∃ ia ib ic iz iw : Int, ((x0 t).toNat : Int) = ia ∧ ((x1 t).toNat : Int) = ib ∧ ((x2 t).toNat : Int) = ic ∧ ((x3 t).toNat : Int) = iw ∧ bits .xor .u64 ia ib = iz ∧ bits .xor .u64 iz ic = iw :=
  ⟨_, _, _, _, _, rfl, rfl, rfl, rfl, xor64 _ _, xor64 _ _⟩
def Held (ad : Addr) (k : Nat) (ia ib ic : Int) (w' : World) : Prop := w'.cell? (ad.add (k * 3)) = some (.int .u64 ia) ∧ w'.cell? ⟨(ad.add (k * 3)).block, (ad.add (k * 3)).off + 1, none⟩ = some (.int .u64 ib) ∧ w'.cell? ⟨(ad.add (k * 3)).block, (ad.add (k * 3)).off + 2, none⟩ = some (.int .u64 ic)
theorem Held.up {ad : Addr} {k : Nat} {ia ib ic : Int} {w' : World} (h : Held ad k ia ib ic W) (hab : ad.block < W.heap.size) (hb : Below W.heap.size W w') : Held ad k ia ib ic w' := by
  have e : (ad.add (k * 3)).block = ad.block := block_of_add _ _
  obtain ⟨h0, h1, h2⟩ := h
  exact ⟨(hb.cell (by rw [e]; exact hab)).trans h0, (hb.cell (by show (ad.add (k * 3)).block < _; rw [e]; exact hab)).trans h1, (hb.cell (by show (ad.add (k * 3)).block < _; rw [e]; exact hab)).trans h2⟩
theorem add_one (p : Addr) (j : Nat) (hj : j ≠ 0) : p.add j = ⟨p.block, p.off + j, none⟩ := by unfold Addr.add; rw [if_neg hj]
end

structure X8 where
  b0 : Value
  b1 : Value
  b2 : Value
  b3 : Value
  y0 : Value
  y1 : Value
  y2 : Value
  y3 : Value
/-- how many operations are left -/
def left8 (d0 d1 d2 d3 : Bool) (s : Nat) : Nat := (if d0 then 0 else 1) + (if d1 then 0 else 1) + (if d2 then 0 else 1) + (if d3 then 0 else 1) + (4 - s)
def valid8 (d0 d1 d2 d3 : Bool) (s : Nat) : Bool := decide (s ≤ 4) && (!decide (0 < s) || d0) && (!decide (1 < s) || d1) && (!decide (2 < s) || d2) && (!decide (3 < s) || d3)
theorem valid8_spec {d0 d1 d2 d3 : Bool} {s : Nat} (h : valid8 d0 d1 d2 d3 s = true) : s ≤ 4 ∧ (0 < s → d0 = true) ∧ (1 < s → d1 = true) ∧ (2 < s → d2 = true) ∧ (3 < s → d3 = true) := by
  unfold valid8 at h
  simp only [Bool.and_eq_true, Bool.or_eq_true, Bool.not_eq_true', decide_eq_true_eq, decide_eq_false_iff_not] at h
  obtain ⟨⟨⟨⟨h0, h1⟩, h2⟩, h3⟩, h4⟩ := h
  refine ⟨h0, fun h => ?_, fun h => ?_, fun h => ?_, fun h => ?_⟩
  · rcases h1 with h1 | h1; exact absurd h h1; exact h1
  · rcases h2 with h1 | h1; exact absurd h h1; exact h1
  · rcases h3 with h1 | h1; exact absurd h h1; exact h1
  · rcases h4 with h1 | h1; exact absurd h h1; exact h1
/-- what may come up in a state: a build that is not done, or the next append, its build done -/
def next8 (B0 B1 B2 B3 A0 A1 A2 A3 : Nat) (d0 d1 d2 d3 : Bool) (s i : Nat) : Bool :=
  (decide (i = B0) && !d0) || (decide (i = B1) && !d1) || (decide (i = B2) && !d2) || (decide (i = B3) && !d3) ||
  (decide (i = A0) && (d0 && decide (s = 0))) || (decide (i = A1) && (d1 && decide (s = 1))) || (decide (i = A2) && (d2 && decide (s = 2))) || (decide (i = A3) && (d3 && decide (s = 3)))
def chk8 (r : Bool → Bool → Bool → Bool → Nat → List Nat) (nx : Bool → Bool → Bool → Bool → Nat → Nat → Bool) : Bool :=
  [false, true].all fun d0 => [false, true].all fun d1 => [false, true].all fun d2 => [false, true].all fun d3 => (List.range 5).all fun s =>
    !valid8 d0 d1 d2 d3 s || decide (left8 d0 d1 d2 d3 s = 0) || (!(r d0 d1 d2 d3 s).isEmpty && (r d0 d1 d2 d3 s).all (nx d0 d1 d2 d3 s))
theorem chk8_spec {r : Bool → Bool → Bool → Bool → Nat → List Nat} {nx : Bool → Bool → Bool → Bool → Nat → Nat → Bool} (h : chk8 r nx = true) {d0 d1 d2 d3 : Bool} {s : Nat}
    (hv : valid8 d0 d1 d2 d3 s = true) (hl : left8 d0 d1 d2 d3 s ≠ 0) : r d0 d1 d2 d3 s ≠ [] ∧ ∀ i ∈ r d0 d1 d2 d3 s, nx d0 d1 d2 d3 s i = true := by
  have hb : ∀ d : Bool, d ∈ [false, true] := fun d => by cases d <;> simp
  unfold chk8 at h
  have h0 := List.all_eq_true.1 h d0 (hb d0)
  have h1 := List.all_eq_true.1 h0 d1 (hb d1)
  have h2 := List.all_eq_true.1 h1 d2 (hb d2)
  have h3 := List.all_eq_true.1 h2 d3 (hb d3)
  have h4 := List.all_eq_true.1 h3 s (List.mem_range.2 (by have := (valid8_spec hv).1; omega))
  rw [hv, decide_eq_false hl] at h4
  simp only [Bool.not_true, Bool.false_or, Bool.and_eq_true, Bool.not_eq_true', List.isEmpty_eq_false_iff, List.all_eq_true] at h4
  exact h4
section
variable {P : Program} {md : Region.Mode} {ops : Array Oper} {Q : Exit → Act → World → Prop} {S : World → Prop} {L : Bool → Bool → Bool → Bool → Nat → Array Bool} {B : X8 → Act} {F : Bool → Bool → Bool → Bool → Nat → X8 → World → Prop} {f B0 B1 B2 B3 A0 A1 A2 A3 : Nat}
/-- A REGION OF FOUR BUILDS AND FOUR APPENDS, the appends in their order: by its states. -/
theorem region4 (hchk : chk8 (fun d0 d1 d2 d3 s => Region.ready md ops (L d0 d1 d2 d3 s)) (next8 B0 B1 B2 B3 A0 A1 A2 A3) = true)
    (hv : ∀ d0 d1 d2 d3 s x w, F d0 d1 d2 d3 s x w → valid8 d0 d1 d2 d3 s = true) (hS : ∀ d0 d1 d2 d3 s x w, F d0 d1 d2 d3 s x w → S w)
    (hl0 : ∀ d1 d2 d3 s, (L false d1 d2 d3 s).setIfInBounds B0 true = L true d1 d2 d3 s)
    (hb0 : ∀ d1 d2 d3 s x w, F false d1 d2 d3 s x w → ∀ K : Act → World → Prop, (∀ v w', F true d1 d2 d3 s { x with b0 := v } w' → K (B { x with b0 := v }) w') → wpOp P ops Q B0 K (B x) w)
    (hm0 : ∀ d1 d2 d3, (L true d1 d2 d3 0).setIfInBounds A0 true = L true d1 d2 d3 1)
    (ha0 : ∀ d1 d2 d3 x w, F true d1 d2 d3 0 x w → ∀ K : Act → World → Prop, (∀ v w', F true d1 d2 d3 1 { x with y0 := v } w' → K (B { x with y0 := v }) w') → wpOp P ops Q A0 K (B x) w)
    (hl1 : ∀ d0 d2 d3 s, (L d0 false d2 d3 s).setIfInBounds B1 true = L d0 true d2 d3 s)
    (hb1 : ∀ d0 d2 d3 s x w, F d0 false d2 d3 s x w → ∀ K : Act → World → Prop, (∀ v w', F d0 true d2 d3 s { x with b1 := v } w' → K (B { x with b1 := v }) w') → wpOp P ops Q B1 K (B x) w)
    (hm1 : ∀ d0 d2 d3, (L d0 true d2 d3 1).setIfInBounds A1 true = L d0 true d2 d3 2)
    (ha1 : ∀ d0 d2 d3 x w, F d0 true d2 d3 1 x w → ∀ K : Act → World → Prop, (∀ v w', F d0 true d2 d3 2 { x with y1 := v } w' → K (B { x with y1 := v }) w') → wpOp P ops Q A1 K (B x) w)
    (hl2 : ∀ d0 d1 d3 s, (L d0 d1 false d3 s).setIfInBounds B2 true = L d0 d1 true d3 s)
    (hb2 : ∀ d0 d1 d3 s x w, F d0 d1 false d3 s x w → ∀ K : Act → World → Prop, (∀ v w', F d0 d1 true d3 s { x with b2 := v } w' → K (B { x with b2 := v }) w') → wpOp P ops Q B2 K (B x) w)
    (hm2 : ∀ d0 d1 d3, (L d0 d1 true d3 2).setIfInBounds A2 true = L d0 d1 true d3 3)
    (ha2 : ∀ d0 d1 d3 x w, F d0 d1 true d3 2 x w → ∀ K : Act → World → Prop, (∀ v w', F d0 d1 true d3 3 { x with y2 := v } w' → K (B { x with y2 := v }) w') → wpOp P ops Q A2 K (B x) w)
    (hl3 : ∀ d0 d1 d2 s, (L d0 d1 d2 false s).setIfInBounds B3 true = L d0 d1 d2 true s)
    (hb3 : ∀ d0 d1 d2 s x w, F d0 d1 d2 false s x w → ∀ K : Act → World → Prop, (∀ v w', F d0 d1 d2 true s { x with b3 := v } w' → K (B { x with b3 := v }) w') → wpOp P ops Q B3 K (B x) w)
    (hm3 : ∀ d0 d1 d2, (L d0 d1 d2 true 3).setIfInBounds A3 true = L d0 d1 d2 true 4)
    (ha3 : ∀ d0 d1 d2 x w, F d0 d1 d2 true 3 x w → ∀ K : Act → World → Prop, (∀ v w', F d0 d1 d2 true 4 { x with y3 := v } w' → K (B { x with y3 := v }) w') → wpOp P ops Q A3 K (B x) w)
    (hfin : ∀ x w, F true true true true 4 x w → wpAnyH P md ops Q S f (L true true true true 4) (B x) w) :
    ∀ (n : Nat) {d0 d1 d2 d3 : Bool} {s : Nat} {x : X8} {w : World}, left8 d0 d1 d2 d3 s = n → F d0 d1 d2 d3 s x w → wpAnyH P md ops Q S (n + f) (L d0 d1 d2 d3 s) (B x) w := by
  intro n
  induction n with
  | zero =>
    intro d0 d1 d2 d3 s x w hn hF
    have hs := (valid8_spec (hv _ _ _ _ _ _ _ hF)).1
    rw [Nat.zero_add]
    unfold left8 at hn
    cases d0 <;> cases d1 <;> cases d2 <;> cases d3 <;> simp at hn
    obtain rfl : s = 4 := by omega
    exact hfin _ _ hF
  | succ n ih =>
    intro d0 d1 d2 d3 s x w hn hF
    have hc := chk8_spec hchk (hv _ _ _ _ _ _ _ hF) (by omega)
    rw [show n + 1 + f = (n + f) + 1 by omega]
    refine wpAnyH_all rfl hc.1 (fun i hi => ?_)
    have hx := hc.2 i hi
    clear hc hi
    unfold next8 at hx
    simp only [Bool.or_eq_true, Bool.and_eq_true, decide_eq_true_eq, Bool.not_eq_true'] at hx
    rcases hx with (((((((⟨rfl, rfl⟩ | ⟨rfl, rfl⟩) | ⟨rfl, rfl⟩) | ⟨rfl, rfl⟩) | ⟨rfl, rfl, rfl⟩) | ⟨rfl, rfl, rfl⟩) | ⟨rfl, rfl, rfl⟩) | ⟨rfl, rfl, rfl⟩)
    · exact hb0 _ _ _ _ _ _ hF _ (fun v w' h => ⟨hS _ _ _ _ _ _ _ h, by rw [hl0]; exact ih (by unfold left8 at hn ⊢; simp at hn ⊢; omega) h⟩)
    · exact hb1 _ _ _ _ _ _ hF _ (fun v w' h => ⟨hS _ _ _ _ _ _ _ h, by rw [hl1]; exact ih (by unfold left8 at hn ⊢; simp at hn ⊢; omega) h⟩)
    · exact hb2 _ _ _ _ _ _ hF _ (fun v w' h => ⟨hS _ _ _ _ _ _ _ h, by rw [hl2]; exact ih (by unfold left8 at hn ⊢; simp at hn ⊢; omega) h⟩)
    · exact hb3 _ _ _ _ _ _ hF _ (fun v w' h => ⟨hS _ _ _ _ _ _ _ h, by rw [hl3]; exact ih (by unfold left8 at hn ⊢; simp at hn ⊢; omega) h⟩)
    · exact ha0 _ _ _ _ _ hF _ (fun v w' h => ⟨hS _ _ _ _ _ _ _ h, by rw [hm0]; exact ih (by unfold left8 at hn ⊢; omega) h⟩)
    · exact ha1 _ _ _ _ _ hF _ (fun v w' h => ⟨hS _ _ _ _ _ _ _ h, by rw [hm1]; exact ih (by unfold left8 at hn ⊢; omega) h⟩)
    · exact ha2 _ _ _ _ _ hF _ (fun v w' h => ⟨hS _ _ _ _ _ _ _ h, by rw [hm2]; exact ih (by unfold left8 at hn ⊢; omega) h⟩)
    · exact ha3 _ _ _ _ _ hF _ (fun v w' h => ⟨hS _ _ _ _ _ _ _ h, by rw [hm3]; exact ih (by unfold left8 at hn ⊢; omega) h⟩)
end
/-- the eight temporaries of the region -/
def put8 (a : Act) (x : X8) : Act := { a with tmps := (((((((a.tmps.setIfInBounds 24 x.b0).setIfInBounds 32 x.b1).setIfInBounds 40 x.b2).setIfInBounds 60 x.b3).setIfInBounds 25 x.y0).setIfInBounds 33 x.y1).setIfInBounds 41 x.y2).setIfInBounds 61 x.y3 }
theorem wpAnyH_cast {P : Program} {md : Region.Mode} {ops : Array Oper} {Q : Exit → Act → World → Prop} {S : World → Prop} {n n' : Nat} {l l' : Array Bool} {a a' : Act} {w : World} (h : wpAnyH P md ops Q S n' l' a' w) (hn : n = n') (hl : l = l') (ha : a = a') : wpAnyH P md ops Q S n l a w := by
  subst hn hl ha; exact h
section
variable {P : Program} {md : Region.Mode} {ops : Array Oper} {Q : Exit → Act → World → Prop} {S : World → Prop} {L : Bool → Bool → Bool → Bool → Nat → Array Bool} {F : Bool → Bool → Bool → Bool → Nat → X8 → World → Prop} {f B0 B1 B2 B3 A0 A1 A2 A3 : Nat}
theorem region4_go {a : Act} {w0 : World} {listed : Array Bool} {fuel : Nat} (hchk : chk8 (fun d0 d1 d2 d3 s => Region.ready md ops (L d0 d1 d2 d3 s)) (next8 B0 B1 B2 B3 A0 A1 A2 A3) = true)
    (hv : ∀ d0 d1 d2 d3 s x w, F d0 d1 d2 d3 s x w → valid8 d0 d1 d2 d3 s = true) (hS : ∀ d0 d1 d2 d3 s x w, F d0 d1 d2 d3 s x w → S w)
    (hl0 : ∀ d1 d2 d3 s, (L false d1 d2 d3 s).setIfInBounds B0 true = L true d1 d2 d3 s)
    (hb0 : ∀ d1 d2 d3 s x w, F false d1 d2 d3 s x w → ∀ K : Act → World → Prop, (∀ v w', F true d1 d2 d3 s { x with b0 := v } w' → K (put8 a { x with b0 := v }) w') → wpOp P ops Q B0 K (put8 a x) w)
    (hm0 : ∀ d1 d2 d3, (L true d1 d2 d3 0).setIfInBounds A0 true = L true d1 d2 d3 1)
    (ha0 : ∀ d1 d2 d3 x w, F true d1 d2 d3 0 x w → ∀ K : Act → World → Prop, (∀ v w', F true d1 d2 d3 1 { x with y0 := v } w' → K (put8 a { x with y0 := v }) w') → wpOp P ops Q A0 K (put8 a x) w)
    (hl1 : ∀ d0 d2 d3 s, (L d0 false d2 d3 s).setIfInBounds B1 true = L d0 true d2 d3 s)
    (hb1 : ∀ d0 d2 d3 s x w, F d0 false d2 d3 s x w → ∀ K : Act → World → Prop, (∀ v w', F d0 true d2 d3 s { x with b1 := v } w' → K (put8 a { x with b1 := v }) w') → wpOp P ops Q B1 K (put8 a x) w)
    (hm1 : ∀ d0 d2 d3, (L d0 true d2 d3 1).setIfInBounds A1 true = L d0 true d2 d3 2)
    (ha1 : ∀ d0 d2 d3 x w, F d0 true d2 d3 1 x w → ∀ K : Act → World → Prop, (∀ v w', F d0 true d2 d3 2 { x with y1 := v } w' → K (put8 a { x with y1 := v }) w') → wpOp P ops Q A1 K (put8 a x) w)
    (hl2 : ∀ d0 d1 d3 s, (L d0 d1 false d3 s).setIfInBounds B2 true = L d0 d1 true d3 s)
    (hb2 : ∀ d0 d1 d3 s x w, F d0 d1 false d3 s x w → ∀ K : Act → World → Prop, (∀ v w', F d0 d1 true d3 s { x with b2 := v } w' → K (put8 a { x with b2 := v }) w') → wpOp P ops Q B2 K (put8 a x) w)
    (hm2 : ∀ d0 d1 d3, (L d0 d1 true d3 2).setIfInBounds A2 true = L d0 d1 true d3 3)
    (ha2 : ∀ d0 d1 d3 x w, F d0 d1 true d3 2 x w → ∀ K : Act → World → Prop, (∀ v w', F d0 d1 true d3 3 { x with y2 := v } w' → K (put8 a { x with y2 := v }) w') → wpOp P ops Q A2 K (put8 a x) w)
    (hl3 : ∀ d0 d1 d2 s, (L d0 d1 d2 false s).setIfInBounds B3 true = L d0 d1 d2 true s)
    (hb3 : ∀ d0 d1 d2 s x w, F d0 d1 d2 false s x w → ∀ K : Act → World → Prop, (∀ v w', F d0 d1 d2 true s { x with b3 := v } w' → K (put8 a { x with b3 := v }) w') → wpOp P ops Q B3 K (put8 a x) w)
    (hm3 : ∀ d0 d1 d2, (L d0 d1 d2 true 3).setIfInBounds A3 true = L d0 d1 d2 true 4)
    (ha3 : ∀ d0 d1 d2 x w, F d0 d1 d2 true 3 x w → ∀ K : Act → World → Prop, (∀ v w', F d0 d1 d2 true 4 { x with y3 := v } w' → K (put8 a { x with y3 := v }) w') → wpOp P ops Q A3 K (put8 a x) w)
    (hfin : ∀ x w, F true true true true 4 x w → wpAnyH P md ops Q S f (L true true true true 4) (put8 a x) w)
    (hfuel : fuel = 8 + f) (hli : listed = L false false false false 0) (x0 : X8) (hx0 : a = put8 a x0) (hF0 : F false false false false 0 x0 w0) : wpAnyH P md ops Q S fuel listed a w0 :=
  wpAnyH_cast (region4 (B := put8 a) hchk hv hS hl0 hb0 hm0 ha0 hl1 hb1 hm1 ha1 hl2 hb2 hm2 ha2 hl3 hb3 hm3 ha3 hfin 8 rfl hF0) hfuel hli hx0
end
/-- what holds in a state -/
structure Fr (W wr : World) (ia ib ic iw : Int) (va vb vc vd : Value) (n : Nat) (xa xb xc xd : List Value) (d0 d1 d2 d3 : Bool) (s : Nat) (x : X8) (w : World) : Prop where
  ok : valid8 d0 d1 d2 d3 s = true
  rows : S4 W w (if 0 < s then x.y0 else va) (if 1 < s then x.y1 else vb) (if 2 < s then x.y2 else vc) (if 3 < s then x.y3 else vd)
    (if 0 < s then n + 1 else n) (if 1 < s then n + 1 else n) (if 2 < s then n + 1 else n) (if 3 < s then n + 1 else n)
    (if 0 < s then xa ++ [.int .u64 ia] else xa) (if 1 < s then xb ++ [.int .u64 ib] else xb) (if 2 < s then xc ++ [.int .u64 ic] else xc) (if 3 < s then xd ++ [.int .u64 iw] else xd)
  le : wr.heap.size ≤ w.heap.size
  b0 : d0 = true → ¬ 0 < s → ∃ g, x.b0 = .slice (some ⟨g, 0, none⟩) 1 1 ∧ wr.heap.size ≤ g ∧ g < w.heap.size ∧ w.cell? ⟨g, 0, none⟩ = some (.int .u64 ia)
  b1 : d1 = true → ¬ 1 < s → ∃ g, x.b1 = .slice (some ⟨g, 0, none⟩) 1 1 ∧ wr.heap.size ≤ g ∧ g < w.heap.size ∧ w.cell? ⟨g, 0, none⟩ = some (.int .u64 ib)
  b2 : d2 = true → ¬ 2 < s → ∃ g, x.b2 = .slice (some ⟨g, 0, none⟩) 1 1 ∧ wr.heap.size ≤ g ∧ g < w.heap.size ∧ w.cell? ⟨g, 0, none⟩ = some (.int .u64 ic)
  b3 : d3 = true → ¬ 3 < s → ∃ g, x.b3 = .slice (some ⟨g, 0, none⟩) 1 1 ∧ wr.heap.size ≤ g ∧ g < w.heap.size ∧ w.cell? ⟨g, 0, none⟩ = some (.int .u64 iw)
section
variable {W wr w : World} {ia ib ic iw : Int} {va vb vc vd : Value} {n : Nat} {xa xb xc xd : List Value} {d0 d1 d2 d3 : Bool} {s : Nat} {x : X8}
theorem cell_keep {g : Nat} {u : Value} (o : Obj) (h1 : g < w.heap.size) (h2 : w.cell? ⟨g, 0, none⟩ = some u) : g < (w.alloc o).heap.size ∧ (w.alloc o).cell? ⟨g, 0, none⟩ = some u :=
  ⟨by rw [World.size_alloc]; omega, by rw [cell_low o h1]; exact h2⟩
theorem Fr.build0 (h : Fr W wr ia ib ic iw va vb vc vd n xa xb xc xd false d1 d2 d3 s x w) : Fr W wr ia ib ic iw va vb vc vd n xa xb xc xd true d1 d2 d3 s { x with b0 := .slice (some ⟨w.heap.size, 0, none⟩) 1 1 } (w.alloc (.cells #[.int .u64 ia] 33)) := by
  have hs := valid8_spec h.ok
  refine ⟨?_, h.rows.alloc _, by rw [World.size_alloc]; have := h.le; omega, ?_, ?_, ?_, ?_⟩
  · have := h.ok
    unfold valid8 at this ⊢
    revert this
    cases d1 <;> cases d2 <;> cases d3 <;> simp <;> omega
  · exact fun _ _ => ⟨_, rfl, h.le, by rw [World.size_alloc]; omega, cell_new rfl⟩
  · intro hd hk
    obtain ⟨g, e, h1, h2, h3⟩ := h.b1 hd hk
    obtain ⟨h4, h5⟩ := cell_keep (.cells #[.int .u64 ia] 33) h2 h3
    exact ⟨g, e, h1, h4, h5⟩
  · intro hd hk
    obtain ⟨g, e, h1, h2, h3⟩ := h.b2 hd hk
    obtain ⟨h4, h5⟩ := cell_keep (.cells #[.int .u64 ia] 33) h2 h3
    exact ⟨g, e, h1, h4, h5⟩
  · intro hd hk
    obtain ⟨g, e, h1, h2, h3⟩ := h.b3 hd hk
    obtain ⟨h4, h5⟩ := cell_keep (.cells #[.int .u64 ia] 33) h2 h3
    exact ⟨g, e, h1, h4, h5⟩
theorem Fr.build1 (h : Fr W wr ia ib ic iw va vb vc vd n xa xb xc xd d0 false d2 d3 s x w) : Fr W wr ia ib ic iw va vb vc vd n xa xb xc xd d0 true d2 d3 s { x with b1 := .slice (some ⟨w.heap.size, 0, none⟩) 1 1 } (w.alloc (.cells #[.int .u64 ib] 33)) := by
  have hs := valid8_spec h.ok
  refine ⟨?_, h.rows.alloc _, by rw [World.size_alloc]; have := h.le; omega, ?_, ?_, ?_, ?_⟩
  · have := h.ok
    unfold valid8 at this ⊢
    revert this
    cases d0 <;> cases d2 <;> cases d3 <;> simp <;> omega
  · intro hd hk
    obtain ⟨g, e, h1, h2, h3⟩ := h.b0 hd hk
    obtain ⟨h4, h5⟩ := cell_keep (.cells #[.int .u64 ib] 33) h2 h3
    exact ⟨g, e, h1, h4, h5⟩
  · exact fun _ _ => ⟨_, rfl, h.le, by rw [World.size_alloc]; omega, cell_new rfl⟩
  · intro hd hk
    obtain ⟨g, e, h1, h2, h3⟩ := h.b2 hd hk
    obtain ⟨h4, h5⟩ := cell_keep (.cells #[.int .u64 ib] 33) h2 h3
    exact ⟨g, e, h1, h4, h5⟩
  · intro hd hk
    obtain ⟨g, e, h1, h2, h3⟩ := h.b3 hd hk
    obtain ⟨h4, h5⟩ := cell_keep (.cells #[.int .u64 ib] 33) h2 h3
    exact ⟨g, e, h1, h4, h5⟩
theorem Fr.build2 (h : Fr W wr ia ib ic iw va vb vc vd n xa xb xc xd d0 d1 false d3 s x w) : Fr W wr ia ib ic iw va vb vc vd n xa xb xc xd d0 d1 true d3 s { x with b2 := .slice (some ⟨w.heap.size, 0, none⟩) 1 1 } (w.alloc (.cells #[.int .u64 ic] 33)) := by
  have hs := valid8_spec h.ok
  refine ⟨?_, h.rows.alloc _, by rw [World.size_alloc]; have := h.le; omega, ?_, ?_, ?_, ?_⟩
  · have := h.ok
    unfold valid8 at this ⊢
    revert this
    cases d0 <;> cases d1 <;> cases d3 <;> simp <;> omega
  · intro hd hk
    obtain ⟨g, e, h1, h2, h3⟩ := h.b0 hd hk
    obtain ⟨h4, h5⟩ := cell_keep (.cells #[.int .u64 ic] 33) h2 h3
    exact ⟨g, e, h1, h4, h5⟩
  · intro hd hk
    obtain ⟨g, e, h1, h2, h3⟩ := h.b1 hd hk
    obtain ⟨h4, h5⟩ := cell_keep (.cells #[.int .u64 ic] 33) h2 h3
    exact ⟨g, e, h1, h4, h5⟩
  · exact fun _ _ => ⟨_, rfl, h.le, by rw [World.size_alloc]; omega, cell_new rfl⟩
  · intro hd hk
    obtain ⟨g, e, h1, h2, h3⟩ := h.b3 hd hk
    obtain ⟨h4, h5⟩ := cell_keep (.cells #[.int .u64 ic] 33) h2 h3
    exact ⟨g, e, h1, h4, h5⟩
theorem Fr.build3 (h : Fr W wr ia ib ic iw va vb vc vd n xa xb xc xd d0 d1 d2 false s x w) : Fr W wr ia ib ic iw va vb vc vd n xa xb xc xd d0 d1 d2 true s { x with b3 := .slice (some ⟨w.heap.size, 0, none⟩) 1 1 } (w.alloc (.cells #[.int .u64 iw] 33)) := by
  have hs := valid8_spec h.ok
  refine ⟨?_, h.rows.alloc _, by rw [World.size_alloc]; have := h.le; omega, ?_, ?_, ?_, ?_⟩
  · have := h.ok
    unfold valid8 at this ⊢
    revert this
    cases d0 <;> cases d1 <;> cases d2 <;> simp <;> omega
  · intro hd hk
    obtain ⟨g, e, h1, h2, h3⟩ := h.b0 hd hk
    obtain ⟨h4, h5⟩ := cell_keep (.cells #[.int .u64 iw] 33) h2 h3
    exact ⟨g, e, h1, h4, h5⟩
  · intro hd hk
    obtain ⟨g, e, h1, h2, h3⟩ := h.b1 hd hk
    obtain ⟨h4, h5⟩ := cell_keep (.cells #[.int .u64 iw] 33) h2 h3
    exact ⟨g, e, h1, h4, h5⟩
  · intro hd hk
    obtain ⟨g, e, h1, h2, h3⟩ := h.b2 hd hk
    obtain ⟨h4, h5⟩ := cell_keep (.cells #[.int .u64 iw] 33) h2 h3
    exact ⟨g, e, h1, h4, h5⟩
  · exact fun _ _ => ⟨_, rfl, h.le, by rw [World.size_alloc]; omega, cell_new rfl⟩
theorem Fr.rows0 (h : Fr W wr ia ib ic iw va vb vc vd n xa xb xc xd true d1 d2 d3 0 x w) : S4 W w va vb vc vd n n n n xa xb xc xd := h.rows
theorem Fr.app0 (HO : S4 W wr va vb vc vd n n n n xa xb xc xd) (h : Fr W wr ia ib ic iw va vb vc vd n xa xb xc xd true d1 d2 d3 0 x w) {w' : World} {v' : Value} (ho : w'.ownsRow W.heap.size 33 1 v' (n + 1) (xa ++ [.int .u64 ia])) (hg : w.grownBy w' va.ownBlock) (hd : v'.ownBlock = va.ownBlock ∨ v'.ownBlock = some w.heap.size) :
    Fr W wr ia ib ic iw va vb vc vd n xa xb xc xd true d1 d2 d3 1 { x with y0 := v' } w' := by
  have hs := valid8_spec h.ok
  have hle := hg.size
  have hc := cell_over HO.a hg
  refine ⟨?_, S4.a' h.rows0 ho hg hd, by have := h.le; omega, ?_, ?_, ?_, ?_⟩
  · have := h.ok
    unfold valid8 at this ⊢
    revert this
    cases d1 <;> cases d2 <;> cases d3 <;> simp
  · exact fun _ hk => absurd (by omega) hk
  · intro hd' _
    obtain ⟨g, e, h1, h2, h3⟩ := h.b1 hd' (by omega)
    exact ⟨g, e, h1, by omega, by rw [hc g h1 h2]; exact h3⟩
  · intro hd' _
    obtain ⟨g, e, h1, h2, h3⟩ := h.b2 hd' (by omega)
    exact ⟨g, e, h1, by omega, by rw [hc g h1 h2]; exact h3⟩
  · intro hd' _
    obtain ⟨g, e, h1, h2, h3⟩ := h.b3 hd' (by omega)
    exact ⟨g, e, h1, by omega, by rw [hc g h1 h2]; exact h3⟩
theorem Fr.rows1 (h : Fr W wr ia ib ic iw va vb vc vd n xa xb xc xd d0 true d2 d3 1 x w) : S4 W w x.y0 vb vc vd (n + 1) n n n (xa ++ [.int .u64 ia]) xb xc xd := h.rows
theorem Fr.app1 (HO : S4 W wr va vb vc vd n n n n xa xb xc xd) (h : Fr W wr ia ib ic iw va vb vc vd n xa xb xc xd d0 true d2 d3 1 x w) {w' : World} {v' : Value} (ho : w'.ownsRow W.heap.size 33 1 v' (n + 1) (xb ++ [.int .u64 ib])) (hg : w.grownBy w' vb.ownBlock) (hd : v'.ownBlock = vb.ownBlock ∨ v'.ownBlock = some w.heap.size) :
    Fr W wr ia ib ic iw va vb vc vd n xa xb xc xd d0 true d2 d3 2 { x with y1 := v' } w' := by
  have hs := valid8_spec h.ok
  have hle := hg.size
  have hc := cell_over HO.b hg
  refine ⟨?_, S4.b' h.rows1 ho hg hd, by have := h.le; omega, ?_, ?_, ?_, ?_⟩
  · have := h.ok
    unfold valid8 at this ⊢
    revert this
    cases d0 <;> cases d2 <;> cases d3 <;> simp
  · exact fun _ hk => absurd (by omega) hk
  · exact fun _ hk => absurd (by omega) hk
  · intro hd' _
    obtain ⟨g, e, h1, h2, h3⟩ := h.b2 hd' (by omega)
    exact ⟨g, e, h1, by omega, by rw [hc g h1 h2]; exact h3⟩
  · intro hd' _
    obtain ⟨g, e, h1, h2, h3⟩ := h.b3 hd' (by omega)
    exact ⟨g, e, h1, by omega, by rw [hc g h1 h2]; exact h3⟩
theorem Fr.rows2 (h : Fr W wr ia ib ic iw va vb vc vd n xa xb xc xd d0 d1 true d3 2 x w) : S4 W w x.y0 x.y1 vc vd (n + 1) (n + 1) n n (xa ++ [.int .u64 ia]) (xb ++ [.int .u64 ib]) xc xd := h.rows
theorem Fr.app2 (HO : S4 W wr va vb vc vd n n n n xa xb xc xd) (h : Fr W wr ia ib ic iw va vb vc vd n xa xb xc xd d0 d1 true d3 2 x w) {w' : World} {v' : Value} (ho : w'.ownsRow W.heap.size 33 1 v' (n + 1) (xc ++ [.int .u64 ic])) (hg : w.grownBy w' vc.ownBlock) (hd : v'.ownBlock = vc.ownBlock ∨ v'.ownBlock = some w.heap.size) :
    Fr W wr ia ib ic iw va vb vc vd n xa xb xc xd d0 d1 true d3 3 { x with y2 := v' } w' := by
  have hs := valid8_spec h.ok
  have hle := hg.size
  have hc := cell_over HO.c hg
  refine ⟨?_, S4.c' h.rows2 ho hg hd, by have := h.le; omega, ?_, ?_, ?_, ?_⟩
  · have := h.ok
    unfold valid8 at this ⊢
    revert this
    cases d0 <;> cases d1 <;> cases d3 <;> simp
  · exact fun _ hk => absurd (by omega) hk
  · exact fun _ hk => absurd (by omega) hk
  · exact fun _ hk => absurd (by omega) hk
  · intro hd' _
    obtain ⟨g, e, h1, h2, h3⟩ := h.b3 hd' (by omega)
    exact ⟨g, e, h1, by omega, by rw [hc g h1 h2]; exact h3⟩
theorem Fr.rows3 (h : Fr W wr ia ib ic iw va vb vc vd n xa xb xc xd d0 d1 d2 true 3 x w) : S4 W w x.y0 x.y1 x.y2 vd (n + 1) (n + 1) (n + 1) n (xa ++ [.int .u64 ia]) (xb ++ [.int .u64 ib]) (xc ++ [.int .u64 ic]) xd := h.rows
theorem Fr.app3 (HO : S4 W wr va vb vc vd n n n n xa xb xc xd) (h : Fr W wr ia ib ic iw va vb vc vd n xa xb xc xd d0 d1 d2 true 3 x w) {w' : World} {v' : Value} (ho : w'.ownsRow W.heap.size 33 1 v' (n + 1) (xd ++ [.int .u64 iw])) (hg : w.grownBy w' vd.ownBlock) (hd : v'.ownBlock = vd.ownBlock ∨ v'.ownBlock = some w.heap.size) :
    Fr W wr ia ib ic iw va vb vc vd n xa xb xc xd d0 d1 d2 true 4 { x with y3 := v' } w' := by
  have hs := valid8_spec h.ok
  have hle := hg.size
  have hc := cell_over HO.d hg
  refine ⟨?_, S4.d' h.rows3 ho hg hd, by have := h.le; omega, ?_, ?_, ?_, ?_⟩
  · have := h.ok
    unfold valid8 at this ⊢
    revert this
    cases d0 <;> cases d1 <;> cases d2 <;> simp
  · exact fun _ hk => absurd (by omega) hk
  · exact fun _ hk => absurd (by omega) hk
  · exact fun _ hk => absurd (by omega) hk
  · exact fun _ hk => absurd (by omega) hk
end
end Go.Proofs.Ytialblddcgdlkaa
