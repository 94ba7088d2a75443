/- A region that draws its order, by its states: k operations that are left come up in any order that their edges allow. -/
import Derived.Test.YtdkcfgahdcpkkaaDoorCWords
import Derived.Deep.RegionHeld3
set_option linter.all false
namespace Go.Proofs.YtdkcfgahdcpkkaaDoor
open Go.RowKit
theorem xK_ {P : Program} {ops : Array Oper} {Q : Exit → Act → World → Prop} {md : Region.Mode} {S : World → Prop} {i : Nat} {oi : Oper} {v : Value} {fuel : Nat} {listed : Array Bool} {a : Act} {w : World} (hi : ops[i]? = some oi)
  (hs : Region.noSelect ops = true) (hf : Region.free md ops listed i = true) (hr : (Region.ready md ops listed).contains i = true)
  (hQ : ∀ (c : _) (a : Act) (t : Tmp) (v : Value) (w : World), Q (.panic c) (a.put (some t) v) w → Q (.panic c) a w) {t : Tmp} (ht : oi.dst = some t) (hy : YieldsIf P ops S oi v a) (hS : S w)
  (h : wpAnyH P md ops Q S fuel (listed.setIfInBounds i true) (a.put oi.dst v) w) : wpAnyH P md ops Q S (fuel + 1) listed a w :=
 wpAnyH_take hi hs hf hr (fun c a w h => hQ c a t v w (by rw [← ht]; exact h)) hy hS h
def upd {α : Type} (x : Nat → α) (j : Nat) (v : α) : Nat → α := fun i => bif i == j then v else x i
theorem yK_ {α : Type} (x : Nat → α) (j : Nat) (v : α) : upd x j v j = v := by simp [upd]
theorem xX_ {α : Type} (x : Nat → α) {i j : Nat} (v : α) (h : i ≠ j) : upd x j v i = x i := by
 unfold upd
 have : (i == j) = false := beq_eq_false_iff_ne.2 h
 rw [this]; rfl
def fnL (l : List Bool) : Nat → Bool := fun i => l.getD i false
def nrm (k : Nat) (d : Nat → Bool) : Nat → Bool := fnL ((List.range k).map d)
def allB : Nat → List (List Bool)
 | 0 => [[]]
 | k + 1 => (allB k).flatMap fun l => [false :: l, true :: l]
theorem k3_ : ∀ l : List Bool, l ∈ allB l.length
 | [] => by simp [allB]
 | b :: l => by
  have := k3_ l;simp only [allB, List.length_cons, List.mem_flatMap];exact ⟨l, this, by cases b <;> simp⟩
theorem yR_ {k i : Nat} {d : Nat → Bool} (h : i < k) : nrm k d i = d i := by
 simp [nrm, fnL, List.getD, h]
theorem kY_ {k i : Nat} {d : Nat → Bool} (h : k ≤ i) : nrm k d i = false := by
 simp [nrm, fnL, List.getD, h]
def left : Nat → (Nat → Bool) → Nat
 | 0, _ => 0
 | k + 1, d => left k d + bif d k then 0 else 1
theorem j2_ {d e : Nat → Bool} : ∀ k, (∀ i, i < k → d i = e i) → left k d = left k e
 | 0, _ => rfl
 | k + 1, h => by
  show left k d + (bif d k then 0 else 1) = left k e + (bif e k then 0 else 1)
  rw [j2_ k (fun i hi => h i (by omega)), h k (by omega)]
theorem jq_ {d : Nat → Bool} {j : Nat} (hd : d j = false) : ∀ k, j < k → left k (upd d j true) + 1 = left k d
 | 0, h => by omega
 | k + 1, h => by
  show left k (upd d j true) + (bif upd d j true k then 0 else 1) + 1 = left k d + (bif d k then 0 else 1)
  by_cases e : j = k
  ·subst e
   rw [yK_, hd, j2_ j (fun i hi => xX_ d true (by omega : i ≠ j))];rfl
  ·have := jq_ hd k (by omega)
   rw [xX_ d true (by omega : k ≠ j)];omega
theorem qv_ {d : Nat → Bool} : ∀ k, left k d = 0 → ∀ i, i < k → d i = true
 | 0, _, i, hi => by omega
 | k + 1, h, i, hi => by
  have h' : left k d + (bif d k then 0 else 1) = 0 := h;cases hd : d k with
  | false => rw [hd] at h'; simp at h'
  | true =>
   by_cases e : i = k
   ·subst e; exact hd
   ·exact qv_ k (by omega) i (by omega)
theorem jr_ {d : Nat → Bool} : ∀ k, left k d ≠ 0 → ∃ i, i < k ∧ d i = false
 | 0, h => absurd rfl h
 | k + 1, h => by
  cases hd : d k with
  | false => exact ⟨k, Nat.lt_succ_self _, hd⟩
  | true =>
   have h' : left k d + (bif d k then 0 else 1) ≠ 0 := h;rw [hd] at h';obtain ⟨i, hi, h⟩ := jr_ k (by simpa using h');exact ⟨i, by omega, h⟩
def zA_ (k : Nat) (D : List (List Nat)) (d : Nat → Bool) : Bool := (List.range k).all fun j => !d j || (D.getD j []).all d
def Z4_ (k : Nat) (B : List Nat) (D : List (List Nat)) (R : (Nat → Bool) → List Nat) (d : Nat → Bool) : Bool :=
 !zA_ k D d || ((List.range k).all d || (!(R d).isEmpty && (R d).all fun i => (List.range k).any fun j => Nat.beq i (B.getD j 0) && (!d j && (D.getD j []).all d)))
def chkF (k : Nat) (B : List Nat) (D : List (List Nat)) (R : (Nat → Bool) → List Nat) : Bool :=
 (allB k).all fun l => Z4_ k B D R (fnL l)
theorem Qi_ {k : Nat} {B : List Nat} {D : List (List Nat)} {R : (Nat → Bool) → List Nat} (h : chkF k B D R = true) (d : Nat → Bool) : Z4_ k B D R (nrm k d) = true := by
 have hm : ((List.range k).map d) ∈ allB k := by
  have := k3_ ((List.range k).map d);rwa [List.length_map, List.length_range] at this
 exact List.all_eq_true.1 h _ hm
section
variable {P : Program} {md : Region.Mode} {ops : Array Oper} {Q : Exit → Act → World → Prop} {S : World → Prop} {k f : Nat} {L : (Nat → Bool) → Array Bool} {B : List Nat} {D : List (List Nat)} {mk : (Nat → Value) → Act} {F : (Nat → Bool) → (Nat → Value) → World → Prop}
theorem Q2_ (hchk : chkF k B D (fun d => Region.ready md ops (L d)) = true) (hset : ∀ j, j < k → ∀ d, (L d).setIfInBounds (B.getD j 0) true = L (upd d j true)) (hL : ∀ d, L d = L (nrm k d))
  (hD : ∀ j, j < k → ∀ i ∈ D.getD j [], i < k)
  (hS : ∀ d x w, F d x w → S w)
  (hstep : ∀ j, j < k → ∀ d x w, F d x w → zA_ k D d = true → d j = false → (∀ i ∈ D.getD j [], d i = true) → ∀ K : Act → World → Prop, (∀ v w', F (upd d j true) (upd x j v) w' → K (mk (upd x j v)) w') → wpOp P ops Q (B.getD j 0) K (mk x) w)
  (hfin : ∀ d x w, (∀ i, i < k → d i = true) → F d x w → wpAnyH P md ops Q S f (L d) (mk x) w) :
  ∀ (n : Nat) (d : Nat → Bool) (x : Nat → Value) (w : World), left k d = n → zA_ k D d = true → F d x w → wpAnyH P md ops Q S (n + f) (L d) (mk x) w := by
 intro n
 induction n with
 | zero =>
  intro d x w hn _ hF;rw [Nat.zero_add];exact hfin d x w (qv_ k hn) hF
 | succ n ih =>
  intro d x w hn hcl hF;have hc1 := Qi_ hchk d
  have hall : ∀ l : List Nat, (∀ i ∈ l, i < k) → l.all (nrm k d) = l.all d := fun l hl => by
   rw [Bool.eq_iff_iff, List.all_eq_true, List.all_eq_true];exact ⟨fun h i hi => (yR_ (hl i hi)).symm.trans (h i hi), fun h i hi => (yR_ (hl i hi)).trans (h i hi)⟩
  have hcl' : zA_ k D (nrm k d) = true := by
   unfold zA_ at hcl ⊢;rw [List.all_eq_true] at hcl ⊢;intro j hj;have hj' := List.mem_range.1 hj;rw [yR_ hj', hall _ (hD j hj')];exact hcl j hj
  unfold Z4_ at hc1;rw [hcl', hall _ (fun i hi => List.mem_range.1 hi)] at hc1;dsimp only at hc1
  rw [← hL] at hc1
  have hna : (List.range k).all d = false := by
   obtain ⟨i, hi, hd⟩ := jr_ (d := d) k (by omega);cases h : (List.range k).all d with
   | false => rfl
   | true =>
    have := List.all_eq_true.1 h i (List.mem_range.2 hi);rw [hd] at this;cases this
  rw [hna, Bool.not_true, Bool.false_or, Bool.false_or, Bool.and_eq_true, Bool.not_eq_true', List.isEmpty_eq_false_iff, List.all_eq_true] at hc1;rw [show n + 1 + f = (n + f) + 1 by omega];refine wpAnyH_all rfl hc1.1 (fun i hi => ?_);have hx := hc1.2 i hi;rw [List.any_eq_true] at hx;obtain ⟨j, hj, hx⟩ := hx;have hj' := List.mem_range.1 hj;rw [Bool.and_eq_true, Bool.and_eq_true, yR_ hj', hall _ (hD j hj'), Bool.not_eq_true', List.all_eq_true] at hx;obtain ⟨hb, hd, hdep⟩ := hx;have hb' : i = B.getD j 0 := Nat.eq_of_beq_eq_true hb;subst hb';refine hstep j hj' d x w hF hcl hd hdep _ (fun v w' h => ⟨hS _ _ _ h, ?_⟩);have he := hset j hj' d;rw [he];refine ih _ _ _ (by have := jq_ hd k hj'; omega) ?_ h;unfold zA_;rw [List.all_eq_true];intro m hm;have hm' := List.mem_range.1 hm;by_cases e : m = j
  ·subst e
   rw [yK_, Bool.not_true, Bool.false_or, List.all_eq_true];intro i hi;by_cases e2 : i = m
   ·subst e2; exact yK_ d i true
   ·rw [xX_ d true e2]; exact hdep i hi
  ·rw [xX_ d true e]
   have := List.all_eq_true.1 hcl m hm;rw [Bool.or_eq_true] at this ⊢;refine this.imp id (fun h => ?_);rw [List.all_eq_true] at h ⊢;intro i hi;by_cases e2 : i = j
   ·subst e2; exact yK_ d i true
   ·rw [xX_ d true e2]; exact h i hi
theorem xW_ {n n' : Nat} {l l' : Array Bool} {a a' : Act} {w : World} (h : wpAnyH P md ops Q S n' l' a' w) (hn : n = n') (hl : l = l') (ha : a = a') : wpAnyH P md ops Q S n l a w := by
 subst hn hl ha; exact h
def none_ : Nat → Bool := fun _ => false
theorem qw_ : ∀ k, left k none_ = k
 | 0 => rfl
 | k + 1 => by
  show left k none_ + 1 = k + 1
  rw [qw_ k]
theorem qJ_ : zA_ k D none_ = true := by simp [zA_, none_]
theorem Zy_ {a : Act} {w0 : World} {listed : Array Bool} {fuel : Nat} (hchk : chkF k B D (fun d => Region.ready md ops (L d)) = true) (hset : ∀ j, j < k → ∀ d, (L d).setIfInBounds (B.getD j 0) true = L (upd d j true)) (hL : ∀ d, L d = L (nrm k d))
  (hD : ((List.range k).all fun j => (D.getD j []).all fun i => Nat.blt i k) = true)
  (hS : ∀ d x w, F d x w → S w)
  (hstep : ∀ j, j < k → ∀ d x w, F d x w → zA_ k D d = true → d j = false → (∀ i ∈ D.getD j [], d i = true) → ∀ K : Act → World → Prop, (∀ v w', F (upd d j true) (upd x j v) w' → K (mk (upd x j v)) w') → wpOp P ops Q (B.getD j 0) K (mk x) w)
  (hfin : ∀ d x w, (∀ i, i < k → d i = true) → F d x w → wpAnyH P md ops Q S f (L (fun _ => true)) (mk x) w)
  (hfuel : fuel = k + f) (hli : listed = L none_) (x0 : Nat → Value) (hx0 : a = mk x0) (hF0 : F none_ x0 w0) : wpAnyH P md ops Q S fuel listed a w0 := by
 refine xW_ (Q2_ (f := f) hchk hset hL (fun j hj i hi => ?_) hS hstep (fun d x w hd hF => ?_) k none_ x0 w0 (qw_ k) qJ_ hF0) hfuel hli hx0
 ·have h1 := List.all_eq_true.1 hD j (List.mem_range.2 hj)
  have h2 := List.all_eq_true.1 h1 i hi;exact Nat.le_of_ble_eq_true h2
 ·have e : nrm k d = nrm k (fun _ => true) := by
   funext i
   rcases Nat.lt_or_ge i k with hi | hi
   ·rw [yR_ hi, yR_ hi, hd i hi]
   ·rw [kY_ hi, kY_ hi]
  have := hfin d x w hd hF;rw [hL, ← e, ← hL] at this;exact this
end
theorem zc_ {k : Nat} {D : List (List Nat)} {d : Nat → Bool} (h : zA_ k D d = true) (j i : Nat) (hj : j < k) (hi : i ∈ D.getD j []) (hd : d j = true) : d i = true := by
 have h1 := List.all_eq_true.1 h j (List.mem_range.2 hj)
 rw [hd, Bool.not_true, Bool.false_or, List.all_eq_true] at h1
 exact h1 i hi
def putK (a : Act) : List Nat → Nat → (Nat → Value) → Act
 | [], _, _ => a
 | t :: ts, j, x => { putK a ts (j + 1) x with tmps := (putK a ts (j + 1) x).tmps.setIfInBounds t (x j) }
def getK (a : Act) (ts : List Nat) : Nat → Value := fun j => a.tmps.getD (ts.getD j 0) undef
section
variable {P : Program} {md : Region.Mode} {ops : Array Oper} {Q : Exit → Act → World → Prop} {S : World → Prop} {k f : Nat} {L : (Nat → Bool) → Array Bool} {B : List Nat} {D : List (List Nat)} {F : (Nat → Bool) → (Nat → Value) → World → Prop} {ts : List Nat}
theorem zB_ {a : Act} {w0 : World} {listed : Array Bool} {fuel : Nat} (hchk : chkF k B D (fun d => Region.ready md ops (L d)) = true) (hset : ∀ j, j < k → ∀ d, (L d).setIfInBounds (B.getD j 0) true = L (upd d j true)) (hL : ∀ d, L d = L (nrm k d))
  (hD : ((List.range k).all fun j => (D.getD j []).all fun i => Nat.blt i k) = true)
  (hS : ∀ d x w, F d x w → S w)
  (hstep : ∀ j, j < k → ∀ d x w, F d x w → zA_ k D d = true → d j = false → (∀ i ∈ D.getD j [], d i = true) → ∀ K : Act → World → Prop, (∀ v w', F (upd d j true) (upd x j v) w' → K (putK a ts 0 (upd x j v)) w') → wpOp P ops Q (B.getD j 0) K (putK a ts 0 x) w)
  (hfin : ∀ d x w, (∀ i, i < k → d i = true) → F d x w → wpAnyH P md ops Q S f (L (fun _ => true)) (putK a ts 0 x) w)
  (hfuel : fuel = k + f) (hli : listed = L none_) (hx0 : a = putK a ts 0 (getK a ts)) (hF0 : F none_ (getK a ts) w0) : wpAnyH P md ops Q S fuel listed a w0 :=
 Zy_ hchk hset hL hD hS hstep hfin hfuel hli (getK a ts) hx0 hF0
end
def TkL (_ : List Nat) (P : Program) (md : Region.Mode) (ops : Array Oper) (Q : Exit → Act → World → Prop) (S : World → Prop) (fuel : Nat) (listed : Array Bool) (a : Act) (w : World) : Prop := wpAnyH P md ops Q S fuel listed a w
section
variable {P : Program} {ops : Array Oper} {Q : Exit → Act → World → Prop} {md : Region.Mode} {S : World → Prop} {i : Nat} {oi : Oper} {v : Value} {fuel : Nat} {listed : Array Bool} {a : Act} {w : World}
theorem tkB (l : List Nat) (h : TkL l P md ops Q S fuel listed a w) : wpAnyH P md ops Q S fuel listed a w := h
theorem tkE (h : wpAnyH P md ops Q S fuel listed a w) : TkL [] P md ops Q S fuel listed a w := h
theorem tk {l : List Nat} (hi : ops[i]? = some oi) (hs : Region.noSelect ops = true) (hf : Region.free md ops listed i = true) (hr : (Region.ready md ops listed).contains i = true)
 (hQ : ∀ (c : _) (a : Act) (t : Tmp) (v : Value) (w : World), Q (.panic c) (a.put (some t) v) w → Q (.panic c) a w) {t : Tmp} (ht : oi.dst = some t) (hy : YieldsIf P ops S oi v a) (hS : S w)
 (h : TkL l P md ops Q S fuel (listed.setIfInBounds i true) (a.put oi.dst v) w) : TkL (i :: l) P md ops Q S (fuel + 1) listed a w := xK_ hi hs hf hr hQ ht hy hS h
end
end Go.Proofs.YtdkcfgahdcpkkaaDoor
