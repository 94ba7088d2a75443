/- slices.Clone (printed by genClone.py). -/
import Derived.Test.YtdkcfgahdcpkkaaDoorCOwnS
import Derived.Test.YtdkcfgahdcpkkaaDoorCCk
import Derived.Lib.SliceRun
import Derived.Deep.AppendLies
set_option linter.all false
namespace Go.Proofs.YtdkcfgahdcpkkaaDoor
open Go.RowKit
set_option maxRecDepth 100000
theorem xv_ (w : World) (e : TypeId) (size : Nat) : (w.alloc (.cells #[] e)).ownsRow w.heap.size e size (.slice (some ⟨w.heap.size, 0, none⟩) 0 0) 0 [] := by
 have h := World.ownsRow_lit (base := w.heap.size) (e := e) (size := size) w #[] 0 (Nat.le_refl _) (by unfold maxLen; omega) (by simp)
 exact h
theorem qA_ : (Tryd.prog.info? 9).map (fun i => (i.zero, i.size, i.bytes)) = some (some (.string ⟨#[]⟩), 1, 16) := by kernel_rfl
def encT (x : ByteArray) : List Value := [.string x]
theorem oneT (l : List ByteArray) : ∀ u ∈ (l.map encT).flatten, u.oneCell' = true := by
 intro u hu
 obtain ⟨c, hc, hu⟩ := List.mem_flatten.1 hu
 obtain ⟨x, _, rfl⟩ := List.mem_map.1 hc
 simp [encT] at hu
 first
  | (subst hu; rfl)
  | (rcases hu with rfl | rfl | rfl <;> rfl)
theorem lenT (l : List ByteArray) : (l.map encT).flatten.length = l.length * 1 := by
 rw [List.length_flatten, List.map_map]
 induction l with
 | nil => rfl
 | cons x l ih => rw [List.map_cons, List.sum_cons, ih, List.length_cons]; simp [encT]; omega
theorem Qt_ {w : World} {S : Nat → Prop} {A : Option Addr} {c : Nat} {l : List ByteArray} (h : TL w S (.slice A l.length c) l) : Reads w w.heap.size 1 A l.length (l.map encT).flatten := by
 obtain ⟨A', c', e, _, hh⟩ := h
 injection e with e1 e2 e3
 subst e1
 refine ⟨lenT l, fun h0 => ?_⟩
 obtain ⟨ad, ea, _, hlt, hcell⟩ := hh h0
 refine ⟨ad, ea, hlt, fun j u hu => ?_⟩
 have hj : j < l.length := by have := (List.getElem?_eq_some_iff.1 hu).1; rw [lenT] at this; omega
 have hx : l[j]? = some l[j] := List.getElem?_eq_getElem hj
 have h2 := y0_ (size := 1) (l.map encT) j 0 (encT l[j]) (fun c hc => by obtain ⟨x, _, rfl⟩ := List.mem_map.1 hc; rfl) (by rw [List.getElem?_map, hx]; rfl) (by omega)
 rw [Nat.mul_one, Nat.add_zero, hu] at h2
 have h3 := hcell j _ hx
 rw [Nat.mul_one] at h3
 rw [h2]
 exact h3
def ClnT (l : List ByteArray) (w : World) (e : Ending) (w' : World) : Prop := ∃ v, e = .returned v ∧ TL w' (fun g => w.heap.size ≤ g) v l ∧ Bel w w'
set_option maxHeartbeats 2000000 in
theorem jc_ {w : World} {S : Nat → Prop} {A : Option Addr} {c : Nat} {l : List ByteArray} (h : TL w S (.slice A l.length c) l) (hl : l.length ≤ 1000000) :
  Calls Tryd.prog 96 #[.slice A l.length c] w (ClnT l w) := by
 have hrd := Qt_ h
 cases A with
 | none =>
  have hn : l = [] := by
   obtain ⟨A', c', e, _, hh⟩ := h;injection e with e1 e2 e3;cases l with
   | nil => rfl
   | cons a l =>
    obtain ⟨ad, ea, _⟩ := hh (by simp);rw [ea] at e1;cases e1
  subst hn;have hnil : ∀ w' : World, (binOp .eql 26 (.slice none 0 c) (.slice none 0 0)).run Tryd.prog w' = .ok (.bool true) w' := fun w' => Lib.run_eql_slice_nil w' 26 9 none 0 c 0 0 Tryd.underlying26;clear h hrd;show Calls Tryd.prog _ #[.slice none 0 c] w _
  go_enter Tryd.func96, Tryd.ntmps96
  go_wp2_with fail
  go_ret
  exact ⟨_, rfl, LR.nil, Below.refl _ _⟩
 | some ad =>
  have HR := hD hrd;clear h hrd;have hnil : ∀ w' : World, (binOp .eql 26 (.slice (some ad) l.length c) (.slice none 0 0)).run Tryd.prog w' = .ok (.bool false) w' := fun w' => Lib.run_eql_slice_nil w' 26 9 (some ad) l.length c 0 0 Tryd.underlying26;obtain ⟨i0, hi0, hz0, hz1, hz2⟩ := info_parts qA_;go_enter Tryd.func96, Tryd.ntmps96
  have HRA := hD (show Reads (w.alloc (.cells #[] 9)) w.heap.size 1 (some ad) l.length (l.map encT).flatten from HR.out.only (F := fun _ => False) ((Only.refl _ _).alloc _) (Nat.le_refl _) (fun _ h => h.elim));go_wp2_with (at_builtin; refine zd_ _ rfl _ _ 26 rfl w.heap.size 9 i0 _ 1 16 Tryd.underlying26 hi0 hz0 hz1 hz2 rfl (by decide) _ 0 [] rfl (xv_ w _ _) w.heap.size (some ad) l.length c (l.map encT).flatten rfl HRA.out (oneT l) (by unfold maxLen; omega) (by omega) (by simp) ?_; intro v' w1 hown' hgrow _)
  go_ret
  refine ⟨_, rfl, OLc.lr txL (by decide) (css := l.map encT) (T := 9) ⟨by simp, ?_, fun k c x hc hx => ?_⟩, ((Below.refl _ _).al _).grown hgrow (by simp) (fun k hk => Nat.le_of_eq (Option.some.inj hk))⟩
  ·show World.ownsRow _ _ _ _ _ _ _
   simpa using hown'
  ·rw [List.getElem?_map, hx] at hc
   injection hc with hc;exact hc.symm
theorem Qa_ : (Tryd.prog.info? 60).map (fun i => (i.zero, i.size, i.bytes)) = some (some (.agg #[.bool false, .string ⟨#[]⟩, .int .i64 0]), 3, 32) := by kernel_rfl
def encA (x : Ar) : List Value := (arA x).toList
theorem oneA (l : List Ar) : ∀ u ∈ (l.map encA).flatten, u.oneCell' = true := by
 intro u hu
 obtain ⟨c, hc, hu⟩ := List.mem_flatten.1 hu
 obtain ⟨x, _, rfl⟩ := List.mem_map.1 hc
 simp [encA, arA] at hu
 first
  | (subst hu; rfl)
  | (rcases hu with rfl | rfl | rfl <;> rfl)
theorem lenA (l : List Ar) : (l.map encA).flatten.length = l.length * 3 := by
 rw [List.length_flatten, List.map_map]
 induction l with
 | nil => rfl
 | cons x l ih => rw [List.map_cons, List.sum_cons, ih, List.length_cons]; simp [encA, arA]; omega
theorem readsA {w : World} {S : Nat → Prop} {A : Option Addr} {c : Nat} {l : List Ar} (h : AL w S (.slice A l.length c) l) : Reads w w.heap.size 3 A l.length (l.map encA).flatten := by
 obtain ⟨A', c', e, _, hh⟩ := h
 injection e with e1 e2 e3
 subst e1
 refine ⟨lenA l, fun h0 => ?_⟩
 obtain ⟨ad, ea, _, hlt, hcell⟩ := hh h0
 refine ⟨ad, ea, hlt, fun j u hu => ?_⟩
 have hj3 : j < l.length * 3 := by have := (List.getElem?_eq_some_iff.1 hu).1; rw [lenA] at this; omega
 have hj : j / 3 < l.length := by omega
 have hx : l[j / 3]? = some l[j / 3] := List.getElem?_eq_getElem hj
 have h2 := y0_ (size := 3) (l.map encA) (j / 3) (j % 3) (encA l[j / 3]) (fun c hc => by obtain ⟨x, _, rfl⟩ := List.mem_map.1 hc; rfl) (by rw [List.getElem?_map, hx]; rfl) (by omega)
 rw [show j / 3 * 3 + j % 3 = j by omega, hu] at h2
 have h3 := hcell (j / 3) _ hx
 have hadd : ∀ i, i ≠ 0 → (⟨(ad.add (j / 3 * 3)).block, (ad.add (j / 3 * 3)).off + i, none⟩ : Addr) = ad.add (j / 3 * 3 + i) := fun i hi => by
  unfold Addr.add;by_cases h0 : j / 3 * 3 = 0
  ·rw [if_pos h0, if_neg (by omega), h0, Nat.zero_add]
  ·rw [if_neg h0, if_neg (by omega), Nat.add_assoc]
 rw [h2]
 rcases (show j % 3 = 0 ∨ j % 3 = 1 ∨ j % 3 = 2 by omega) with hm | hm | hm
 ·rw [hm]
  have := h3.c0;rw [show j / 3 * 3 = j by omega] at this;exact this
 ·rw [hm]
  have := h3.c1;rw [hadd 1 (by omega), show j / 3 * 3 + 1 = j by omega] at this;exact this
 ·rw [hm]
  have := h3.c2;rw [hadd 2 (by omega), show j / 3 * 3 + 2 = j by omega] at this;exact this
def ClnA (l : List Ar) (w : World) (e : Ending) (w' : World) : Prop := ∃ v, e = .returned v ∧ AL w' (fun g => w.heap.size ≤ g) v l ∧ Bel w w'
set_option maxHeartbeats 2000000 in
theorem Z3_ {w : World} {S : Nat → Prop} {A : Option Addr} {c : Nat} {l : List Ar} (h : AL w S (.slice A l.length c) l) (hl : l.length ≤ 1000000) :
  Calls Tryd.prog 117 #[.slice A l.length c] w (ClnA l w) := by
 have hrd := readsA h
 cases A with
 | none =>
  have hn : l = [] := by
   obtain ⟨A', c', e, _, hh⟩ := h;injection e with e1 e2 e3;cases l with
   | nil => rfl
   | cons a l =>
    obtain ⟨ad, ea, _⟩ := hh (by simp);rw [ea] at e1;cases e1
  subst hn;have hnil : ∀ w' : World, (binOp .eql 56 (.slice none 0 c) (.slice none 0 0)).run Tryd.prog w' = .ok (.bool true) w' := fun w' => Lib.run_eql_slice_nil w' 56 60 none 0 c 0 0 Tryd.underlying56;clear h hrd;show Calls Tryd.prog _ #[.slice none 0 c] w _
  go_enter Tryd.func117, Tryd.ntmps117
  go_wp2_with fail
  go_ret
  exact ⟨_, rfl, LR.nil, Below.refl _ _⟩
 | some ad =>
  have HR := hD hrd;clear h hrd;have hnil : ∀ w' : World, (binOp .eql 56 (.slice (some ad) l.length c) (.slice none 0 0)).run Tryd.prog w' = .ok (.bool false) w' := fun w' => Lib.run_eql_slice_nil w' 56 60 (some ad) l.length c 0 0 Tryd.underlying56;obtain ⟨i0, hi0, hz0, hz1, hz2⟩ := info_parts Qa_;go_enter Tryd.func117, Tryd.ntmps117
  have HRA := hD (show Reads (w.alloc (.cells #[] 60)) w.heap.size 3 (some ad) l.length (l.map encA).flatten from HR.out.only (F := fun _ => False) ((Only.refl _ _).alloc _) (Nat.le_refl _) (fun _ h => h.elim));go_wp2_with (at_builtin; refine zd_ _ rfl _ _ 56 rfl w.heap.size 60 i0 _ 3 32 Tryd.underlying56 hi0 hz0 hz1 hz2 rfl (by decide) _ 0 [] rfl (xv_ w _ _) w.heap.size (some ad) l.length c (l.map encA).flatten rfl HRA.out (oneA l) (by unfold maxLen; omega) (by omega) (by simp) ?_; intro v' w1 hown' hgrow _)
  go_ret
  refine ⟨_, rfl, OLc.lr arL (by decide) (css := l.map encA) (T := 60) ⟨by simp, ?_, fun k c x hc hx => ?_⟩, ((Below.refl _ _).al _).grown hgrow (by simp) (fun k hk => Nat.le_of_eq (Option.some.inj hk))⟩
  ·show World.ownsRow _ _ _ _ _ _ _
   simpa using hown'
  ·rw [List.getElem?_map, hx] at hc
   injection hc with hc;exact hc.symm
theorem j4_ : (Tryd.prog.info? 3).map (fun i => (i.zero, i.size, i.bytes)) = some (some (.int .i64 0), 1, 8) := by kernel_rfl
def encI (x : Int) : List Value := [.int .i64 x]
theorem oneI (l : List Int) : ∀ u ∈ (l.map encI).flatten, u.oneCell' = true := by
 intro u hu
 obtain ⟨c, hc, hu⟩ := List.mem_flatten.1 hu
 obtain ⟨x, _, rfl⟩ := List.mem_map.1 hc
 simp [encI] at hu
 first
  | (subst hu; rfl)
  | (rcases hu with rfl | rfl | rfl <;> rfl)
theorem lenI (l : List Int) : (l.map encI).flatten.length = l.length * 1 := by
 rw [List.length_flatten, List.map_map]
 induction l with
 | nil => rfl
 | cons x l ih => rw [List.map_cons, List.sum_cons, ih, List.length_cons]; simp [encI]; omega
theorem readsI {w : World} {S : Nat → Prop} {A : Option Addr} {c : Nat} {l : List Int} (h : IL w S (.slice A l.length c) l) : Reads w w.heap.size 1 A l.length (l.map encI).flatten := by
 obtain ⟨A', c', e, _, hh⟩ := h
 injection e with e1 e2 e3
 subst e1
 refine ⟨lenI l, fun h0 => ?_⟩
 obtain ⟨ad, ea, _, hlt, hcell⟩ := hh h0
 refine ⟨ad, ea, hlt, fun j u hu => ?_⟩
 have hj : j < l.length := by have := (List.getElem?_eq_some_iff.1 hu).1; rw [lenI] at this; omega
 have hx : l[j]? = some l[j] := List.getElem?_eq_getElem hj
 have h2 := y0_ (size := 1) (l.map encI) j 0 (encI l[j]) (fun c hc => by obtain ⟨x, _, rfl⟩ := List.mem_map.1 hc; rfl) (by rw [List.getElem?_map, hx]; rfl) (by omega)
 rw [Nat.mul_one, Nat.add_zero, hu] at h2
 have h3 := hcell j _ hx
 rw [Nat.mul_one] at h3
 rw [h2]
 exact h3
def ClnI (l : List Int) (w : World) (e : Ending) (w' : World) : Prop := ∃ v, e = .returned v ∧ IL w' (fun g => w.heap.size ≤ g) v l ∧ Bel w w'
set_option maxHeartbeats 2000000 in
theorem Z2_ {w : World} {S : Nat → Prop} {A : Option Addr} {c : Nat} {l : List Int} (h : IL w S (.slice A l.length c) l) (hl : l.length ≤ 1000000) :
  Calls Tryd.prog 118 #[.slice A l.length c] w (ClnI l w) := by
 have hrd := readsI h
 cases A with
 | none =>
  have hn : l = [] := by
   obtain ⟨A', c', e, _, hh⟩ := h;injection e with e1 e2 e3;cases l with
   | nil => rfl
   | cons a l =>
    obtain ⟨ad, ea, _⟩ := hh (by simp);rw [ea] at e1;cases e1
  subst hn;have hnil : ∀ w' : World, (binOp .eql 22 (.slice none 0 c) (.slice none 0 0)).run Tryd.prog w' = .ok (.bool true) w' := fun w' => Lib.run_eql_slice_nil w' 22 3 none 0 c 0 0 Tryd.underlying22;clear h hrd;show Calls Tryd.prog _ #[.slice none 0 c] w _
  go_enter Tryd.func118, Tryd.ntmps118
  go_wp2_with fail
  go_ret
  exact ⟨_, rfl, LR.nil, Below.refl _ _⟩
 | some ad =>
  have HR := hD hrd;clear h hrd;have hnil : ∀ w' : World, (binOp .eql 22 (.slice (some ad) l.length c) (.slice none 0 0)).run Tryd.prog w' = .ok (.bool false) w' := fun w' => Lib.run_eql_slice_nil w' 22 3 (some ad) l.length c 0 0 Tryd.underlying22;obtain ⟨i0, hi0, hz0, hz1, hz2⟩ := info_parts j4_;go_enter Tryd.func118, Tryd.ntmps118
  have HRA := hD (show Reads (w.alloc (.cells #[] 3)) w.heap.size 1 (some ad) l.length (l.map encI).flatten from HR.out.only (F := fun _ => False) ((Only.refl _ _).alloc _) (Nat.le_refl _) (fun _ h => h.elim));go_wp2_with (at_builtin; refine zd_ _ rfl _ _ 22 rfl w.heap.size 3 i0 _ 1 8 Tryd.underlying22 hi0 hz0 hz1 hz2 rfl (by decide) _ 0 [] rfl (xv_ w _ _) w.heap.size (some ad) l.length c (l.map encI).flatten rfl HRA.out (oneI l) (by unfold maxLen; omega) (by omega) (by simp) ?_; intro v' w1 hown' hgrow _)
  go_ret
  refine ⟨_, rfl, OLc.lr inL (by decide) (css := l.map encI) (T := 3) ⟨by simp, ?_, fun k c x hc hx => ?_⟩, ((Below.refl _ _).al _).grown hgrow (by simp) (fun k hk => Nat.le_of_eq (Option.some.inj hk))⟩
  ·show World.ownsRow _ _ _ _ _ _ _
   simpa using hown'
  ·rw [List.getElem?_map, hx] at hc
   injection hc with hc;exact hc.symm
end Go.Proofs.YtdkcfgahdcpkkaaDoor
