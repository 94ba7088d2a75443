/- The reader of numbers (volumegroupmake.Src): what it returns is in range; nothing but its own block turns. -/
import Derived.Test.YtdkcfgahdcpkkaaDoorCWords
import Derived.Test.YtdkcfgahdcpkkaaDoorRows
import Derived.ProofKit
import Derived.OpenShut
import Derived.ShutString
import Derived.ChangeOld
set_option linter.all false
namespace Go.Proofs.YtdkcfgahdcpkkaaDoor
open Go.RowKit
structure Only (F : Nat → Prop) (w w' : World) : Prop where
 os : w'.os = w.os
 tape : w'.tape = w.tape
 output : w'.output = w.output
 size : w.heap.size ≤ w'.heap.size
 block : ∀ k, k < w.heap.size → ¬ F k → w'.heap[k]? = w.heap[k]?
section
variable {F G : Nat → Prop} {a w w' w1 w2 : World}
theorem Only.refl (F : Nat → Prop) (w : World) : Only F w w := ⟨rfl, rfl, rfl, Nat.le_refl _, fun _ _ _ => rfl⟩
theorem Only.trans_ (h1 : Only F w w1) (h2 : Only G w1 w2) (hG : ∀ k, k < w.heap.size → G k → F k) : Only F w w2 :=
 ⟨h2.os.trans h1.os, h2.tape.trans h1.tape, h2.output.trans h1.output, Nat.le_trans h1.size h2.size, fun k hk hn =>
  (h2.block k (Nat.lt_of_lt_of_le hk h1.size) (fun hg => hn (hG k hk hg))).trans (h1.block k hk hn)⟩
theorem Only.trans (h1 : Only F w w1) (h2 : Only F w1 w2) : Only F w w2 := h1.trans_ h2 fun _ _ h => h
theorem Only.mono (h : Only G w w') (hG : ∀ k, k < w.heap.size → G k → F k) : Only F w w' := (Only.refl F w).trans_ h hG
theorem Only.of_below (F : Nat → Prop) (h : Bel w w') : Only F w w' := ⟨h.os, h.tape, h.output, h.size, fun k hk _ => h.block k hk⟩
theorem Only.below {B : Nat} (h : Only F w w') (hB : B ≤ w.heap.size) (hF : ∀ k, F k → B ≤ k) : Below B w w' :=
 ⟨h.os, h.tape, h.output, h.size, fun k hk => h.block k (by omega) (fun hf => by have := hF k hf; omega)⟩
theorem Only.next (h1 : Only F w w1) (h2 : Bel w1 w2) : Only F w w2 := h1.trans (Only.of_below F h2)
theorem Only.drew (h : Only F a w) : Only F a w.drew := ⟨h.os, h.tape, h.output, h.size, h.block⟩
theorem Only.drewN (h : Only F a w) (n : Nat) : Only F a (w.drewN n) := ⟨h.os, h.tape, h.output, h.size, h.block⟩
theorem Only.alloc (h : Only F a w) (o : Obj) : Only F a (w.alloc o) := h.next ((Below.refl _ _).alloc (Nat.le_refl _) o)
theorem Only.setCell (h : Only F a w) {p : Addr} (hp : F p.block ∨ a.heap.size ≤ p.block) (u : Value) : Only F a (w.setCell p u) :=
 ⟨h.os, h.tape, h.output, by simpa [World.setCell] using h.size, fun k hk hn => (Below.heap_setCell w p u k (fun e => by
  subst e;rcases hp with hp | hp
  ·exact hn hp
  ·omega)).trans (h.block k hk hn)⟩
theorem Only.grown (h : Only F a w) {row : Option Nat} (hg : w.grownBy w' row) (hr : ∀ k, row = some k → F k ∨ a.heap.size ≤ k) : Only F a w' :=
 ⟨hg.os.trans h.os, hg.tape.trans h.tape, hg.output.trans h.output, Nat.le_trans h.size hg.size, fun k hk hn =>
  (hg.block k (Nat.lt_of_lt_of_le hk h.size) (fun e => by
   rcases hr k e.symm with hf | hf
   ·exact hn hf
   ·omega)).trans (h.block k hk hn)⟩
theorem Only.cell (h : Only F w w') {p : Addr} (hp : p.block < w.heap.size) (hn : ¬ F p.block) : w'.cell? p = w.cell? p := World.cell?_of_block (h.block p.block hp hn)
theorem Blk.only {g : Nat} {t : TypeId} {cs : Array Value} (h : Blk w g t cs) (ho : Only F w w') (hg : ¬ F g) : Blk w' g t cs := (ho.block g h.lt hg).trans h
theorem Reads.only {B size n : Nat} {A : Option Addr} {xs : List Value} (h : Reads w B size A n xs) (ho : Only F w w') (hB : B ≤ w.heap.size) (hF : ∀ k, F k → B ≤ k) : Reads w' B size A n xs := h.below (ho.below hB hF)
theorem zb_ {base : Nat} {e : TypeId} {size n : Nat} {v : Value} {xs : List Value} (h : w.ownsRow base e size v n xs) (ho : Only F w w') (hv : ∀ k, v.ownBlock = some k → ¬ F k) : w'.ownsRow base e size v n xs := by
 obtain ⟨h1, h2⟩ := h
 refine ⟨h1, ?_⟩
 rcases h2 with h2 | ⟨g, cap, cur, rfl, hg, hh, r⟩
 ·exact .inl h2
 ·exact .inr ⟨g, cap, cur, rfl, hg, (ho.block g (Blk.lt (t := e) hh) (hv g rfl)).trans hh, r⟩
end
def I (l : List Int) : List Value := l.map (Value.int .i64)
theorem I_get (l : List Int) (k : Nat) (u : Value) (h : (I l)[k]? = some u) : u = .int .i64 (l.getD k 0) := by
 simp [I] at h
 obtain ⟨a, h1, h2⟩ := h
 simp [h1, ← h2]
theorem I_set (l : List Int) (k : Nat) (z : Int) : (I l).set k (.int .i64 z) = I (l.set k z) := by simp [I, List.map_set]
open Go.ChangeShapes Go.WideShapes Go.ChangeAt Go.RowKit
open Go.ChangeMaps (open_string shut_string)
def Ret (v : Value) (w : World) (e : Ending) (w' : World) : Prop := e = .returned v ∧ Bel w w'
theorem _root_.Go.RowKit.Below.next {w w1 w2 : World} (h1 : Bel w w1) (h2 : Bel w1 w2) : Bel w w2 := h1.trans (h2.mono h1.size)
theorem _root_.Go.RowKit.Below.al {w w1 : World} (h1 : Bel w w1) (o : Obj) : Bel w (w1.alloc o) := h1.alloc h1.size o
theorem own : ownKnob Tryd.prog.godebug = none := by kernel_rfl
theorem Jg_ : laidOutB Tryd.prog = true := by kernel_rfl
theorem jD_ {H : Type} {enc : TypeId × Value → H} {P : Program} (hl : laidOutB P = true) {W W' : World} (hb : Bel W W') :
  ∀ (ts : List TypeId) (vs : List Value) (ds : List (DataW H)) (ps : List MemPlace), (ts.all fun t => P.readableRec t && decide (t < P.types.size)) = true →
   DataW.TrodAll enc P W 0 (fun _ => true) true ts vs ds ps → (∀ x ∈ ps, x.block < W.heap.size) → DataW.TrodAll enc P W' 0 (fun b => decide (b < W.heap.size)) true ts vs ds ps := by
 intro ts
 induction ts with
 | nil =>
  intro vs ds ps _ h _;obtain ⟨rfl, rfl, rfl⟩ := trodAll_nil h;rfl
 | cons t ts ih =>
  intro vs ds ps hr h hlt;simp only [List.all_cons, Bool.and_eq_true, decide_eq_true_eq] at hr;obtain ⟨v, vs', d, ds', p, q, rfl, rfl, rfl, h0, h1⟩ := trodAll_cons h;exact trodAll_cons_mk (Below.trod hl hr.1.1 hr.1.2 h0 hb fun x hx => hlt x (by simp [hx])) (ih _ _ _ hr.2 h1 fun x hx => hlt x (by simp [hx]))
theorem zD_ {w : World} {a : Addr} {v : Value} (h : w.cell? a = some v) : a.block < w.heap.size := by
 rcases Nat.lt_or_ge a.block w.heap.size with hlt | hge
 ·exact hlt
 ·exfalso
  have hn : w.heap[a.block]? = none := Array.getElem?_eq_none hge;simp [World.cell?, hn] at h
theorem X0_ {H : Type} {enc : TypeId × Value → H} {P : Program} {W : World} {t e : TypeId} {k : IntKind} {base : Nat} {v : Value} {d : DataW H} {p : List MemPlace} (ht : P.underlying t = some (.slice e)) (he : P.underlying e = some (.int k)) (hc : P.cellsOf e = 1)
  (hv : Value.okWide P W .any base t v) (h : DataW.Trod enc P W 0 (fun _ => true) true t v d p) :
  ∃ (A : Option Addr) (n c : Nat) (zs : List Int), v = .slice A n c ∧ n ≤ c ∧ c ≤ maxLen ∧ zs.length = n ∧ Reads W W.heap.size 1 A n (zs.map (Value.int k)) ∧ ∀ z ∈ zs, (Lit.int k z).wf = true := by
 obtain ⟨A, n, c, rfl⟩ := okWide_slice ht hv
 obtain ⟨fuel, hf⟩ := h
 rcases open_ints ht he hc hf with ⟨hcs, _⟩ | ⟨x, l, c', zs, hcs, _, hl, hm, hz, _, hcell, hwz⟩
 ·simp [Value.cells] at hcs
  obtain ⟨rfl, rfl, rfl⟩ := hcs;exact ⟨none, 0, 0, [], rfl, Nat.le_refl _, by unfold maxLen; omega, rfl, Reads.none_, by simp⟩
 ·simp [Value.cells] at hcs
  obtain ⟨rfl, rfl, rfl⟩ := hcs;simp at hz;refine ⟨some x, n, c, zs.take n, rfl, hl, hm, by simp; omega, ⟨by simp; omega, fun h0 => ⟨x, rfl, ?_, fun j u hu => ?_⟩⟩, fun z hz' => hwz z (List.mem_of_mem_take hz')⟩
  ·have := zD_ (hcell 0 (by omega))
   rwa [zl_] at this
  ·simp only [List.getElem?_map, Option.map_eq_some_iff] at hu
   obtain ⟨z, hz1, rfl⟩ := hu
   have hj : j < n := by
    have := (List.getElem?_eq_some_iff.1 hz1).1;simp at this;omega
   rw [hcell j (by omega)];rw [List.getElem?_take, if_pos hj] at hz1;simp [hz1]
def SrcOk (B : Nat) (w : World) (sb : Nat) : Prop :=
 ∃ (A : Option Addr) (n c : Nat) (zs : List Int) (k : Nat), Blk w sb 64 #[.slice A n c, .int .i64 k] ∧ k ≤ n ∧ n ≤ 1000 ∧ B ≤ sb ∧ B ≤ w.heap.size ∧ Reads w B 1 A n (I zs)
theorem SrcOk.only {B : Nat} {w w' : World} {sb : Nat} {F : Nat → Prop} (h : SrcOk B w sb) (ho : Only F w w') (h1 : ¬ F sb) (hF : ∀ k, F k → B ≤ k) : SrcOk B w' sb := by
 obtain ⟨A, n, c, zs, k, hb, hk, hn, h2, h3, hr⟩ := h
 exact ⟨A, n, c, zs, k, hb.only ho h1, hk, hn, h2, Nat.le_trans h3 ho.size, hr.only ho h3 hF⟩
theorem SrcOk.below {B : Nat} {w w' : World} {sb : Nat} (h : SrcOk B w sb) (hb : Bel w w') : SrcOk B w' sb :=
 h.only (Only.of_below (fun _ => False) hb) (fun h => h) (fun _ h => h.elim)
theorem SrcOk.lt {B : Nat} {w : World} {sb : Nat} (h : SrcOk B w sb) : B ≤ sb ∧ sb < w.heap.size ∧ B ≤ w.heap.size := by
 obtain ⟨A, n, c, zs, k, hb, hk, hn, h2, h3, hr⟩ := h
 exact ⟨h2, hb.lt, h3⟩
def Zj_ (p : Int → Prop) (B sb : Nat) (w : World) (e : Ending) (w' : World) : Prop := ∃ x : Int, p x ∧ e = .returned (.int .i64 x) ∧ SrcOk B w' sb ∧ Only (· = sb) w w'
set_option maxHeartbeats 400000 in
theorem Q4_ (B sb : Nat) (w : World) (h : SrcOk B w sb) : Calls Tryd.prog 64 #[.pointer (some ⟨sb, 0, none⟩)] w (Zj_ (fun _ => True) B sb w) := by
 obtain ⟨A, n, c, zs, k, hb, hk, hn, h2, h3, hr⟩ := h
 have c0 : w.cell? ⟨sb, 0, none⟩ = some (.slice A n c) := by rw [hb.cell]; rfl
 have c1 : w.cell? ⟨sb, 1, none⟩ = some (.int .i64 k) := by rw [hb.cell]; rfl
 have f1 := hb.frozen 1
 have HB := hD hb
 have HR := hD hr
 clear hb hr
 have i0 : (k : Int) ≤ (n : Int) := by omega
 go_enter Tryd.func64, Tryd.ntmps64
 go_wp2_with fail
 go_quiet (fail)
 obtain ⟨wq, hwq⟩ : ∃ wq, w.drewN nq = wq := ⟨_, rfl⟩
 have hoq : Only (· = sb) w wq := by rw [← hwq]; exact (Only.refl _ _).drewN _
 have hbq := HB.out.drewN nq
 have hrq := HR.out.drewN nq
 have hzq : B ≤ wq.heap.size := Nat.le_trans h3 hoq.size
 rw [hwq] at hbq hrq ⊢
 clear hwq c0 c1 f1 HB HR nq h3
 have c0 : wq.cell? ⟨sb, 0, none⟩ = some (.slice A n c) := by rw [hbq.cell]; rfl
 have c1 : wq.cell? ⟨sb, 1, none⟩ = some (.int .i64 k) := by rw [hbq.cell]; rfl
 have f1 := hbq.frozen 1
 by_cases hlt : k < n
 ·have hs := hbq.set_ 1 (.int .i64 ((k : Int) + 1))
  have hs' : Blk (wq.setCell ⟨sb, 1, none⟩ (.int .i64 ((k : Int) + 1))) sb 64 #[.slice A n c, .int .i64 ((k + 1 : Nat) : Int)] := by simpa using hs
  have ho : Only (· = sb) w (wq.setCell ⟨sb, 1, none⟩ (.int .i64 ((k : Int) + 1))) := hoq.setCell (F := (· = sb)) (p := ⟨sb, 1, none⟩) (.inl rfl) _;have hr1 : Reads (wq.setCell ⟨sb, 1, none⟩ (.int .i64 ((k : Int) + 1))) B 1 A n (I zs) := hrq.setCell (p := ⟨sb, 1, none⟩) h2 _;have hz1 : B ≤ (wq.setCell ⟨sb, 1, none⟩ (.int .i64 ((k : Int) + 1))).heap.size := by simpa [World.setCell] using hzq
  generalize hw1 : wq.setCell ⟨sb, 1, none⟩ (.int .i64 ((k : Int) + 1)) = w1 at hs' ho hr1 hz1;have d0 : w1.cell? ⟨sb, 0, none⟩ = some (.slice A n c) := by rw [hs'.cell]; rfl
  have d1 : w1.cell? ⟨sb, 1, none⟩ = some (.int .i64 ((k : Int) + 1)) := by rw [hs'.cell]; simp
  obtain ⟨ad, u, rfl, _, hx, hc'⟩ := hr1.at_ hlt;obtain rfl := I_get _ _ _ hx;have HOK := hD (show SrcOk B w1 sb from ⟨some ad, n, c, zs, k + 1, hs', by omega, hn, h2, hz1, hr1⟩);have HO := hD ho;generalize zs.getD k 0 = z at hc';clear hx hr1 hs hs' ho hbq hrq hoq;have i1 : (k : Int) < (n : Int) := by omega
  have i2 : IntKind.i64.wrap ((k : Int) + 1 - 1) = (k : Int) := by rw [IntWalk.i64_in _ (by omega)]; omega
  have i3 : IntKind.i64.wrap (k : Int) = (k : Int) := IntWalk.i64_in _ (by omega);go_wp2_with fail
  go_quiet (fail)
  go_wp2_with fail
  go_ret
  exact ⟨z, trivial, rfl, HOK.out.below (zg_ (Below.refl _ _) _), HO.out.drewN _⟩
 ·have i1 : n ≤ k := by omega
  have HOK := hD (show SrcOk B wq sb from ⟨A, n, c, zs, k, hbq, hk, hn, h2, hzq, hrq⟩);have HO := hD hoq;clear hbq hrq hoq;go_wp2_with fail
  go_ret
  exact ⟨0, trivial, rfl, HOK.out, HO.out⟩
set_option maxHeartbeats 400000 in
theorem zO_ (B sb : Nat) (n : Int) (w : World) (h : SrcOk B w sb) (h1 : 1 ≤ n) (h2 : n ≤ 4611686018427387904) : Calls Tryd.prog 25 #[.pointer (some ⟨sb, 0, none⟩), .int .i64 n] w (Zj_ (fun x => 0 ≤ x ∧ x < n) B sb w) := by
 have H := hD h
 clear h
 have h3 : ¬ n < 1 := by omega
 go_enter Tryd.func25, Tryd.ntmps25
 go_wp2_with fail
 refine (Q4_ B sb _ H.out).mono ?_
 rintro e w1 ⟨x, _, rfl, hok, ho⟩
 have HOK := hD hok
 have HO := hD ho
 clear hok ho
 have t1 : x.tmod n < n := Int.tmod_lt_of_pos _ (by omega)
 have t2 : -n < x.tmod n := by
  have h1 : (-x).tmod n < n := Int.tmod_lt_of_pos _ (by omega);rw [Int.neg_tmod] at h1;omega
 have hne : (n == 0) = false := by simp; omega
 by_cases hneg : x.tmod n < 0
 ·go_wp2_with fail
  go_ret
  exact ⟨x.tmod n + n, ⟨by omega, by omega⟩, rfl, HOK.out, HO.out⟩
 ·go_wp2_with fail
  go_ret
  exact ⟨x.tmod n, ⟨by omega, by omega⟩, rfl, HOK.out, HO.out⟩
set_option maxHeartbeats 400000 in
theorem zL_ (B sb : Nat) (lo hi : Int) (w : World) (h : SrcOk B w sb) (h0 : -1000000000 ≤ lo) (h1 : lo ≤ hi) (h2 : hi ≤ 1000000000) : Calls Tryd.prog 26 #[.pointer (some ⟨sb, 0, none⟩), .int .i64 lo, .int .i64 hi] w (Zj_ (fun x => lo ≤ x ∧ x ≤ hi) B sb w) := by
 have H := hD h
 clear h
 go_enter Tryd.func26, Tryd.ntmps26
 go_wp2_with fail
 refine (zO_ B sb _ _ H.out (by omega) (by omega)).mono ?_
 rintro e w1 ⟨x, ⟨hx1, hx2⟩, rfl, hok, ho⟩
 have HOK := hD hok
 have HO := hD ho
 clear hok ho
 go_wp2_with fail
 go_ret
 exact ⟨lo + x, ⟨by omega, by omega⟩, rfl, HOK.out, HO.out⟩
set_option maxHeartbeats 400000 in
theorem xh_ (B sb : Nat) (A : Option Addr) (n c : Nat) (zs : List Int) (w : World) (h : SrcOk B w sb) (p : Int → Prop) (hn : 1 ≤ n) (hn2 : n ≤ 1000000) (hr : Reads w w.heap.size 1 A n (I zs)) (hsb : ∀ ad, A = some ad → ad.block ≠ sb) (hp : ∀ z ∈ zs, p z) :
  Calls Tryd.prog 24 #[.pointer (some ⟨sb, 0, none⟩), .slice A n c] w (Zj_ p B sb w) := by
 have H := hD h
 have HR := hD hr
 have hl : zs.length = n := by simpa [I] using hr.1
 have HL := hD hl
 clear h hr hl
 go_enter Tryd.func24, Tryd.ntmps24
 go_wp2_with fail
 refine (zO_ B sb _ _ H.out (by omega) (by omega)).mono ?_
 rintro e w1 ⟨x, ⟨hx1, hx2⟩, rfl, hok, ho⟩
 obtain ⟨k, rfl⟩ := Int.eq_ofNat_of_zero_le hx1
 have hkn : k < n := by omega
 obtain ⟨ad, u, rfl, hab, hx, hc⟩ := HR.out.at_ hkn
 obtain rfl := I_get _ _ _ hx
 have hc1 : w1.cell? (ad.add k) = some (.int .i64 (zs.getD k 0)) := (ho.cell (by rw [zl_]; exact hab) (by rw [zl_]; exact hsb ad rfl)).trans hc
 have hz : p (zs.getD k 0) := by
  have hkl : k < zs.length := by rw [HL.out]; exact hkn
  rw [List.getD_eq_getElem?_getD, List.getElem?_eq_getElem hkl];exact hp _ (List.getElem_mem hkl)
 have HOK := hD hok
 have HO := hD ho
 have HZ := hD hz
 generalize zs.getD k 0 = z at hc1 HZ
 clear hok ho hx hc hz
 go_wp2_with fail
 go_ret
 exact ⟨z, HZ.out, rfl, HOK.out, HO.out⟩
set_option maxHeartbeats 400000 in
theorem Zt_ (A : Option Addr) (n c : Nat) (zs : List Int) (w : World) (hn : n ≤ c) (hc : c ≤ maxLen) (hr : Reads w w.heap.size 1 A n (I zs)) :
  Calls Tryd.prog 7 #[.slice A n c] w fun e w' => e = .returned (.pointer (some ⟨w.heap.size, 0, none⟩)) ∧ SrcOk w.heap.size w' w.heap.size ∧ Bel w w' := by
 unfold maxLen at hc
 by_cases h : 1000 < n
 ·have hr2 : Reads w w.heap.size 1 A 1000 (I (zs.take 1000)) := by
   refine ⟨by have := hr.1; simp [I] at this ⊢; omega, fun _ => ?_⟩;obtain ⟨ad, e, hb, hcc⟩ := hr.2 (by omega);refine ⟨ad, e, hb, fun j u hu => hcc j u ?_⟩;simp [I, List.getElem?_take] at hu ⊢;exact hu.2
  have HR := hD hr2;clear hr hr2;go_enter Tryd.func7, Tryd.ntmps7
  go_wp2_with fail
  go_ret
  exact ⟨rfl, ⟨A, 1000, c, zs.take 1000, 0, Blk.new _ _ _, by omega, by omega, Nat.le_refl _, by simp, HR.out.alloc (Nat.le_refl _) _⟩, (Below.refl _ _).al _⟩
 ·have HR := hD hr
  clear hr;go_enter Tryd.func7, Tryd.ntmps7
  go_wp2_with fail
  go_ret
  exact ⟨rfl, ⟨A, n, c, zs, 0, Blk.new _ _ _, by omega, by omega, Nat.le_refl _, by simp, HR.out.alloc (Nat.le_refl _) _⟩, (Below.refl _ _).al _⟩
end Go.Proofs.YtdkcfgahdcpkkaaDoor
