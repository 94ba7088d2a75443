/- The reference's one, Has, insert, ends (printed by genRng.py). -/
import Derived.Test.YtdkcfgahdcpkkaaDoorBGr
import Derived.Test.YtdkcfgahdcpkkaaDoorBUsed
import Derived.Test.YtdkcfgahdcpkkaaDoorBOwnS
import Derived.Test.YtdkcfgahdcpkkaaDoorBCalm
import Derived.Test.YtdkcfgahdcpkkaaDoorBFlags
set_option linter.all false
namespace Go.Proofs.YtdkcfgahdcpkkaaDoor
open Go.RowKit
set_option maxRecDepth 100000
structure Rg where
 start : Int
 len : Int
structure RgC (w : World) (p : Addr) (x : Rg) : Prop where
 c0 : w.cell? p = some (.int .i64 x.start)
 c1 : w.cell? ⟨p.block, p.off + 1, none⟩ = some (.int .i64 x.len)
theorem RgC.keep {w w' : World} {S : Nat → Prop} {p : Addr} {x : Rg} (h : RgC w p x) (hk : Kept S w w') (hS : S p.block) (hlt : p.block < w.heap.size) : RgC w' p x :=
 ⟨(hk.2 p hS hlt).trans h.c0, (hk.2 ⟨p.block, p.off + 1, none⟩ hS hlt).trans h.c1⟩
abbrev RL (w : World) (S : Nat → Prop) : Value → List Rg → Prop := LR w S 2 (RgC w)
theorem RL.keep {w w' : World} {S S' : Nat → Prop} {v : Value} {l : List Rg} (h : RL w S v l) (hk : Kept S w w') (hS : ∀ g, S g → S' g) : RL w' S' v l := h.imp hk.1 hS (fun _ _ hp hlt h => h.keep hk hp hlt)
theorem RL.up {w w' : World} {S : Nat → Prop} {v : Value} {l : List Rg} (h : RL w S v l) (hb : Bel w w') : RL w' S v l := RL.keep h (.of_below hb) (fun _ h => h)
def oneR (r : Rg) : Bool := decide (0 ≤ r.start) && decide (0 ≤ r.len) && decide (r.start ≤ 1073741824) && decide (r.len ≤ 1073741824 - r.start)
def inR (n : Int) (r : Rg) : Bool := oneR r && decide (r.start ≤ n) && decide (n - r.start < r.len)
def hasR (l : List Rg) (n : Int) : Bool := l.any (inR n)
def insR : List Int → Int → List Int
 | [], n => [n]
 | x :: l, n => if x < n then x :: insR l n else if x = n then x :: l else n :: x :: l
theorem x4_ : ∀ (l : List Int) (n : Int), (insR l n).length ≤ l.length + 1
 | [], n => by simp [insR]
 | x :: l, n => by
  have := x4_ l n;unfold insR;split
  ·simp; omega
  ·split <;> simp
theorem Ze_ : ∀ {l : List Int} {n : Int} {k : Nat}, (∀ j x, j < k → l[j]? = some x → x < n) → l[k]? = some n → insR l n = l
 | [], n, k, _, h => by simp at h
 | x :: l, n, 0, _, h => by
  simp at h;subst h;unfold insR;rw [if_neg (by omega), if_pos rfl]
 | x :: l, n, k + 1, ha, h => by
  unfold insR;rw [if_pos (ha 0 x (by omega) rfl), Ze_ (k := k) (fun j y hj hy => ha (j + 1) y (by omega) (by simpa using hy)) (by simpa using h)]
theorem jy_ : ∀ {l : List Int} {n : Int} {k : Nat}, k ≤ l.length → (∀ j x, j < k → l[j]? = some x → x < n) → (∀ x, l[k]? = some x → ¬ x < n ∧ x ≠ n) → insR l n = l.take k ++ [n] ++ l.drop k
 | [], n, k, hk, _, _ => by
  obtain rfl : k = 0 := by simpa using hk
  rfl
 | x :: l, n, 0, _, _, h => by
  have := h x rfl;unfold insR;rw [if_neg this.1, if_neg this.2];rfl
 | x :: l, n, k + 1, hk, ha, h => by
  unfold insR;rw [if_pos (ha 0 x (by omega) rfl), jy_ (by simpa using hk) (fun j y hj hy => ha (j + 1) y (by omega) (by simpa using hy)) (fun y hy => h y (by simpa using hy))];rfl
def xZ_ : List Int → List Rg → List Int
 | o, [] => o
 | o, r :: l => xZ_ (insR (insR o r.start) (r.start + r.len)) l
def z8_ (l : List Rg) : List Int := xZ_ [] l
theorem jc_ : ∀ (l : List Rg) (o : List Int) (r : Rg), xZ_ o (l ++ [r]) = insR (insR (xZ_ o l) r.start) (r.start + r.len)
 | [], o, r => rfl
 | x :: l, o, r => jc_ l _ r
theorem xy_ : ∀ (l : List Rg) (o : List Int), (xZ_ o l).length ≤ o.length + 2 * l.length
 | [], o => by simp [xZ_]
 | r :: l, o => by
  have h1 := xy_ l (insR (insR o r.start) (r.start + r.len));have h2 := x4_ (insR o r.start) (r.start + r.len);have h3 := x4_ o r.start;simp only [xZ_, List.length_cons];omega
def qL_ (k : Int) (x y : Bool) : Bool := (decide (k = 0) && !x && !y) || (decide (k = 1) && (!x || y)) || (decide (k = 2) && (!x || !y))
def addG (o : List Rg) (x y : Int) : List Rg :=
 match o.getLast? with
 | none => [⟨x, y - x⟩]
 | some r => if r.start + r.len = x then o.dropLast ++ [⟨r.start, r.len + (y - x)⟩] else o ++ [⟨x, y - x⟩]
def selO (k : Int) (a b : List Rg) : List Rg → List Int → List Rg
 | o, x :: y :: e => selO k a b (if qL_ k (hasR a x) (hasR b x) then o else addG o x y) (y :: e)
 | o, _ => o
def selR (a b : List Rg) (k : Int) : List Rg := selO k a b [] (z8_ (a ++ b))
def sumG (l : List Rg) : Int := l.foldl (fun n r => n + r.len) 0
def sumR (l : List Rg) : Int := sumG (selR l [] 0)
theorem zQ_ {w : World} {base n size : Nat} {T : TypeId} {v : Value} {xs : List Value} (h : w.ownsRow base T size v n xs) : ∃ A c, v = .slice A n c ∧ n ≤ c := by
 rcases h.2 with ⟨h, h0⟩ | ⟨g, cap, cur, h, _, _, hc, _⟩
 ·exact ⟨none, 0, by rw [h, h0], by omega⟩
 ·exact ⟨_, _, h, hc⟩
theorem kG_ {w : World} {base size n k : Nat} {e T : TypeId} {v : Value} {xs : List Value} {cs : Array Value} (h : w.ownsRow base e size v n xs) (hk : v.ownBlock = some k) (hb : Blk w k T cs) (hne : e ≠ T) : False := by
 rcases h.2 with ⟨rfl, _⟩ | ⟨g, cap, cur, rfl, _, hh, _⟩
 ·cases hk
 ·injection hk with hk
  have hk' : g = k := hk;subst hk';have := hh.symm.trans hb;injection this with this;injection this with _ e2 _;exact hne e2
theorem addT_zero (g n : Nat) : (⟨g, 0, none⟩ : Addr).add n = ⟨g, n, none⟩ := add_zero g n
section
variable {w0 w w' : World} {base : Nat} {v : Value} {l : List ByteArray}
end
section
variable {w0 w : World} {base : Nat} {v : Value} {l : List ByteArray} {ops : Array Oper} {rest : List Oper} {o : Oper} {a : Act} {Q : Exit → Act → World → Prop}
end
set_option maxHeartbeats 4000000 in
theorem Ji_ (w : World) (r : Rg) : Calls Tryd.prog 92 #[.agg #[.int .i64 r.start, .int .i64 r.len]] w (Ret (.bool (oneR r)) w) := by
 have HB := hD (fun o : Obj => show Bel w (w.alloc o) from (Below.refl _ _).al _)
 obtain ⟨b, hb⟩ : ∃ b, oneR r = b := ⟨_, rfl⟩
 have HE := hD hb
 rw [hb]
 unfold oneR at hb
 by_cases h0 : 0 ≤ r.start
 ·by_cases h1 : 0 ≤ r.len
  ·by_cases h2 : r.start ≤ 1073741824
   ·have wm : IntKind.i64.wrap (1073741824 - r.start) = 1073741824 - r.start := IntWalk.i64_in _ (by omega)
    by_cases h3 : r.len ≤ 1073741824 - r.start
    ·rw [decide_eq_true h0, decide_eq_true h1, decide_eq_true h2, decide_eq_true h3] at hb
     subst hb;go_enter Tryd.func92, Tryd.ntmps92
     go_wp2_with fail
     go_ret
     exact ⟨rfl, HB.out _⟩
    ·rw [decide_eq_true h0, decide_eq_true h1, decide_eq_true h2, decide_eq_false h3] at hb
     subst hb;go_enter Tryd.func92, Tryd.ntmps92
     go_wp2_with fail
     go_ret
     exact ⟨rfl, HB.out _⟩
   ·rw [decide_eq_true h0, decide_eq_true h1, decide_eq_false h2] at hb
    subst hb;go_enter Tryd.func92, Tryd.ntmps92
    go_wp2_with fail
    go_ret
    exact ⟨rfl, HB.out _⟩
  ·rw [decide_eq_true h0, decide_eq_false h1] at hb
   subst hb;go_enter Tryd.func92, Tryd.ntmps92
   go_wp2_with fail
   go_ret
   exact ⟨rfl, HB.out _⟩
 ·rw [decide_eq_false h0] at hb
  subst hb;go_enter Tryd.func92, Tryd.ntmps92
  go_wp2_with fail
  go_ret
  exact ⟨rfl, HB.out _⟩
theorem Ql_ {α : Type} {p : α → Bool} {l : List α} {k : Nat} (h : ∀ j x, j < l.length → l[j]? = some x → p x = false) : l.any p = false := by
 rw [List.any_eq_false]
 intro x hx
 obtain ⟨j, hj⟩ := List.getElem?_of_mem hx
 rw [h j x (List.getElem?_eq_some_iff.1 hj).1 hj]
 exact Bool.false_ne_true
theorem Qm_ {α : Type} {p : α → Bool} {l : List α} {k : Nat} {x : α} (h : l[k]? = some x) (hp : p x = true) : l.any p = true := by
 rw [List.any_eq_true]
 exact ⟨x, List.mem_of_getElem? h, hp⟩
set_option maxHeartbeats 16000000 in
theorem Zh_ {w : World} {S : Nat → Prop} {A : Option Addr} {c : Nat} {l : List Rg} (h : RL w S (.slice A l.length c) l) (hl : l.length ≤ 1000000) {n : Int} (hn : -1099511627776 ≤ n ∧ n ≤ 1099511627776) :
  Calls Tryd.prog 44 #[.slice A l.length c, .int .i64 n] w (Ret (.bool (hasR l n)) w) := by
 have HL := hD h
 clear h
 go_enter Tryd.func44, Tryd.ntmps44
 go_wp2_with fail
 go_loopw [5] (fun v wr => ∃ k : Nat, k ≤ l.length ∧ v = .int .i64 (k : Int) ∧ (∀ j x, j < k → l[j]? = some x → inR n x = false) ∧ Bel w wr) (fun v _ => l.length - (intOf v).toNat)
 case atStart => exact ⟨0, Nat.zero_le _, rfl, fun j x h => absurd h (Nat.not_lt_zero _), Below.refl _ _⟩
 case round =>
  obtain ⟨k, hk, rfl, ha, hb⟩ := hrel;have HA := hD ha;have HB := hD hb;clear ha hb;by_cases hlt : k < l.length
  ·have z0 : (k : Int) < (l.length : Int) := by omega
   have z1 : (0 : Int) ≤ (k : Int) := by omega
   obtain ⟨ad, x, rfl, hx, _, had, ⟨b0, b1⟩⟩ := (HL.out.up HB.out).at_ hlt;have HX := hD hx;have e0 := CalmW.cell b0;have e1 := CalmW.cell b1;have HON := hD (fun n : CalmW wr => Ji_ n.w x);obtain ⟨o, ho⟩ : ∃ o, oneR x = o := ⟨_, rfl⟩;have HO := hD ho;have HIN := hD (show inR n x = (o && decide (x.start ≤ n) && decide (n - x.start < x.len)) by unfold inR; rw [ho]);rw [ho] at HON;clear hx ho b0 b1;go_upto_region 4 with fail
   cases o with
   | false =>
    have HN := hD (show inR n x = false by rw [HIN.out]; rfl);refine zd_ (by kernel_rfl) (by kernel_rfl) ?_;repeat (go_big_quiet_step ((go_at_call 92; exact Calls.calm (HON.out _))))
    refine wpQuiet_nil ?_;rintro _ ⟨n5, rfl⟩;have HB7 := hD (HB.out.next n5.ok);clear e0 e1 HON;generalize n5.w = w7 at *;have HNX := hD (zi_ (P := fun _ y => inR n y = false) HA.out HX.out HN.out);go_wp2_with fail
    go_roundw
    case rel => exact ⟨k + 1, by omega, by go_num, HNX.out, HB7.out⟩
    case measure => simp [intOf]; omega
   | true =>
    have hx01 : 0 ≤ x.start ∧ x.start ≤ 1073741824 := by
     have := HO.out;unfold oneR at this;simp at this;omega
    have wm : IntKind.i64.wrap (n - x.start) = n - x.start := IntWalk.i64_in _ (by omega);by_cases h1 : x.start ≤ n
    ·by_cases h2 : n - x.start < x.len
     ·have t1 : decide (x.start ≤ n) = true := decide_eq_true h1
      have t2 : decide (n - x.start < x.len) = true := decide_eq_true h2;have HN := hD (Qm_ (p := inR n) HX.out (by rw [HIN.out, t1, t2]; rfl));clear h1 h2;refine zd_ (by kernel_rfl) (by kernel_rfl) ?_;repeat (go_big_quiet_step ((go_at_call 92; exact Calls.calm (HON.out _))))
      refine wpQuiet_nil ?_;rintro _ ⟨n5, rfl⟩;have HB7 := hD (HB.out.next n5.ok);clear e0 e1 HON;generalize n5.w = w7 at *;go_wp2_with fail
      go_ret
      exact ⟨by rw [show hasR l n = true from HN.out]; rfl, HB7.out⟩
     ·have t1 : decide (x.start ≤ n) = true := decide_eq_true h1
      have t2 : decide (n - x.start < x.len) = false := decide_eq_false h2;have HN := hD (show inR n x = false by rw [HIN.out, t1, t2]; rfl);clear h1 h2;refine zd_ (by kernel_rfl) (by kernel_rfl) ?_;repeat (go_big_quiet_step ((go_at_call 92; exact Calls.calm (HON.out _))))
      refine wpQuiet_nil ?_;rintro _ ⟨n5, rfl⟩;have HB7 := hD (HB.out.next n5.ok);clear e0 e1 HON;generalize n5.w = w7 at *;have HNX := hD (zi_ (P := fun _ y => inR n y = false) HA.out HX.out HN.out);go_wp2_with fail
      go_roundw
      case rel => exact ⟨k + 1, by omega, by go_num, HNX.out, HB7.out⟩
      case measure => simp [intOf]; omega
    ·have t1 : decide (x.start ≤ n) = false := decide_eq_false h1
     have HN := hD (show inR n x = false by rw [HIN.out, t1]; rfl);clear h1;refine zd_ (by kernel_rfl) (by kernel_rfl) ?_;repeat (go_big_quiet_step ((go_at_call 92; exact Calls.calm (HON.out _))))
     refine wpQuiet_nil ?_;rintro _ ⟨n5, rfl⟩;have HB7 := hD (HB.out.next n5.ok);clear e0 e1 HON;generalize n5.w = w7 at *;have HNX := hD (zi_ (P := fun _ y => inR n y = false) HA.out HX.out HN.out);go_wp2_with fail
     go_roundw
     case rel => exact ⟨k + 1, by omega, by go_num, HNX.out, HB7.out⟩
     case measure => simp [intOf]; omega
  ·obtain rfl : k = l.length := by omega
   have HN := hD (show hasR l n = false from Ql_ (k := 0) HA.out);go_wp2_with fail
   go_ret
   exact ⟨by rw [HN.out]; rfl, HB.out⟩
def Zv_ (S : Nat → Prop) (l : List Int) (w : World) (e : Ending) (w' : World) : Prop := ∃ A c, e = .returned (.slice A l.length c) ∧ IL w' (fun g => S g ∨ w.heap.size ≤ g) (.slice A l.length c) l ∧ Bel w w'
def iV (l : List Int) : List Value := l.map (Value.int .i64)
theorem Xe_ {w : World} {base n : Nat} {v : Value} {l : List Int} (h : w.ownsRow base 3 1 v n (iV l)) (hn : n = l.length) {S : Nat → Prop} (hS : ∀ k, base ≤ k → S k) : IL w S v l := by
 subst hn
 rcases id h.2 with ⟨rfl, h0⟩ | ⟨g, cap, cur, rfl, _, _, hc, _⟩
 ·have : l = [] := List.eq_nil_of_length_eq_zero h0
  subst this;exact LR.nil
 ·refine ⟨_, cap, rfl, hc, fun _ => ⟨_, rfl, hS _ (World.ownsRow.lt h g rfl).1, (World.ownsRow.lt h g rfl).2, fun k x hx => ?_⟩⟩
  have hk := (List.getElem?_eq_some_iff.1 hx).1;unfold IntC;rw [Nat.mul_one, addT_zero, World.ownsRow.cellAt h k (by omega)];simp [iV, hx]
theorem qY_ {w : World} {S : Nat → Prop} {A : Option Addr} {c : Nat} {l : List Int} (h : IL w S (.slice A l.length c) l) {o m : Nat} (ho : o + m ≤ l.length) {B : Option Addr} (hB : ∀ ad, A = some ad → 0 < m → B = some (ad.add o)) : Reads w w.heap.size 1 B m (iV ((l.drop o).take m)) := by
 have hlen : ((l.drop o).take m).length = m := by simp; omega
 refine ⟨by rw [iV, List.length_map, hlen, Nat.mul_one], fun h0 => ?_⟩
 obtain ⟨ad, x, e, _, _, hlt, _⟩ := h.cell (k := o) (by omega)
 subst e
 refine ⟨ad.add o, hB ad rfl h0, by rw [zk_]; exact hlt, fun j u hu => ?_⟩
 have hj : j < m := by have := (List.getElem?_eq_some_iff.1 hu).1; rw [iV, List.length_map, hlen] at this; exact this
 obtain ⟨ad', x', e', hx', _, _, hc⟩ := h.cell (k := o + j) (by omega)
 injection e' with e'
 subst e'
 simp only [iV, List.getElem?_map] at hu
 rw [List.getElem?_take_of_lt hj, List.getElem?_drop, hx'] at hu
 simp at hu
 rw [show (ad.add o).add j = ad.add (o + j) from Addr.add_add _ _ _, hc, hu]
theorem yO_ (l : List Int) : ∀ u ∈ iV l, u.oneCell' = true := fun u hu => by
 unfold iV at hu
 obtain ⟨x, _, rfl⟩ := List.mem_map.1 hu
 rfl
theorem yG_ {w : World} {S : Nat → Prop} {A : Option Addr} {c k : Nat} {l : List Int} (h : IL w S (.slice A l.length c) l) (hk : k ≤ l.length) : Reads w w.heap.size 1 A k (iV (l.take k)) := qY_ (o := 0) h (by omega) (fun ad e _ => by rw [e, Addr.add_zero'])
theorem y4_ {w : World} {S : Nat → Prop} {A B : Option Addr} {c k : Nat} {l : List Int} (h : IL w S (.slice A l.length c) l) (hk : k ≤ l.length) (hB : ∀ ad, A = some ad → 0 < l.length - k → B = some (ad.add k)) : Reads w w.heap.size 1 B (l.length - k) (iV (l.drop k)) := by
 have := qY_ (o := k) (m := l.length - k) h (by omega) hB
 rwa [List.take_of_length_le (by rw [List.length_drop]; exact Nat.le_refl _)] at this
theorem zZ_ {w : World} {g : Nat} {T : TypeId} {cs : Array Value} {n : Nat} (h : Blk w g T cs) (hn : cs.size = n) : Reads w w.heap.size n (some ⟨g, 0, none⟩) 1 cs.toList := by
 refine ⟨by simp [hn], fun _ => ⟨_, rfl, h.lt, fun j u hu => ?_⟩⟩
 rw [addT_zero, h.cell]
 simpa using hu
theorem zo_ {base : Nat} {e : TypeId} {size n : Nat} {v : Value} {xs : List Value} {a w w' : World} (hb : Below base a w) (h : w.ownsRow base e size v n xs) (hg : w.grownBy w' v.ownBlock) (hbs : base ≤ w.heap.size) : Below base a w' :=
 hb.trans (((Only.refl (fun q => v.ownBlock = some q) w).grown hg (fun k e => .inl e)).below hbs (fun q e => (World.ownsRow.lt h q e).1))
theorem jw_ {w wr w' : World} {S : Nat → Prop} {l : List Int} {v : Value} {n : Nat} (h : w'.ownsRow wr.heap.size 3 1 v n (iV l)) (hn : n = l.length) (hw : w.heap.size ≤ wr.heap.size) (hb : Bel w w') : Zv_ S l w (.returned v) w' := by
 subst hn
 obtain ⟨A, c, rfl, _⟩ := zQ_ h
 exact ⟨A, c, rfl, Xe_ h rfl (fun k hk => .inr (Nat.le_trans hw hk)), hb⟩
theorem yj_ (l m : List Int) : iV (l ++ m) = iV l ++ iV m := by simp [iV]
set_option maxHeartbeats 16000000 in
theorem q6_ {w : World} {S : Nat → Prop} {A : Option Addr} {c : Nat} {l : List Int} (h : IL w S (.slice A l.length c) l) (hl : l.length ≤ 1000000) (n : Int) :
  Calls Tryd.prog 91 #[.slice A l.length c, .int .i64 n] w (Zv_ S (insR l n) w) := by
 obtain ⟨i0, hi0, hz0, hz1, hz2⟩ := info_parts jA_
 have hcap : l.length ≤ c := by obtain ⟨A', c', e, hc, _⟩ := h; injection e with _ _ e; rw [e]; exact hc
 have HL := hD h
 clear h
 go_enter Tryd.func91, Tryd.ntmps91
 go_wp2_with fail
 go_loopw [5] (fun v wr => ∃ k : Nat, k ≤ l.length ∧ v = .int .i64 (k : Int) ∧ (∀ j x, j < k → l[j]? = some x → x < n) ∧ Bel w wr) (fun v _ => l.length - (intOf v).toNat)
 case atStart => exact ⟨0, Nat.zero_le _, rfl, fun j x h => absurd h (Nat.not_lt_zero _), Below.refl _ _⟩
 case round =>
  obtain ⟨k, hk, rfl, ha, hb⟩ := hrel;have HA := hD ha;have HB := hD hb;have hwl := hb.size;have HLX := hD (show ∀ X, Bel wr X → IL X S (.slice A l.length c) l from fun X hX => (HL.out.up HB.out).up hX);clear ha hb;by_cases hlt : k < l.length
  ·have z0 : (k : Int) < (l.length : Int) := by omega
   have z1 : (0 : Int) ≤ (k : Int) := by omega
   obtain ⟨ad, x, rfl, hx, _, had, b0⟩ := (HL.out.up HB.out).cell hlt;have HX := hD hx;clear hx;by_cases h1 : x < n
   ·have t1 : decide (x < n) = true := decide_eq_true h1
    have HNX := hD (zi_ (P := fun _ y => y < n) HA.out HX.out h1);clear h1;go_wp2_with fail
    go_roundw
    case rel => exact ⟨k + 1, by omega, by go_num, HNX.out, HB.out⟩
    case measure => simp [intOf]; omega
   ·have t1 : decide (x < n) = false := decide_eq_false h1
    by_cases h2 : x = n
    ·subst h2
     have HE := hD (Ze_ HA.out HX.out);have HLB := hD (IL.keep (HLX.out _ (Below.refl _ _)) Kept.same (S' := fun g => S g ∨ w.heap.size ≤ g) (fun _ h => .inl h));clear h1;go_wp2_with fail
     go_ret
     exact ⟨some ad, c, by rw [HE.out]; rfl, by rw [HE.out]; exact HLB.out, HB.out⟩
    ·have t2 : (x == n) = false := beq_eq_false_iff_ne.2 h2
     have HE := hD (show insR l n = l.take k ++ [n] ++ l.drop k from jy_ (by omega) HA.out (fun y hy => by rw [HX.out] at hy; injection hy with hy; subst hy; exact ⟨h1, h2⟩));clear h1 h2;go_upto_region 6 with fail
     clear b0;have hkc : k ≤ c := by omega
     have hd0 : Bel wr wr.drew := (Below.refl _ _).drew;refine wp_region_held_drew (S := fun _ : World => True) (by kernel_rfl) trivial (fun _ => ?_);refine tkB [0, 1, 2, 4, 7, 8, 9] ?_
     iterate 7
      refine tk (oi := ⟨some _, _, _, _, _, _⟩) (v := ?_) rfl (by kernel_rfl) (by kernel_rfl) (by kernel_rfl) (fun _ _ _ _ _ h => h) rfl (Or.inl ⟨by rfl, ?_⟩) (by assumption) ?_;rotate_left 1
      ·(intro w hSw; (try dsimp only at hSw); go_simp; try with_reducible rfl)
      simp only [Act.put, tS]
     refine tkE ?_;refine wpAnyH_all (rs := [3, 5]) (by kernel_rfl) (by simp) (fun i hi => ?_);rcases (show i = 3 ∨ i = 5 by simpa using hi) with rfl | rfl
     ·refine wpOp_step (o := ⟨some 36, _, _, _, _, _⟩) rfl (fun K1 hK1 => ?_)
      refine zc_ (o := ⟨some 36, _, _, _, _, _⟩) _ rfl (.const (.slice none 0 0)) (.tmp 35) 22 rfl wr.heap.size 3 i0 _ 1 8 Tryd.underlying22 hi0 hz0 hz1 hz2 rfl (by decide) (.slice none 0 0) 0 [] rfl (World.ownsRow_nil _ _ _ _) _ (some ad) k c (iV (l.take k)) rfl (yG_ (HLX.out _ hd0) hk) (yO_ _) (by unfold maxLen; omega) (by omega) hd0.size ?_;intro v6 w6 h6 hg6 _;have HOB := hD (zo_ (Below.refl _ _) (World.ownsRow_nil _ _ 3 1) hg6 (Nat.le_refl _));have HB6 := hD (zo_ hd0 (World.ownsRow_nil _ wr.heap.size 3 1) hg6 hd0.size);have H6 := hD (show w6.ownsRow wr.heap.size 3 1 v6 k (iV (l.take k)) by have := h6; rwa [Nat.zero_add, List.nil_append] at this);clear h6 hg6;refine hK1 _ _ ⟨trivial, ?_⟩;try simp only [Act.put, upd, Nat.reduceAdd, Nat.reduceBEq, tS]
      refine wpAnyH_all (rs := [5]) (by kernel_rfl) (by simp) (fun i hi => ?_);obtain rfl : i = 5 := by simpa using hi
      refine wpOp_step (o := ⟨some 38, _, _, _, _, _⟩) rfl (fun K2 hK2 => ?_);go_simp;have HB7 := hD (HB6.out.al (.cells #[.int .i64 n] 3));have H7 := hD (World.ownsRow.alloc H6.out (.cells #[.int .i64 n] 3));have HG7 := hD (Blk.new w6 3 #[.int .i64 n]);refine hK2 _ _ ⟨trivial, ?_⟩;try simp only [Act.put, upd, Nat.reduceAdd, Nat.reduceBEq, tS]
      refine wpAnyH_all (rs := [6]) (by kernel_rfl) (by simp) (fun i hi => ?_);obtain rfl : i = 6 := by simpa using hi
      refine wpOp_step (o := ⟨some 39, _, _, _, _, _⟩) rfl (fun K3 hK3 => ?_);refine zc_ (o := ⟨some 39, _, _, _, _, _⟩) _ rfl (.tmp 36) (.tmp 38) 22 rfl wr.heap.size 3 i0 _ 1 8 Tryd.underlying22 hi0 hz0 hz1 hz2 rfl (by decide) v6 k (iV (l.take k)) rfl H7.out _ (some ⟨w6.heap.size, 0, none⟩) 1 1 (iV [n]) rfl (zZ_ HG7.out rfl) (yO_ _) (by unfold maxLen; omega) (by omega) HB7.out.size ?_;intro v8 w8 h8 hg8 _;have HB8 := hD (zo_ HB7.out H7.out hg8 HB7.out.size);have H8 := hD (show w8.ownsRow wr.heap.size 3 1 v8 (k + 1) (iV (l.take k ++ [n])) by rw [yj_]; exact h8);clear h8 hg8;refine hK3 _ _ ⟨trivial, ?_⟩;try simp only [Act.put, upd, Nat.reduceAdd, Nat.reduceBEq, tS]
      refine wpAnyH_all (rs := [10]) (by kernel_rfl) (by simp) (fun i hi => ?_);obtain rfl : i = 10 := by simpa using hi
      refine wpOp_step (o := ⟨some 43, _, _, _, _, _⟩) rfl (fun K4 hK4 => ?_);refine zc_ (o := ⟨some 43, _, _, _, _, _⟩) _ rfl (.tmp 39) (.tmp 42) 22 rfl wr.heap.size 3 i0 _ 1 8 Tryd.underlying22 hi0 hz0 hz1 hz2 rfl (by decide) v8 (k + 1) (iV (l.take k ++ [n])) rfl H8.out _ (if c = k then some ad else some (ad.add k)) (l.length - k) (c - k) (iV (l.drop k)) rfl (y4_ (HLX.out _ HB8.out) hk (fun ad' e h0 => by injection e with e; subst e; rw [if_neg (by omega)])) (yO_ _) (by unfold maxLen; omega) (by omega) HB8.out.size ?_;intro v9 w9 h9 hg9 _;have HB9 := hD (zo_ HB8.out H8.out hg9 HB8.out.size);have H9 := hD (show w9.ownsRow wr.heap.size 3 1 v9 (k + 1 + (l.length - k)) (iV (insR l n)) by rw [HE.out, yj_]; exact h9);have HLN := hD (show k + 1 + (l.length - k) = (insR l n).length by rw [HE.out]; simp; omega);clear h9 hg9;refine hK4 _ _ ⟨trivial, ?_⟩;try simp only [Act.put, upd, Nat.reduceAdd, Nat.reduceBEq, tS]
      refine wpAnyH_all (rs := [11]) (by kernel_rfl) (by simp) (fun i hi => ?_);obtain rfl : i = 11 := by simpa using hi
      refine wpOp_step (o := ⟨some 4, _, _, _, _, _⟩) rfl (fun K5 hK5 => ?_);go_simp;refine hK5 _ _ ⟨trivial, ?_⟩;try simp only [Act.put, upd, Nat.reduceAdd, Nat.reduceBEq, tS]
      refine wpAnyH_done (by kernel_rfl) ?_ _;go_wp2_with fail
      all_goals
       go_ret
       exact jw_ H9.out HLN.out hwl (HB.out.trans (HB9.out.mono hwl))
     ·refine wpOp_step (o := ⟨some 38, _, _, _, _, _⟩) rfl (fun K2 hK2 => ?_)
      go_simp;have hd1 := hd0.al (.cells #[.int .i64 n] 3);have hg1 := Blk.new wr.drew 3 #[.int .i64 n];refine hK2 _ _ ⟨trivial, ?_⟩;try simp only [Act.put, upd, Nat.reduceAdd, Nat.reduceBEq, tS]
      refine wpAnyH_all (rs := [3]) (by kernel_rfl) (by simp) (fun i hi => ?_);obtain rfl : i = 3 := by simpa using hi
      refine wpOp_step (o := ⟨some 36, _, _, _, _, _⟩) rfl (fun K1 hK1 => ?_);refine zc_ (o := ⟨some 36, _, _, _, _, _⟩) _ rfl (.const (.slice none 0 0)) (.tmp 35) 22 rfl wr.heap.size 3 i0 _ 1 8 Tryd.underlying22 hi0 hz0 hz1 hz2 rfl (by decide) (.slice none 0 0) 0 [] rfl (World.ownsRow_nil _ _ _ _) _ (some ad) k c (iV (l.take k)) rfl (yG_ (HLX.out _ hd1) hk) (yO_ _) (by unfold maxLen; omega) (by omega) hd1.size ?_;intro v6 w6 h6 hg6 _;have HOB := hD (zo_ (Below.refl _ _) (World.ownsRow_nil _ _ 3 1) hg6 (Nat.le_refl _));have HB6 := hD (zo_ hd1 (World.ownsRow_nil _ wr.heap.size 3 1) hg6 hd1.size);have H6 := hD (show w6.ownsRow wr.heap.size 3 1 v6 k (iV (l.take k)) by have := h6; rwa [Nat.zero_add, List.nil_append] at this);clear h6 hg6;have HG7 := hD (hg1.only (Only.of_below (fun _ => False) HOB.out) (fun h => h));refine hK1 _ _ ⟨trivial, ?_⟩;try simp only [Act.put, upd, Nat.reduceAdd, Nat.reduceBEq, tS]
      refine wpAnyH_all (rs := [6]) (by kernel_rfl) (by simp) (fun i hi => ?_);obtain rfl : i = 6 := by simpa using hi
      refine wpOp_step (o := ⟨some 39, _, _, _, _, _⟩) rfl (fun K3 hK3 => ?_);refine zc_ (o := ⟨some 39, _, _, _, _, _⟩) _ rfl (.tmp 36) (.tmp 38) 22 rfl wr.heap.size 3 i0 _ 1 8 Tryd.underlying22 hi0 hz0 hz1 hz2 rfl (by decide) v6 k (iV (l.take k)) rfl H6.out _ (some ⟨wr.drew.heap.size, 0, none⟩) 1 1 (iV [n]) rfl (zZ_ HG7.out rfl) (yO_ _) (by unfold maxLen; omega) (by omega) HB6.out.size ?_;intro v8 w8 h8 hg8 _;have HB8 := hD (zo_ HB6.out H6.out hg8 HB6.out.size);have H8 := hD (show w8.ownsRow wr.heap.size 3 1 v8 (k + 1) (iV (l.take k ++ [n])) by rw [yj_]; exact h8);clear h8 hg8;refine hK3 _ _ ⟨trivial, ?_⟩;try simp only [Act.put, upd, Nat.reduceAdd, Nat.reduceBEq, tS]
      refine wpAnyH_all (rs := [10]) (by kernel_rfl) (by simp) (fun i hi => ?_);obtain rfl : i = 10 := by simpa using hi
      refine wpOp_step (o := ⟨some 43, _, _, _, _, _⟩) rfl (fun K4 hK4 => ?_);refine zc_ (o := ⟨some 43, _, _, _, _, _⟩) _ rfl (.tmp 39) (.tmp 42) 22 rfl wr.heap.size 3 i0 _ 1 8 Tryd.underlying22 hi0 hz0 hz1 hz2 rfl (by decide) v8 (k + 1) (iV (l.take k ++ [n])) rfl H8.out _ (if c = k then some ad else some (ad.add k)) (l.length - k) (c - k) (iV (l.drop k)) rfl (y4_ (HLX.out _ HB8.out) hk (fun ad' e h0 => by injection e with e; subst e; rw [if_neg (by omega)])) (yO_ _) (by unfold maxLen; omega) (by omega) HB8.out.size ?_;intro v9 w9 h9 hg9 _;have HB9 := hD (zo_ HB8.out H8.out hg9 HB8.out.size);have H9 := hD (show w9.ownsRow wr.heap.size 3 1 v9 (k + 1 + (l.length - k)) (iV (insR l n)) by rw [HE.out, yj_]; exact h9);have HLN := hD (show k + 1 + (l.length - k) = (insR l n).length by rw [HE.out]; simp; omega);clear h9 hg9;refine hK4 _ _ ⟨trivial, ?_⟩;try simp only [Act.put, upd, Nat.reduceAdd, Nat.reduceBEq, tS]
      refine wpAnyH_all (rs := [11]) (by kernel_rfl) (by simp) (fun i hi => ?_);obtain rfl : i = 11 := by simpa using hi
      refine wpOp_step (o := ⟨some 4, _, _, _, _, _⟩) rfl (fun K5 hK5 => ?_);go_simp;refine hK5 _ _ ⟨trivial, ?_⟩;try simp only [Act.put, upd, Nat.reduceAdd, Nat.reduceBEq, tS]
      refine wpAnyH_done (by kernel_rfl) ?_ _;go_wp2_with fail
      all_goals
       go_ret
       exact jw_ H9.out HLN.out hwl (HB.out.trans (HB9.out.mono hwl))
  ·have z0 : ¬ (k : Int) < (l.length : Int) := by omega
   have HE := hD (show insR l n = l.take k ++ [n] ++ l.drop k from jy_ (by omega) HA.out (fun y hy => by rw [List.getElem?_eq_none (by omega)] at hy; cases hy));go_upto_region 6 with fail
   have hkc : k ≤ c := by omega
   have hd0 : Bel wr wr.drew := (Below.refl _ _).drew;refine wp_region_held_drew (S := fun _ : World => True) (by kernel_rfl) trivial (fun _ => ?_);refine tkB [0, 1, 2, 4, 7, 8, 9] ?_
   iterate 7
    refine tk (oi := ⟨some _, _, _, _, _, _⟩) (v := ?_) rfl (by kernel_rfl) (by kernel_rfl) (by kernel_rfl) (fun _ _ _ _ _ h => h) rfl (Or.inl ⟨by rfl, ?_⟩) (by assumption) ?_;rotate_left 1
    ·(intro w hSw; (try dsimp only at hSw); go_simp; try with_reducible rfl)
    simp only [Act.put, tS]
   refine tkE ?_;refine wpAnyH_all (rs := [3, 5]) (by kernel_rfl) (by simp) (fun i hi => ?_);rcases (show i = 3 ∨ i = 5 by simpa using hi) with rfl | rfl
   ·refine wpOp_step (o := ⟨some 36, _, _, _, _, _⟩) rfl (fun K1 hK1 => ?_)
    refine zc_ (o := ⟨some 36, _, _, _, _, _⟩) _ rfl (.const (.slice none 0 0)) (.tmp 35) 22 rfl wr.heap.size 3 i0 _ 1 8 Tryd.underlying22 hi0 hz0 hz1 hz2 rfl (by decide) (.slice none 0 0) 0 [] rfl (World.ownsRow_nil _ _ _ _) _ A k c (iV (l.take k)) rfl (yG_ (HLX.out _ hd0) hk) (yO_ _) (by unfold maxLen; omega) (by omega) hd0.size ?_;intro v6 w6 h6 hg6 _;have HOB := hD (zo_ (Below.refl _ _) (World.ownsRow_nil _ _ 3 1) hg6 (Nat.le_refl _));have HB6 := hD (zo_ hd0 (World.ownsRow_nil _ wr.heap.size 3 1) hg6 hd0.size);have H6 := hD (show w6.ownsRow wr.heap.size 3 1 v6 k (iV (l.take k)) by have := h6; rwa [Nat.zero_add, List.nil_append] at this);clear h6 hg6;refine hK1 _ _ ⟨trivial, ?_⟩;try simp only [Act.put, upd, Nat.reduceAdd, Nat.reduceBEq, tS]
    refine wpAnyH_all (rs := [5]) (by kernel_rfl) (by simp) (fun i hi => ?_);obtain rfl : i = 5 := by simpa using hi
    refine wpOp_step (o := ⟨some 38, _, _, _, _, _⟩) rfl (fun K2 hK2 => ?_);go_simp;have HB7 := hD (HB6.out.al (.cells #[.int .i64 n] 3));have H7 := hD (World.ownsRow.alloc H6.out (.cells #[.int .i64 n] 3));have HG7 := hD (Blk.new w6 3 #[.int .i64 n]);refine hK2 _ _ ⟨trivial, ?_⟩;try simp only [Act.put, upd, Nat.reduceAdd, Nat.reduceBEq, tS]
    refine wpAnyH_all (rs := [6]) (by kernel_rfl) (by simp) (fun i hi => ?_);obtain rfl : i = 6 := by simpa using hi
    refine wpOp_step (o := ⟨some 39, _, _, _, _, _⟩) rfl (fun K3 hK3 => ?_);refine zc_ (o := ⟨some 39, _, _, _, _, _⟩) _ rfl (.tmp 36) (.tmp 38) 22 rfl wr.heap.size 3 i0 _ 1 8 Tryd.underlying22 hi0 hz0 hz1 hz2 rfl (by decide) v6 k (iV (l.take k)) rfl H7.out _ (some ⟨w6.heap.size, 0, none⟩) 1 1 (iV [n]) rfl (zZ_ HG7.out rfl) (yO_ _) (by unfold maxLen; omega) (by omega) HB7.out.size ?_;intro v8 w8 h8 hg8 _;have HB8 := hD (zo_ HB7.out H7.out hg8 HB7.out.size);have H8 := hD (show w8.ownsRow wr.heap.size 3 1 v8 (k + 1) (iV (l.take k ++ [n])) by rw [yj_]; exact h8);clear h8 hg8;refine hK3 _ _ ⟨trivial, ?_⟩;try simp only [Act.put, upd, Nat.reduceAdd, Nat.reduceBEq, tS]
    refine wpAnyH_all (rs := [10]) (by kernel_rfl) (by simp) (fun i hi => ?_);obtain rfl : i = 10 := by simpa using hi
    refine wpOp_step (o := ⟨some 43, _, _, _, _, _⟩) rfl (fun K4 hK4 => ?_);refine zc_ (o := ⟨some 43, _, _, _, _, _⟩) _ rfl (.tmp 39) (.tmp 42) 22 rfl wr.heap.size 3 i0 _ 1 8 Tryd.underlying22 hi0 hz0 hz1 hz2 rfl (by decide) v8 (k + 1) (iV (l.take k ++ [n])) rfl H8.out _ (if c = k then A else Option.map (fun x => x.add k) A) (l.length - k) (c - k) (iV (l.drop k)) rfl (y4_ (HLX.out _ HB8.out) hk (fun ad' e h0 => by subst e; rw [if_neg (by omega)]; rfl)) (yO_ _) (by unfold maxLen; omega) (by omega) HB8.out.size ?_;intro v9 w9 h9 hg9 _;have HB9 := hD (zo_ HB8.out H8.out hg9 HB8.out.size);have H9 := hD (show w9.ownsRow wr.heap.size 3 1 v9 (k + 1 + (l.length - k)) (iV (insR l n)) by rw [HE.out, yj_]; exact h9);have HLN := hD (show k + 1 + (l.length - k) = (insR l n).length by rw [HE.out]; simp; omega);clear h9 hg9;refine hK4 _ _ ⟨trivial, ?_⟩;try simp only [Act.put, upd, Nat.reduceAdd, Nat.reduceBEq, tS]
    refine wpAnyH_all (rs := [11]) (by kernel_rfl) (by simp) (fun i hi => ?_);obtain rfl : i = 11 := by simpa using hi
    refine wpOp_step (o := ⟨some 4, _, _, _, _, _⟩) rfl (fun K5 hK5 => ?_);go_simp;refine hK5 _ _ ⟨trivial, ?_⟩;try simp only [Act.put, upd, Nat.reduceAdd, Nat.reduceBEq, tS]
    refine wpAnyH_done (by kernel_rfl) ?_ _;go_wp2_with fail
    all_goals
     go_ret
     exact jw_ H9.out HLN.out hwl (HB.out.trans (HB9.out.mono hwl))
   ·refine wpOp_step (o := ⟨some 38, _, _, _, _, _⟩) rfl (fun K2 hK2 => ?_)
    go_simp;have hd1 := hd0.al (.cells #[.int .i64 n] 3);have hg1 := Blk.new wr.drew 3 #[.int .i64 n];refine hK2 _ _ ⟨trivial, ?_⟩;try simp only [Act.put, upd, Nat.reduceAdd, Nat.reduceBEq, tS]
    refine wpAnyH_all (rs := [3]) (by kernel_rfl) (by simp) (fun i hi => ?_);obtain rfl : i = 3 := by simpa using hi
    refine wpOp_step (o := ⟨some 36, _, _, _, _, _⟩) rfl (fun K1 hK1 => ?_);refine zc_ (o := ⟨some 36, _, _, _, _, _⟩) _ rfl (.const (.slice none 0 0)) (.tmp 35) 22 rfl wr.heap.size 3 i0 _ 1 8 Tryd.underlying22 hi0 hz0 hz1 hz2 rfl (by decide) (.slice none 0 0) 0 [] rfl (World.ownsRow_nil _ _ _ _) _ A k c (iV (l.take k)) rfl (yG_ (HLX.out _ hd1) hk) (yO_ _) (by unfold maxLen; omega) (by omega) hd1.size ?_;intro v6 w6 h6 hg6 _;have HOB := hD (zo_ (Below.refl _ _) (World.ownsRow_nil _ _ 3 1) hg6 (Nat.le_refl _));have HB6 := hD (zo_ hd1 (World.ownsRow_nil _ wr.heap.size 3 1) hg6 hd1.size);have H6 := hD (show w6.ownsRow wr.heap.size 3 1 v6 k (iV (l.take k)) by have := h6; rwa [Nat.zero_add, List.nil_append] at this);clear h6 hg6;have HG7 := hD (hg1.only (Only.of_below (fun _ => False) HOB.out) (fun h => h));refine hK1 _ _ ⟨trivial, ?_⟩;try simp only [Act.put, upd, Nat.reduceAdd, Nat.reduceBEq, tS]
    refine wpAnyH_all (rs := [6]) (by kernel_rfl) (by simp) (fun i hi => ?_);obtain rfl : i = 6 := by simpa using hi
    refine wpOp_step (o := ⟨some 39, _, _, _, _, _⟩) rfl (fun K3 hK3 => ?_);refine zc_ (o := ⟨some 39, _, _, _, _, _⟩) _ rfl (.tmp 36) (.tmp 38) 22 rfl wr.heap.size 3 i0 _ 1 8 Tryd.underlying22 hi0 hz0 hz1 hz2 rfl (by decide) v6 k (iV (l.take k)) rfl H6.out _ (some ⟨wr.drew.heap.size, 0, none⟩) 1 1 (iV [n]) rfl (zZ_ HG7.out rfl) (yO_ _) (by unfold maxLen; omega) (by omega) HB6.out.size ?_;intro v8 w8 h8 hg8 _;have HB8 := hD (zo_ HB6.out H6.out hg8 HB6.out.size);have H8 := hD (show w8.ownsRow wr.heap.size 3 1 v8 (k + 1) (iV (l.take k ++ [n])) by rw [yj_]; exact h8);clear h8 hg8;refine hK3 _ _ ⟨trivial, ?_⟩;try simp only [Act.put, upd, Nat.reduceAdd, Nat.reduceBEq, tS]
    refine wpAnyH_all (rs := [10]) (by kernel_rfl) (by simp) (fun i hi => ?_);obtain rfl : i = 10 := by simpa using hi
    refine wpOp_step (o := ⟨some 43, _, _, _, _, _⟩) rfl (fun K4 hK4 => ?_);refine zc_ (o := ⟨some 43, _, _, _, _, _⟩) _ rfl (.tmp 39) (.tmp 42) 22 rfl wr.heap.size 3 i0 _ 1 8 Tryd.underlying22 hi0 hz0 hz1 hz2 rfl (by decide) v8 (k + 1) (iV (l.take k ++ [n])) rfl H8.out _ (if c = k then A else Option.map (fun x => x.add k) A) (l.length - k) (c - k) (iV (l.drop k)) rfl (y4_ (HLX.out _ HB8.out) hk (fun ad' e h0 => by subst e; rw [if_neg (by omega)]; rfl)) (yO_ _) (by unfold maxLen; omega) (by omega) HB8.out.size ?_;intro v9 w9 h9 hg9 _;have HB9 := hD (zo_ HB8.out H8.out hg9 HB8.out.size);have H9 := hD (show w9.ownsRow wr.heap.size 3 1 v9 (k + 1 + (l.length - k)) (iV (insR l n)) by rw [HE.out, yj_]; exact h9);have HLN := hD (show k + 1 + (l.length - k) = (insR l n).length by rw [HE.out]; simp; omega);clear h9 hg9;refine hK4 _ _ ⟨trivial, ?_⟩;try simp only [Act.put, upd, Nat.reduceAdd, Nat.reduceBEq, tS]
    refine wpAnyH_all (rs := [11]) (by kernel_rfl) (by simp) (fun i hi => ?_);obtain rfl : i = 11 := by simpa using hi
    refine wpOp_step (o := ⟨some 4, _, _, _, _, _⟩) rfl (fun K5 hK5 => ?_);go_simp;refine hK5 _ _ ⟨trivial, ?_⟩;try simp only [Act.put, upd, Nat.reduceAdd, Nat.reduceBEq, tS]
    refine wpAnyH_done (by kernel_rfl) ?_ _;go_wp2_with fail
    all_goals
     go_ret
     exact jw_ H9.out HLN.out hwl (HB.out.trans (HB9.out.mono hwl))
end Go.Proofs.YtdkcfgahdcpkkaaDoor
