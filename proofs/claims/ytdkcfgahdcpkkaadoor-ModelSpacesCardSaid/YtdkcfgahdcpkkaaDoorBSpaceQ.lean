/- ModelSpaces, the plain law: in a valid group the areas of a disk lie apart and within it. -/
import Derived.Test.YtdkcfgahdcpkkaaDoorBRng3
import Derived.Test.YtdkcfgahdcpkkaaDoorBPlaces
import Derived.Test.YtdkcfgahdcpkkaaDoorBFit
set_option linter.all false
namespace Go.Proofs.YtdkcfgahdcpkkaaDoor
open Go.RowKit
set_option maxRecDepth 100000
theorem Qv_ (k : Int) (a b : List Rg) (e : List Int) : ∀ (es : List Int) (o : List Rg), (∀ z ∈ es, z ∈ e) → InE e o → InE e (selO k a b o es)
 | [], o, _, h => h
 | [x], o, _, h => h
 | x :: y :: r, o, hm, h => by
  unfold selO;refine Qv_ k a b e (y :: r) _ (fun z hz => hm z (by simp at hz ⊢; exact .inr hz)) ?_;split
  ·exact h
  ·exact h.add (hm x (by simp)) (hm y (by simp))
theorem YJ_ (k : Int) (a b : List Rg) : ∀ (es : List Int) (o : List Rg), (selO k a b o es).length ≤ o.length + es.length
 | [], o => by simp [selO]
 | [x], o => by simp [selO]
 | x :: y :: r, o => by
  unfold selO;have h1 := YJ_ k a b (y :: r) (if qL_ k (hasR a x) (hasR b x) then o else addG o x y);have h2 := Qp_ o x y;simp only [List.length_cons] at h1 ⊢;by_cases hs : qL_ k (hasR a x) (hasR b x) = true
  ·rw [if_pos hs] at h1 ⊢
   omega
  ·rw [if_neg hs] at h1 ⊢
   omega
theorem XP_ (a b : List Rg) (k : Int) : (selR a b k).length ≤ 2 * (a.length + b.length) := by
 have h1 := YJ_ k a b (z8_ (a ++ b)) []
 have h2 := xy_ (a ++ b) []
 unfold selR
 unfold z8_ at h1 ⊢
 simp only [List.length_nil, List.length_append] at h1 h2
 omega
theorem Q7_ {a b : List Rg} (h : ∀ r ∈ a ++ b, BdR r) (k : Int) {r : Rg} (hr : r ∈ selR a b k) : -1099511627776 ≤ r.len ∧ r.len ≤ 1099511627776 := by
 obtain ⟨h1, h2⟩ := Qv_ k a b (z8_ (a ++ b)) (z8_ (a ++ b)) [] (fun _ h => h) (fun r hr => by cases hr) r hr
 have := kP_ h h1
 have := kP_ h h2
 omega
set_option maxHeartbeats 4000000 in
theorem ZM_ {w : World} {S : Nat → Prop} {A : Option Addr} {c : Nat} {l : List Rg} (h : RL w S (.slice A l.length c) l) (hl : l.length ≤ 10000) (hbd : ∀ r ∈ l, BdR r) :
  Calls Tryd.prog 45 #[.slice A l.length c] w (QH_ (selR l [] 0) w) := by
 have HS := hD (qW_ (b := []) h (LR.nil (S := S)) hl (by simp) (by rw [List.append_nil]; exact hbd) (kd := 0) (.inl rfl))
 obtain ⟨L, hL⟩ : ∃ L, selR l [] 0 = L := ⟨_, rfl⟩
 rw [hL] at HS ⊢
 clear h hbd hL
 go_enter Tryd.func45, Tryd.ntmps45
 go_wp2_with fail
 refine HS.out.mono ?_
 rintro e w1 ⟨A1, c1, rfl, h1, hb⟩
 have H1 := hD h1
 have HB := hD hb
 clear h1 hb
 go_wp2_with fail
 go_ret
 exact ⟨A1, c1, rfl, H1.out, HB.out⟩
theorem Yt_ {l : List Rg} {k : Nat} {r : Rg} (h : l[k]? = some r) : sumG (l.take (k + 1)) = sumG (l.take k) + r.len := by
 obtain ⟨h1, e1⟩ := List.getElem?_eq_some_iff.1 h
 unfold sumG
 rw [List.take_succ_eq_append_getElem h1, e1, List.foldl_append]
 rfl
theorem kw_ : ∀ (l : List Rg) (n : Int), (∀ r ∈ l, -1099511627776 ≤ r.len ∧ r.len ≤ 1099511627776) → n - 1099511627776 * l.length ≤ l.foldl (fun n r => n + r.len) n ∧ l.foldl (fun n r => n + r.len) n ≤ n + 1099511627776 * l.length
 | [], n, _ => by simp
 | r :: l, n, h => by
  have h1 := kw_ l (n + r.len) (fun x hx => h x (by simp [hx]));have h2 := h r (by simp);simp only [List.foldl_cons, List.length_cons];omega
set_option maxHeartbeats 4000000 in
theorem QZ_ {w : World} {S : Nat → Prop} {A : Option Addr} {c : Nat} {l : List Rg} (h : RL w S (.slice A l.length c) l) (hl : l.length ≤ 10000) (hbd : ∀ r ∈ l, BdR r) :
  Calls Tryd.prog 14 #[.slice A l.length c] w (Ret (.int .i64 (sumR l)) w) := by
 have HN := hD (ZM_ h hl hbd)
 have hln := XP_ l [] 0
 have HBD := hD (show ∀ r ∈ selR l [] 0, -1099511627776 ≤ r.len ∧ r.len ≤ 1099511627776 from fun r hr => Q7_ (by rw [List.append_nil]; exact hbd) 0 hr)
 obtain ⟨L, hL⟩ : ∃ L, selR l [] 0 = L := ⟨_, rfl⟩
 have HE := hD (show sumR l = sumG L by unfold sumR; rw [hL])
 rw [hL] at HN hln HBD
 simp only [List.length_nil] at hln
 clear h hbd hL
 go_enter Tryd.func14, Tryd.ntmps14
 go_wp2_with fail
 refine HN.out.mono ?_
 rintro e w1 ⟨A1, c1, rfl, h1, hb⟩
 have H1 := hD h1
 have HB := hD hb
 clear h1 hb
 go_wp2_with fail
 go_loopw [3, 5] (fun n i wx => ∃ k : Nat, k ≤ L.length ∧ i = .int .i64 (k : Int) ∧ n = .int .i64 (sumG (L.take k)) ∧ Bel w1 wx) (fun _ i _ => L.length - (intOf i).toNat)
 case atStart => exact ⟨0, Nat.zero_le _, rfl, rfl, Below.refl _ _⟩
 case round =>
  obtain ⟨k, hk, rfl, rfl, hb⟩ := hrel;have HBK := hD hb;have hsb := kw_ (L.take k) 0 (fun r hr => HBD.out r (List.mem_of_mem_take hr));rw [List.length_take] at hsb;obtain ⟨n, hn⟩ : ∃ n, sumG (L.take k) = n := ⟨_, rfl⟩
  have hnb : -1099511627776 * 20000 ≤ n ∧ n ≤ 1099511627776 * 20000 := by
   rw [← hn];unfold sumG;omega
  clear hb hsb;by_cases hlt : k < L.length
  ·have z0 : (k : Int) < (L.length : Int) := by omega
   have z1 : (0 : Int) ≤ (k : Int) := by omega
   obtain ⟨ad, r, rfl, hx, _, had, ⟨b0, b1⟩⟩ := (H1.out.up HBK.out).at_ hlt;have hrb := HBD.out r (List.mem_of_getElem? hx);have HN2 := hD (Yt_ hx);rw [hn] at HN2 ⊢;have wm : IntKind.i64.wrap (n + r.len) = n + r.len := IntWalk.i64_in _ (by omega);clear hx hn;go_wp2_with fail
   go_roundw
   case rel => exact ⟨k + 1, by omega, by go_num, by rw [HN2.out], HBK.out⟩
   case measure => simp [intOf]; omega
  ·obtain rfl : k = L.length := by omega
   rw [List.take_length] at hn;have HN2 := hD hn;rw [List.take_length, hn];clear hn;go_wp2_with fail
   go_ret
   exact ⟨by rw [HE.out, HN2.out]; rfl, HB.out.next HBK.out⟩
/-! Counting. -/
def cnt (f : Int → Bool) (x : Int) (n : Nat) : Nat := ((List.range n).filter (fun j : Nat => f (x + (j : Int)))).length
theorem cnt_add (f : Int → Bool) (x : Int) (m n : Nat) : cnt f x (m + n) = cnt f x m + cnt f (x + m) n := by
 unfold cnt
 rw [List.range_add, List.filter_append, List.length_append, List.filter_map, List.length_map]
 congr 2
 refine List.filter_congr fun j _ => ?_
 simp only [Function.comp]
 congr 1
 omega
theorem z9_ {f : Int → Bool} {x : Int} {n : Nat} {b : Bool} (h : ∀ j : Nat, j < n → f (x + j) = b) : cnt f x n = if b then n else 0 := by
 unfold cnt
 cases b with
 | true => rw [List.filter_eq_self.2 (fun j hj => h j (List.mem_range.1 hj))]; simp
 | false => rw [List.filter_eq_nil_iff.2 (fun j hj => by rw [h j (List.mem_range.1 hj)]; exact Bool.false_ne_true)]; rfl
theorem cnt_or {f g : Int → Bool} {x : Int} {n : Nat} (h : ∀ j : Nat, j < n → ¬ (f (x + j) = true ∧ g (x + j) = true)) : cnt (fun z => f z || g z) x n = cnt f x n + cnt g x n := by
 induction n with
 | zero => rfl
 | succ n ih =>
  rw [cnt_add, cnt_add f, cnt_add g, ih (fun j hj => h j (by omega))];have hn := h n (by omega)
  have h1 : ∀ F : Int → Bool, cnt F (x + n) 1 = if F (x + n) then 1 else 0 := fun F => z9_ (fun j hj => by
   obtain rfl : j = 0 := by omega
   simp)
  rw [h1, h1, h1];cases hf : f (x + n) <;> cases hg : g (x + n) <;> simp_all <;> omega
/-! What Select finds, summed up. -/
theorem sumG_append (a b : List Rg) : sumG (a ++ b) = sumG a + sumG b := by
 have h : ∀ (l : List Rg) (n : Int), l.foldl (fun n r => n + r.len) n = n + sumG l := by
  intro l;induction l with
  | nil => intro n; simp [sumG]
  | cons r l ih =>
   intro n;unfold sumG;rw [List.foldl_cons, List.foldl_cons, ih, ih (0 + r.len)];omega
 unfold sumG
 rw [List.foldl_append, h]
 rfl
theorem sumG_one (r : Rg) : sumG [r] = r.len := by simp [sumG]
theorem XM_ (o : List Rg) (x y : Int) : sumG (addG o x y) = sumG o + (y - x) := by
 rcases List.eq_nil_or_concat o with rfl | ⟨q, r, rfl⟩
 ·rw [xD_, sumG_one]; simp [sumG]
 ·rw [List.concat_eq_append]
  by_cases hxx : r.start + r.len = x
  ·rw [jR_ hxx, sumG_append, sumG_append, sumG_one, sumG_one]
   show _ + (r.len + (y - x)) = _
   omega
  ·rw [x9_ hxx, sumG_append, sumG_one]
def pieces (k : Int) (a b : List Rg) : List Int → Int
 | x :: y :: e => (if qL_ k (hasR a x) (hasR b x) then 0 else y - x) + pieces k a b (y :: e)
 | _ => 0
theorem YI_ (k : Int) (a b : List Rg) : ∀ (e : List Int) (o : List Rg), sumG (selO k a b o e) = sumG o + pieces k a b e
 | [], o => by simp [selO, pieces]
 | [x], o => by simp [selO, pieces]
 | x :: y :: e, o => by
  unfold selO pieces;rw [YI_ k a b (y :: e)];split
  ·omega
  ·rw [XM_]; omega
def Asc (l : List Int) : Prop := l.Pairwise (· < ·)
theorem jz_ : ∀ {l : List Int} {n : Int}, Asc l → Asc (insR l n)
 | [], n, _ => by simp [insR, Asc]
 | x :: l, n, h => by
  unfold Asc at h ⊢;rw [List.pairwise_cons] at h;unfold insR;split
  ·rename_i hx
   rw [List.pairwise_cons];refine ⟨fun z hz => ?_, jz_ h.2⟩;rcases x3_ hz with hz | hz
   ·exact h.1 z hz
   ·omega
  ·split
   ·rw [List.pairwise_cons]; exact h
   ·rw [List.pairwise_cons, List.pairwise_cons]
    refine ⟨fun z hz => ?_, h⟩;rcases List.mem_cons.1 hz with hz | hz
    ·omega
    ·have := h.1 z hz; omega
theorem kk_ : ∀ {l : List Rg} {o : List Int}, Asc o → Asc (xZ_ o l)
 | [], o, h => h
 | r :: l, o, h => kk_ (l := l) (jz_ (jz_ h))
theorem x2_ : ∀ {l : List Int} {n z : Int}, z ∈ l → z ∈ insR l n
 | [], n, z, h => by cases h
 | x :: l, n, z, h => by
  unfold insR;split
  ·rcases List.mem_cons.1 h with h | h
   ·simp [h]
   ·exact List.mem_cons_of_mem _ (x2_ h)
  ·split
   ·exact h
   ·exact List.mem_cons_of_mem _ h
theorem jx_ : ∀ {l : List Int} {n : Int}, n ∈ insR l n
 | [], n => by simp [insR]
 | x :: l, n => by
  unfold insR;split
  ·exact List.mem_cons_of_mem _ jx_
  ·split
   ·rename_i h; simp [h]
   ·simp
theorem qD_ : ∀ {l : List Rg} {o : List Int} {z : Int}, z ∈ o → z ∈ xZ_ o l
 | [], _, _, h => h
 | r :: l, o, z, h => qD_ (l := l) (x2_ (x2_ h))
theorem kj_ : ∀ {l : List Rg} {o : List Int} {r : Rg}, r ∈ l → r.start ∈ xZ_ o l ∧ r.start + r.len ∈ xZ_ o l
 | [], _, _, h => by cases h
 | x :: l, o, r, h => by
  rcases List.mem_cons.1 h with h | h
  ·subst h
   exact ⟨qD_ (l := l) (x2_ jx_), qD_ (l := l) jx_⟩
  ·exact kj_ (l := l) h
theorem ye_ {n : Int} {r : Rg} : inR n r = true ↔ oneR r = true ∧ r.start ≤ n ∧ n < r.start + r.len := by
 unfold inR
 simp only [Bool.and_eq_true, decide_eq_true_eq]
 constructor
 ·rintro ⟨⟨h1, h2⟩, h3⟩; exact ⟨h1, h2, by omega⟩
 ·rintro ⟨h1, h2, h3⟩; exact ⟨⟨h1, h2⟩, by omega⟩
theorem Xj_ {l : List Rg} {e : List Int} (he : ∀ r ∈ l, r.start ∈ e ∧ r.start + r.len ∈ e) {x y n : Int} (hxy : ∀ z ∈ e, z ≤ x ∨ y ≤ z) (h1 : x ≤ n) (h2 : n < y) : hasR l n = hasR l x := by
 unfold hasR
 rw [Bool.eq_iff_iff, List.any_eq_true, List.any_eq_true]
 constructor
 ·rintro ⟨r, hr, h⟩
  rw [ye_] at h;have h3 := hxy _ (he r hr).1;exact ⟨r, hr, ye_.2 ⟨h.1, by omega, by omega⟩⟩
 ·rintro ⟨r, hr, h⟩
  rw [ye_] at h;have h3 := hxy _ (he r hr).2;exact ⟨r, hr, ye_.2 ⟨h.1, by omega, by omega⟩⟩
theorem q2_ {l : List Rg} {e0 : List Int} (he : ∀ r ∈ l, r.start ∈ e0 ∧ r.start + r.len ∈ e0) : ∀ (e : List Int) (x : Int), Asc (x :: e) → (∀ z ∈ e0, z ≤ x ∨ z ∈ e) → ∃ n : Nat, pieces 0 l [] (x :: e) = (cnt (hasR l) x n : Int) ∧ (x + n = (x :: e).getLast (List.cons_ne_nil _ _))
 | [], x, _, _ => ⟨0, rfl, by simp⟩
 | y :: e, x, ha, hz => by
  have ha' := ha;unfold Asc at ha;rw [List.pairwise_cons] at ha;have hxy := ha.1 y (by simp);have ha2 := ha.2;rw [List.pairwise_cons] at ha2
  obtain ⟨n, h1, h2⟩ := q2_ he e y ha.2 (fun z hz' => by
   rcases hz z hz' with h | h
   ·exact .inl (by omega)
   ·rcases List.mem_cons.1 h with h | h
    ·exact .inl (by omega)
    ·exact .inr h)
  refine ⟨(y - x).toNat + n, ?_, ?_⟩
  ·rw [cnt_add]
   have hm : (((y - x).toNat : Nat) : Int) = y - x := by omega
   have hc := z9_ (f := hasR l) (x := x) (n := (y - x).toNat) (b := hasR l x) (fun j hj => Xj_ he (fun z hz' => by
    rcases hz z hz' with h | h
    ·exact .inl h
    ·rcases List.mem_cons.1 h with h | h
     ·exact .inr (by omega)
     ·exact .inr (by have := ha2.1 z h; omega)) (by omega) (by omega : x + (j : Int) < y))
   rw [hc, show x + (((y - x).toNat : Nat) : Int) = y by omega];unfold pieces;rw [h1]
   have hs : qL_ 0 (hasR l x) (hasR [] x) = !hasR l x := by
    unfold qL_ hasR;simp
   rw [hs];cases hasR l x <;> simp <;> omega
  ·rw [List.getLast_cons (List.cons_ne_nil _ _), ← h2]
   omega
def Apt (a b : Rg) : Prop := ¬ max a.start b.start < min (a.start + a.len) (b.start + b.len)
structure Tidy (M : Int) (l : List Rg) : Prop where
 low : ∀ r ∈ l, 0 ≤ r.start ∧ 1 ≤ r.len ∧ r.start + r.len ≤ M
 apt : l.Pairwise Apt
theorem one_of {M : Int} (hM : M ≤ 4096) {r : Rg} (h : 0 ≤ r.start ∧ 1 ≤ r.len ∧ r.start + r.len ≤ M) : oneR r = true := by
 unfold oneR
 simp
 omega
theorem JC_ {M : Int} (hM : M ≤ 4096) {r : Rg} (h : 0 ≤ r.start ∧ 1 ≤ r.len ∧ r.start + r.len ≤ M) : cnt (fun n => inR n r) 0 4096 = r.len.toNat := by
 obtain ⟨h1, h2, h3⟩ := h
 have ho := one_of hM ⟨h1, h2, h3⟩
 have e1 : (4096 : Nat) = r.start.toNat + (r.len.toNat + (4096 - r.start.toNat - r.len.toNat)) := by omega
 rw [e1, cnt_add, cnt_add]
 rw [z9_ (b := false) (fun j hj => by
  rw [Bool.eq_false_iff];intro hc;have := (ye_.1 hc).2;omega)]
 rw [z9_ (b := true) (fun j hj => ye_.2 ⟨ho, by omega, by omega⟩)]
 rw [z9_ (b := false) (fun j hj => by
  rw [Bool.eq_false_iff];intro hc;have := (ye_.1 hc).2;omega)]
 simp
theorem jK_ {M : Int} (hM : M ≤ 4096) : ∀ {l : List Rg}, Tidy M l → (cnt (hasR l) 0 4096 : Int) = sumG l
 | [], _ => by
  rw [z9_ (b := false) (fun j _ => rfl)];simp [sumG]
 | r :: l, h => by
  have hap := h.apt;rw [List.pairwise_cons] at hap;have ht : Tidy M l := ⟨fun x hx => h.low x (by simp [hx]), hap.2⟩;have hr := h.low r (by simp)
  have e : hasR (r :: l) = fun z => inR z r || hasR l z := by
   funext z
   simp [hasR]
  rw [e, cnt_or (fun j hj hc => by
   obtain ⟨hc1, hc2⟩ := hc;unfold hasR at hc2;rw [List.any_eq_true] at hc2;obtain ⟨x, hx, hc2⟩ := hc2;have h1 := (ye_.1 hc1).2;have h2 := (ye_.1 hc2).2;exact hap.1 x hx (by omega))]
  rw [JC_ hM hr];have ih := jK_ hM ht;rw [show (r :: l) = [r] ++ l from rfl, sumG_append, sumG_one, ← ih];omega
theorem XK_ {M : Int} (hM : M ≤ 4096) {l : List Rg} (h : Tidy M l) : l.length ≤ 4096 := by
 have h1 := jK_ hM h
 have h2 : cnt (hasR l) 0 4096 ≤ 4096 := by
  unfold cnt;exact Nat.le_trans (List.length_filter_le _ _) (by simp)
 have h3 : ∀ l : List Rg, (∀ r ∈ l, 1 ≤ r.len) → (l.length : Int) ≤ sumG l := by
  intro l;induction l with
  | nil => intro _; simp [sumG]
  | cons r l ih =>
   intro hr;have h4 := ih (fun x hx => hr x (by simp [hx]));have h5 := hr r (by simp);rw [show r :: l = [r] ++ l from rfl, sumG_append, sumG_one];simp;omega
 have h4 := h3 l (fun r hr => (h.low r hr).2.1)
 omega
theorem Zq_ : ∀ {l : List Int} (h : Asc l) {z : Int} (hz : z ∈ l), z ≤ l.getLast (List.ne_nil_of_mem hz)
 | [], _, _, hz => by cases hz
 | [x], _, z, hz => by simp at hz; subst hz; exact Int.le_refl _
 | x :: y :: l, h, z, hz => by
  unfold Asc at h;rw [List.pairwise_cons] at h;rw [List.getLast_cons (List.cons_ne_nil _ _)];rcases List.mem_cons.1 hz with h1 | h1
  ·have h2 := h.1 _ (List.getLast_mem (List.cons_ne_nil y l))
   omega
  ·exact Zq_ (l := y :: l) h.2 h1
theorem XL_ {M : Int} (hM : M ≤ 4096) {l : List Rg} (h : Tidy M l) : sumR l = sumG l := by
 unfold sumR selR
 rw [YI_, List.append_nil]
 show 0 + pieces 0 l [] (z8_ l) = _
 rw [Int.zero_add, ← jK_ hM h]
 have hin : ∀ r ∈ l, r.start ∈ z8_ l ∧ r.start + r.len ∈ z8_ l := fun r hr => kj_ hr
 have hasc : Asc (z8_ l) := kk_ (o := []) (by unfold Asc; exact List.Pairwise.nil)
 have hmem : ∀ z ∈ z8_ l, 0 ≤ z ∧ z ≤ 4096 := fun z hz => by
  rcases qE_ hz with h1 | ⟨r, h1, h2⟩
  ·cases h1
  ·have := h.low r h1
   omega
 cases hq : z8_ l with
 | nil =>
  have hl : l = [] := by
   cases l with
   | nil => rfl
   | cons r l =>
    have := (hin r (by simp)).1;rw [hq] at this;cases this
  subst hl;rw [z9_ (b := false) (fun j _ => rfl)];rfl
 | cons x e =>
  rw [hq] at hasc hin hmem
  obtain ⟨n, h1, h2⟩ := q2_ hin e x hasc (fun z hz => by
   rcases List.mem_cons.1 hz with h | h
   ·exact .inl (by omega)
   ·exact .inr h)
  rw [h1];have hx0 := hmem x (by simp);have hlast := hmem _ (List.getLast_mem (l := x :: e) (List.cons_ne_nil _ _));rw [← h2] at hlast;have hpw := hasc;unfold Asc at hpw;rw [List.pairwise_cons] at hpw
  have c1 : cnt (hasR l) 0 x.toNat = 0 := by
   have := z9_ (f := hasR l) (x := 0) (n := x.toNat) (b := false) (fun j hj => by
    rw [Bool.eq_false_iff];intro hc;unfold hasR at hc;rw [List.any_eq_true] at hc;obtain ⟨r, hr, hc⟩ := hc;have h3 := (ye_.1 hc).2;rcases List.mem_cons.1 (hin r hr).1 with h4 | h4
    ·omega
    ·have := hpw.1 _ h4; omega)
   simpa using this
  have c3 : cnt (hasR l) (x + n) (4096 - x.toNat - n) = 0 := by
   have := z9_ (f := hasR l) (x := x + n) (n := 4096 - x.toNat - n) (b := false) (fun j hj => by
    rw [Bool.eq_false_iff];intro hc;unfold hasR at hc;rw [List.any_eq_true] at hc;obtain ⟨r, hr, hc⟩ := hc;have h3 := (ye_.1 hc).2;have h4 := Zq_ hasc (hin r hr).2;rw [← h2] at h4;omega)
   simpa using this
  have e1 : (4096 : Nat) = x.toNat + (n + (4096 - x.toNat - n)) := by omega
  rw [e1, cnt_add, cnt_add, c1, show (0 : Int) + ((x.toNat : Nat) : Int) = x by omega, c3];simp
theorem k1_ {k : Int} {a b : List Rg} (h : ∀ x, qL_ k (hasR a x) (hasR b x) = true) : ∀ (e : List Int) (o : List Rg), selO k a b o e = o
 | [], _ => rfl
 | [x], _ => rfl
 | x :: y :: e, o => by
  unfold selO;rw [if_pos (h x), k1_ h (y :: e)]
theorem ZF_ {M : Int} (hM : M ≤ 4096) {l : List Rg} (h : Tidy M l) : selR l [⟨0, M⟩] 1 = [] := by
 unfold selR
 refine k1_ (fun x => ?_) _ _
 unfold qL_
 cases hx : hasR l x with
 | false => simp
 | true =>
  unfold hasR at hx;rw [List.any_eq_true] at hx;obtain ⟨r, hr, hc⟩ := hx;have h3 := (ye_.1 hc).2;have h4 := h.low r hr
  have : hasR [⟨0, M⟩] x = true := by
   unfold hasR;rw [List.any_eq_true];exact ⟨⟨0, M⟩, by simp, ye_.2 ⟨by unfold oneR; simp; omega, by show 0 ≤ x; omega, by show x < 0 + M; omega⟩⟩
  rw [this];rfl
theorem qy_ : ∀ {l : List (ByteArray × Int)}, (z1_ l).2 = 0 → ∀ r ∈ l, r.2 = 0
 | [], _, r, h => by cases h
 | x :: l, hz, r, h => by
  unfold z1_ at hz;by_cases hx : x.2 = 0
  ·rw [if_pos hx] at hz
   rcases List.mem_cons.1 h with h | h
   ·rw [h]; exact hx
   ·exact qy_ hz r h
  ·rw [if_neg hx] at hz
   exact absurd hz hx
structure Valid (g : Gr) : Prop where
 r1 : R1 g
 r2 : (yl_ g).2 = 0
 r3 : (yr_ g).2 = 0
 r4 : (zs_ g).2 = 0
 r5 : (xP_ (refE g) g).2 = 0
 r6 : (j1_ g).2 = 0
 r7 : (zL_ g).2 = 0
 r8 : (Zx_ g).2 = 0
theorem Z8_ {g : Gr} (h : (Xv_ g).2 = 0) : Valid g := by
 have hh := qy_ h
 exact ⟨yq_ (hh (⟨#[]⟩, yY_ g) (by simp)), hh (yl_ g) (by simp), hh (yr_ g) (by simp), hh (zs_ g) (by simp), hh (xP_ (refE g) g) (by simp), hh (j1_ g) (by simp), hh (zL_ g) (by simp), hh (Zx_ g) (by simp)⟩
theorem Z2_ {f : Nat → Nat → Vo → Sg → Int} {g : Gr} (h : (qP_ f g).2 = 0) {k m : Nat} {v : Vo} {s : Sg} (hv : g.vols[k]? = some v) (hs : v.segs[m]? = some s) : f k m v s = 0 := zP_ (zP_ h hv) hs
theorem YY_ {g : Gr} (h : (zL_ g).2 = 0) {k m : Nat} {v : Vo} {s : Sg} (hv : g.vols[k]? = some v) (hs : v.segs[m]? = some s) : overA s (yV_ g k m) s.areas = false := by
 have h1 : (YZ_ g).2 = 0 := by
  unfold zL_ at h;by_cases hq : (YZ_ g).2 = 0
  ·exact hq
  ·rw [if_neg hq] at h; exact h
 have h2 := Z2_ h1 hv hs
 unfold X0_ at h2
 cases hq : overA s (yV_ g k m) s.areas with
 | false => rfl
 | true => rw [hq] at h2; cases h2
def qR_ (l : List Pl) : Prop := l.Pairwise (fun q p => ¬ (q.disk = p.disk ∧ max q.start p.start < min (q.start + q.len) (p.start + p.len)))
theorem ZN_ {l : List Pl} {p : Pl} (h : qR_ l) (hh : hitB l p = false) : qR_ (l ++ [p]) := by
 unfold qR_ at h ⊢
 rw [List.pairwise_append]
 refine ⟨h, List.pairwise_singleton _ _, fun q hq p' hp' => ?_⟩
 simp at hp'
 subst hp'
 unfold hitB at hh
 rw [List.any_eq_false] at hh
 have := hh q hq
 simpa using this
theorem xg_ {s : Sg} : ∀ (a : List Ar) (l : List Pl), qR_ l → overA s l a = false → qR_ (l ++ (a.filter (fun a => !a.vol)).map (plOf s))
 | [], l, h, _ => by simpa using h
 | a :: r, l, h, ho => by
  unfold overA at ho;by_cases hv : a.vol = true
  ·rw [if_pos hv] at ho
   have := xg_ r l h ho;simpa [hv] using this
  ·rw [if_neg hv, Bool.or_eq_false_iff] at ho
   have := xg_ r _ (ZN_ h ho.1) ho.2;simpa [hv, List.append_assoc] using this
theorem j8_ {g : Gr} (h : (zL_ g).2 = 0) {k : Nat} {v : Vo} (hv : g.vols[k]? = some v) (h0 : qR_ (yV_ g k 0)) : ∀ m, m ≤ v.segs.length → qR_ (yV_ g k m)
 | 0, _ => h0
 | m + 1, hm => by
  have hs : v.segs[m]? = some v.segs[m] := List.getElem?_eq_getElem (by omega);rw [q1_ hv hs];exact xg_ _ _ (j8_ h hv h0 m (by omega)) (YY_ h hv hs)
theorem j7_ {g : Gr} (h : (zL_ g).2 = 0) : ∀ k, k ≤ g.vols.length → qR_ (yV_ g k 0)
 | 0, _ => by rw [qZ_]; exact List.Pairwise.nil
 | k + 1, hk => by
  have hv : g.vols[k]? = some g.vols[k] := List.getElem?_eq_getElem (by omega);rw [← q0_ hv];exact j8_ h hv (j7_ h k (by omega)) _ (Nat.le_refl _)
theorem Y7_ {g : Gr} (h : (zL_ g).2 = 0) : qR_ (plsAll g) := by
 rw [← YT_]
 exact j7_ h _ (Nat.le_refl _)
def plQ (p : Pq) : Pl := ⟨p.disk, p.start, p.len⟩
theorem X4_ {extent : Int} {s : Sg} {x : Sh} (h : R4 extent s x) (hk : xW_ s.kind = false) : plsS s = [] := by
 have hv : ∀ a ∈ s.areas, a.vol = true := fun a ha => by
  have h1 := h.area;rw [List.all_eq_true] at h1;have h2 := h1 a ha;have h3 := h.areas;unfold yQ_ at h2;unfold xW_ at hk;simp at hk;rcases yc_ h.shape with ⟨e1, rfl⟩ | ⟨e1, rfl⟩ | ⟨e1, rfl⟩ | ⟨e1, rfl⟩ | ⟨e1, rfl⟩ | ⟨e1, rfl⟩ | ⟨e1, rfl⟩ | ⟨e1, rfl⟩ | ⟨e1, rfl⟩
  all_goals simp at h2 h3
  all_goals try omega
  all_goals try exact h2.1
  all_goals (rw [h3] at ha; cases ha)
 unfold plsS
 rw [List.filter_eq_nil_iff.2 (fun a ha => by rw [hv a ha]; simp)]
 rfl
theorem xN_ {α β : Type} {f g : α → List β} : ∀ {l : List α}, (∀ x ∈ l, f x = g x) → l.flatMap f = l.flatMap g
 | [], _ => rfl
 | x :: l, h => by rw [List.flatMap_cons, List.flatMap_cons, h x (by simp), xN_ (l := l) (fun y hy => h y (by simp [hy]))]
theorem ZK_ {g : Gr} (h4 : (zs_ g).2 = 0) : (z6_ g).map plQ = plsAll g := by
 unfold z6_ plsAll
 rw [List.map_flatMap]
 refine xN_ fun v hv => ?_
 unfold pqV plsV
 rw [List.map_flatMap]
 refine xN_ fun s hs => ?_
 obtain ⟨x, hx⟩ := zp_ h4 hv hs
 unfold pqS
 cases hk : xW_ s.kind with
 | true =>
  simp only [if_true];unfold pqK plsS;rw [List.take_length, List.map_map];rfl
 | false =>
  simp only [Bool.false_eq_true, if_false, List.map_nil];exact (X4_ hx hk).symm
def rgQ (p : Pq) : Rg := ⟨p.start, p.len⟩
def onD (n : ByteArray) (l : List Pq) : List Rg := (l.filter (fun p => decide (p.disk = n))).map rgQ
theorem x1_ {g : Gr} (h : Valid g) {d : Dk} (hd : d ∈ g.disks) : Tidy d.ext (onD d.name (z6_ g)) := by
 refine ⟨fun r hr => ?_, ?_⟩
 ·unfold onD at hr
  obtain ⟨p, hp, rfl⟩ := List.mem_map.1 hr;rw [List.mem_filter] at hp;have hpd : p.disk = d.name := by simpa using hp.2
  have hp1 := hp.1;unfold z6_ at hp1;obtain ⟨v, hv, hp1⟩ := List.mem_flatMap.1 hp1;unfold pqV at hp1;obtain ⟨s, hs, hp1⟩ := List.mem_flatMap.1 hp1;obtain ⟨x, hx⟩ := zp_ h.r4 hv hs;have hO := Xo_ hx (xp_ h.r5 hv hs);unfold pqS at hp1;cases hk : xW_ s.kind with
  | false => rw [hk] at hp1; cases hp1
  | true =>
   rw [hk] at hp1;simp only [if_true] at hp1;unfold pqK at hp1;rw [List.take_length] at hp1;obtain ⟨a, ha, rfl⟩ := List.mem_map.1 hp1;rw [List.mem_filter] at ha;obtain ⟨d', hd', e1, e2, e3, e4⟩ := hO.on a ha.1 (by simpa using ha.2);have e5 : d' = d := Zj_ h.r2 d' hd' d hd (by rw [e1]; exact hpd);subst e5;exact ⟨e2, e3, e4⟩
 ·have h1 := Y7_ h.r7
  unfold qR_ at h1;rw [← ZK_ h.r4, List.pairwise_map] at h1;unfold onD;rw [List.pairwise_map];refine (h1.filter _).imp_of_mem fun {a b} ha hb hab => ?_;rw [List.mem_filter] at ha hb;have ha2 : a.disk = d.name := by simpa using ha.2
  have hb2 : b.disk = d.name := by simpa using hb.2
  exact fun hc => hab ⟨by show a.disk = b.disk; rw [ha2, hb2], hc⟩
theorem kh_ {g : Gr} (h : Valid g) {d : Dk} (hd : d ∈ g.disks) : 0 ≤ d.ext ∧ d.ext ≤ 4096 := by
 obtain ⟨k, hk⟩ := List.getElem?_of_mem hd
 exact (yp_ h.r2 hk).ext
theorem Yx_ {g : Gr} (h : Valid g) {d : Dk} (hd : d ∈ g.disks) : sumR (onD d.name (z6_ g)) = sumG (onD d.name (z6_ g)) := XL_ (kh_ h hd).2 (x1_ h hd)
theorem Yy_ {g : Gr} (h : Valid g) {d : Dk} (hd : d ∈ g.disks) : selR (onD d.name (z6_ g)) [⟨0, d.ext⟩] 1 = [] := ZF_ (kh_ h hd).2 (x1_ h hd)
theorem Yz_ {g : Gr} (h : Valid g) {d : Dk} (hd : d ∈ g.disks) : (onD d.name (z6_ g)).length ≤ 4096 := XK_ (kh_ h hd).2 (x1_ h hd)
theorem Xn_ {g : Gr} (h : Valid g) : FitP g :=
 ⟨h.r1.vols, xI_ h.r3, fun v hv s hs => by
  obtain ⟨x, hx⟩ := zp_ h.r4 hv hs;exact xB_ hx, fun v hv s hs => by
  obtain ⟨x, hx⟩ := zp_ h.r4 hv hs;exact hx.len⟩
theorem Jj_ (n : ByteArray) (l : List Pq) : (onD n l).length ≤ l.length := by
 unfold onD
 rw [List.length_map]
 exact List.length_filter_le _ _
theorem onD_bd {g : Gr} (h : Valid g) {d : Dk} (hd : d ∈ g.disks) : ∀ r ∈ onD d.name (z6_ g), 0 ≤ r.start ∧ 1 ≤ r.len ∧ r.start + r.len ≤ 4096 := fun r hr => by
 have h1 := (x1_ h hd).low r hr
 have h2 := (kh_ h hd).2
 omega
theorem Jk_ {n : ByteArray} {l : List Pq} {k : Nat} {p : Pq} (hp : l[k]? = some p) (h : p.disk = n) : onD n (l.take (k + 1)) = onD n (l.take k) ++ [rgQ p] := by
 obtain ⟨h1, e1⟩ := List.getElem?_eq_some_iff.1 hp
 unfold onD
 rw [List.take_succ_eq_append_getElem h1, e1, List.filter_append]
 simp [h]
theorem X3_ {n : ByteArray} {l : List Pq} {k : Nat} {p : Pq} (hp : l[k]? = some p) (h : p.disk ≠ n) : onD n (l.take (k + 1)) = onD n (l.take k) := by
 obtain ⟨h1, e1⟩ := List.getElem?_eq_some_iff.1 hp
 unfold onD
 rw [List.take_succ_eq_append_getElem h1, e1, List.filter_append]
 simp [h]
end Go.Proofs.YtdkcfgahdcpkkaaDoor
