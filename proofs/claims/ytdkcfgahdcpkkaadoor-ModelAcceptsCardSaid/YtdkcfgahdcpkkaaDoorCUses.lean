/- What a volume uses: model.uses, the reference's Used (printed by genUses.py). -/
import Derived.Test.YtdkcfgahdcpkkaaDoorCUsed
import Derived.Test.YtdkcfgahdcpkkaaDoorCOwnS
import Derived.Test.YtdkcfgahdcpkkaaDoorCGr
import Derived.Test.YtdkcfgahdcpkkaaDoorCKind
import Derived.Deep.QuietTactic
import Derived.BigQuiet
set_option linter.all false
namespace Go.Proofs.YtdkcfgahdcpkkaaDoor
open Go.RowKit
set_option maxRecDepth 100000
theorem yn_ {w : World} {base n size : Nat} {T : TypeId} {v : Value} {xs : List Value} (h : w.ownsRow base T size v n xs) : ∃ A c, v = .slice A n c ∧ n ≤ c := by
 rcases h.2 with ⟨h, h0⟩ | ⟨g, cap, cur, h, _, _, hc, _⟩
 ·exact ⟨none, 0, by rw [h, h0], by omega⟩
 ·exact ⟨_, _, h, hc⟩
theorem kw_ {w : World} {base size n k : Nat} {e T : TypeId} {v : Value} {xs : List Value} {cs : Array Value} (h : w.ownsRow base e size v n xs) (hk : v.ownBlock = some k) (hb : Blk w k T cs) (hne : e ≠ T) : False := by
 rcases h.2 with ⟨rfl, _⟩ | ⟨g, cap, cur, rfl, _, hh, _⟩
 ·cases hk
 ·injection hk with hk
  have hk' : g = k := hk;subst hk';have := hh.symm.trans hb;injection this with this;injection this with _ e2 _;exact hne e2
theorem addT_zero (g n : Nat) : (⟨g, 0, none⟩ : Addr).add n = ⟨g, n, none⟩ := add_zero g n
def txV (l : List ByteArray) : List Value := l.map Value.string
theorem ql_ (l : List ByteArray) : (txV l).length = l.length := by simp [txV]
theorem kN_ (l : List ByteArray) (s : ByteArray) : txV (l ++ [s]) = txV l ++ [.string s] := by simp [txV]
theorem Zo_ (l m : List ByteArray) : txV (l ++ m) = txV l ++ txV m := by simp [txV]
theorem QH_ (l : List ByteArray) : ∀ u ∈ txV l, u.oneCell' = true := fun u hu => by
 unfold txV at hu
 obtain ⟨s, _, rfl⟩ := List.mem_map.1 hu
 rfl
structure TxS (w0 : World) (base : Nat) (v : Value) (l : List ByteArray) (w : World) : Prop where
 row : w.ownsRow base 9 1 v l.length (txV l)
 bel : Bel w0 w
 lo : w0.heap.size ≤ base ∧ base ≤ w.heap.size
section
variable {w0 w w' : World} {base : Nat} {v : Value} {l : List ByteArray}
theorem TxS.nil (hb : Bel w0 w) (h : w0.heap.size ≤ base ∧ base ≤ w.heap.size) : TxS w0 base (.slice none 0 0) [] w := ⟨World.ownsRow_nil _ _ _ _, hb, h⟩
theorem TxS.cast {m : List ByteArray} (h : TxS w0 base v l w) (e : l = m) : TxS w0 base v m w := e ▸ h
theorem TxS.form (h : TxS w0 base v l w) : ∃ A c, v = .slice A l.length c := by
 obtain ⟨A, c, e, _⟩ := yn_ h.row
 exact ⟨A, c, e⟩
theorem TxS.only {F : Nat → Prop} (h : TxS w0 base v l w) (ho : Only F w w') (h1 : ∀ k, v.ownBlock = some k → ¬ F k) (h2 : ∀ k, F k → w0.heap.size ≤ k) : TxS w0 base v l w' :=
 ⟨zb_ h.row ho h1, h.bel.trans (ho.below h.bel.size h2), h.lo.1, Nat.le_trans h.lo.2 ho.size⟩
theorem TxS.up (h : TxS w0 base v l w) (hb : Bel w w') : TxS w0 base v l w' := h.only (Only.of_below (fun _ => False) hb) (fun _ _ h => h) (fun _ h => h.elim)
theorem TxS.lt (h : TxS w0 base v l w) {k : Nat} (hk : v.ownBlock = some k) : base ≤ k ∧ k < w.heap.size := World.ownsRow.lt h.row k hk
theorem TxS.ne {k : Nat} {T : TypeId} {cs : Array Value} (h : TxS w0 base v l w) (hb : Blk w k T cs) (hne : 9 ≠ T) : v.ownBlock ≠ some k := fun e => kw_ h.row e hb hne
theorem Yn_ (h : w.ownsRow base 9 1 v l.length (txV l)) : TL w (fun k => v.ownBlock = some k) v l := by
 rcases id h.2 with ⟨rfl, h0⟩ | ⟨g, cap, cur, rfl, _, _, hc, _⟩
 ·have : l = [] := List.eq_nil_of_length_eq_zero h0
  subst this;exact LR.nil
 ·refine ⟨_, cap, rfl, hc, fun _ => ⟨_, rfl, rfl, (World.ownsRow.lt h g rfl).2, fun k x hx => ?_⟩⟩
  have hk := (List.getElem?_eq_some_iff.1 hx).1;unfold TextC;rw [Nat.mul_one, addT_zero, World.ownsRow.cellAt h k (by omega)];simp [txV, hx]
theorem TxS.tl (h : TxS w0 base v l w) {S : Nat → Prop} (hS : ∀ k, base ≤ k → S k) : TL w S v l := TL.keep (Yn_ h.row) Kept.same (fun k hk => hS k (h.lt hk).1)
theorem TxS.ret (h : TxS w0 base v l w) : jJ_ l w0 (.returned v) w := by
 obtain ⟨A, c, rfl⟩ := h.form
 exact ⟨A, c, rfl, h.tl (fun k hk => Nat.le_trans h.lo.1 hk), h.bel⟩
theorem TxS.pop {A : Option Addr} {c : Nat} {x : ByteArray} (h : TxS w0 base (.slice A (l ++ [x]).length c) (l ++ [x]) w) : TxS w0 base (.slice A l.length c) l w := by
 refine ⟨?_, h.bel, h.lo⟩
 obtain ⟨h1, h2⟩ := h.row
 refine ⟨by rw [ql_]; omega, ?_⟩
 rcases h2 with ⟨_, h3⟩ | ⟨g, cap, cur, hv, hg, hh, hcap, hm, hsz, htake⟩
 ·simp at h3
 ·injection hv with e1 e2 e3
  subst e1 e3;refine .inr ⟨g, c, cur, rfl, hg, hh, by simp at hcap; omega, hm, hsz, ?_⟩;rw [kN_] at htake;have h4 : cur.toList.take (l.length * 1) = (cur.toList.take ((l ++ [x]).length * 1)).take (l.length * 1) := by rw [List.take_take, Nat.min_eq_left (by simp)]
  rw [h4, htake, List.take_append_of_le_length (by rw [ql_]; omega), List.take_of_length_le (by rw [ql_]; omega)]
end
section
variable {w0 w : World} {base : Nat} {v : Value} {l : List ByteArray} {ops : Array Oper} {rest : List Oper} {o : Oper} {a : Act} {Q : Exit → Act → World → Prop}
theorem ye_ {g : Nat} {s : ByteArray} (hgd : o.guard = none) (x y : Operand) (ho : o.op = .call { callee := .builtin .append, args := #[x, y], argTypes := #[26, 26] }) (h : TxS w0 base v l w) (hb : Blk w g 9 #[.string s]) (hl : l.length ≤ 4000000)
  (hx : a.eval x = v) (hy : a.eval y = .slice (some ⟨g, 0, none⟩) 1 1) (hK : ∀ A n c w', n = l.length + 1 → TxS w0 base (.slice A n c) (l ++ [s]) w' → Only (fun k => v.ownBlock = some k) w w' → wpList Tryd.prog ops Q rest (a.put o.dst (.slice A n c)) w') : wpList Tryd.prog ops Q (o :: rest) a w := by
 obtain ⟨i0, hi0, hz0, hz1, hz2⟩ := info_parts qA_
 refine zd_ w hgd x y 26 ho base 9 i0 _ 1 16 Tryd.underlying26 hi0 hz0 hz1 hz2 rfl (by decide) v l.length (txV l) hx h.row w.heap.size (some ⟨g, 0, none⟩) 1 1 [.string s] hy ?_ (by intro u hu; simp at hu; subst hu; rfl) (by unfold maxLen; omega) (by omega) h.lo.2 ?_
 ·refine ⟨rfl, fun _ => ⟨_, rfl, hb.lt, fun j u hu => ?_⟩⟩
  rw [addT_zero, hb.cell];simpa using hu
 ·intro v' w' h1 h2 h3
  obtain ⟨A, c, rfl, _⟩ := yn_ h1;have hon : Only (fun k => v.ownBlock = some k) w w' := (Only.refl _ w).grown h2 (fun k e => .inl e);exact hK A _ c w' rfl ⟨by rw [List.length_append, kN_]; exact h1, h.bel.trans (hon.below h.bel.size (fun k e => Nat.le_trans h.lo.1 (h.lt e).1)), h.lo.1, Nat.le_trans h.lo.2 hon.size⟩ hon
theorem Zl_ {S : Nat → Prop} {A2 : Option Addr} {c2 : Nat} {m : List ByteArray} (hgd : o.guard = none) (x y : Operand) (ho : o.op = .call { callee := .builtin .append, args := #[x, y], argTypes := #[26, 26] }) (h : TxS w0 base v l w) (hm : TL w S (.slice A2 m.length c2) m) (hl : l.length ≤ 4000000) (hl2 : m.length ≤ 4000000)
  (hx : a.eval x = v) (hy : a.eval y = .slice A2 m.length c2) (hK : ∀ A n c w', n = l.length + m.length → TxS w0 base (.slice A n c) (l ++ m) w' → Only (fun k => v.ownBlock = some k) w w' → wpList Tryd.prog ops Q rest (a.put o.dst (.slice A n c)) w') : wpList Tryd.prog ops Q (o :: rest) a w := by
 obtain ⟨i0, hi0, hz0, hz1, hz2⟩ := info_parts qA_
 refine zd_ w hgd x y 26 ho base 9 i0 _ 1 16 Tryd.underlying26 hi0 hz0 hz1 hz2 rfl (by decide) v l.length (txV l) hx h.row w.heap.size A2 m.length c2 (txV m) hy ?_ (QH_ m) (by unfold maxLen; omega) (by omega) h.lo.2 ?_
 ·refine ⟨by rw [ql_]; omega, fun h0 => ?_⟩
  obtain ⟨ad, x, e, _, _, hlt, _⟩ := hm.cell h0;subst e;refine ⟨ad, rfl, hlt, fun j u hu => ?_⟩;have hj : j < m.length := by have := (List.getElem?_eq_some_iff.1 hu).1; rwa [ql_] at this
  obtain ⟨ad', x', e', hx', _, _, hc⟩ := hm.cell hj;injection e' with e';subst e';unfold txV at hu;rw [List.getElem?_map, hx'] at hu;simp at hu;rw [hc, hu]
 ·intro v' w' h1 h2 h3
  obtain ⟨A, c, rfl, _⟩ := yn_ h1;have hon : Only (fun k => v.ownBlock = some k) w w' := (Only.refl _ w).grown h2 (fun k e => .inl e);exact hK A _ c w' rfl ⟨by rw [List.length_append, Zo_]; exact h1, h.bel.trans (hon.below h.bel.size (fun k e => Nat.le_trans h.lo.1 (h.lt e).1)), h.lo.1, Nat.le_trans h.lo.2 hon.size⟩ hon
end
instance memDec (x : ByteArray) (l : List ByteArray) : Decidable (x ∈ l) := decidable_of_iff (l.any (fun y => decide (y = x)) = true) (by simp)
def usesS (s : Sg) : List ByteArray := ((s.areas.filter fun a => a.vol).map fun a => a.on) ++ ((if s.log = ⟨#[]⟩ then [] else [s.log]) ++ (if s.pool = ⟨#[]⟩ then [] else [s.pool]))
def zE_ (l : List Sg) : List ByteArray := (l.map usesS).flatten
def zY_ (v : Vo) : List ByteArray := zE_ v.segs
def zo_ (vs : List Vo) (n : ByteArray) : Option (List ByteArray) := (vs.find? fun v => decide (v.name = n)).map zY_
theorem ZL_ {vs : List Vo} {n : ByteArray} : zo_ vs n = none ↔ ∀ v ∈ vs, v.name ≠ n := by
 simp [zo_]
theorem yp_ {vs : List Vo} {n : ByteArray} {l : List ByteArray} (h : zo_ vs n = some l) : ∃ v ∈ vs, v.name = n ∧ l = zY_ v := by
 simp only [zo_, Option.map_eq_some_iff] at h
 obtain ⟨v, hv, rfl⟩ := h
 exact ⟨v, List.mem_of_find?_eq_some hv, by simpa using List.find?_some hv, rfl⟩
theorem q3_ (vs : List Vo) (v : Vo) (n : ByteArray) : zo_ (vs ++ [v]) n = match zo_ vs n with | some l => some l | none => if v.name = n then some (zY_ v) else none := by
 unfold zo_
 rw [List.find?_append]
 cases h : vs.find? fun v => decide (v.name = n) with
 | some x => rfl
 | none =>
  by_cases e : v.name = n
  ·simp [e]
  ·simp [e]
inductive Rch (L : ByteArray → Option (List ByteArray)) (a : ByteArray) : ByteArray → Prop
 | one {l x} : L a = some l → x ∈ l → L x ≠ none → Rch L a x
 | more {y l x} : Rch L a y → L y = some l → x ∈ l → L x ≠ none → Rch L a x
theorem Rch.key {L : ByteArray → Option (List ByteArray)} {a x : ByteArray} (h : Rch L a x) : L x ≠ none := by
 cases h <;> assumption
structure DfsI (L : ByteArray → Option (List ByteArray)) (a : ByteArray) (met todo : List ByteArray) : Prop where
 sound : ∀ x ∈ met, Rch L a x
 wait : ∀ x ∈ todo, L x ≠ none → Rch L a x
 first : ∀ l, L a = some l → ∀ x ∈ l, L x ≠ none → x ∈ met ∨ x ∈ todo
 shut : ∀ y ∈ met, ∀ l, L y = some l → ∀ x ∈ l, L x ≠ none → x ∈ met ∨ x ∈ todo
theorem DfsI.start (L : ByteArray → Option (List ByteArray)) (a : ByteArray) : DfsI L a [] ((L a).getD []) :=
 ⟨fun x h => (by cases h), fun x h hx => (by
  cases e : L a with
  | none => rw [e] at h; cases h
  | some l => rw [e] at h; exact .one e h hx), fun l e x hx _ => .inr (by rw [e]; exact hx), fun y h => by cases h⟩
theorem DfsI.skip {L : ByteArray → Option (List ByteArray)} {a x : ByteArray} {met todo : List ByteArray} (h : DfsI L a met (todo ++ [x])) (hx : L x = none ∨ x ∈ met) : DfsI L a met todo := by
 have hp : ∀ z, L z ≠ none → z ∈ met ∨ z ∈ todo ++ [x] → z ∈ met ∨ z ∈ todo := fun z hz hm => by
  rcases hm with hm | hm
  ·exact .inl hm
  ·rcases List.mem_append.1 hm with hm | hm
   ·exact .inr hm
   ·simp at hm; subst hm
    exact hx.elim (fun e => absurd e hz) .inl
 exact ⟨h.sound, fun z hz => h.wait z (by simp [hz]), fun l e z hz hk => hp z hk (h.first l e z hz hk), fun y hy l e z hz hk => hp z hk (h.shut y hy l e z hz hk)⟩
theorem DfsI.take {L : ByteArray → Option (List ByteArray)} {a x : ByteArray} {met todo l : List ByteArray} (h : DfsI L a met (todo ++ [x])) (hx : L x = some l) : DfsI L a (met ++ [x]) (todo ++ l) := by
 have hr : Rch L a x := h.wait x (by simp) (by rw [hx]; simp)
 have hp : ∀ z, z ∈ met ∨ z ∈ todo ++ [x] → z ∈ met ++ [x] ∨ z ∈ todo ++ l := fun z hm => by
  rcases hm with hm | hm
  ·exact .inl (by simp [hm])
  ·rcases List.mem_append.1 hm with hm | hm
   ·exact .inr (by simp [hm])
   ·simp at hm; subst hm
    exact .inl (by simp)
 refine ⟨fun z hz => ?_, fun z hz hk => ?_, fun l' e z hz hk => hp z (h.first l' e z hz hk), fun y hy l' e z hz hk => ?_⟩
 ·rcases List.mem_append.1 hz with hz | hz
  ·exact h.sound z hz
  ·simp at hz; subst hz; exact hr
 ·rcases List.mem_append.1 hz with hz | hz
  ·exact h.wait z (by simp [hz]) hk
  ·exact .more hr hx hz hk
 ·rcases List.mem_append.1 hy with hy | hy
  ·exact hp z (h.shut y hy l' e z hz hk)
  ·simp at hy; subst hy
   rw [hx] at e; injection e with e; subst e;exact .inr (by simp [hz])
theorem DfsI.done {L : ByteArray → Option (List ByteArray)} {a : ByteArray} {met : List ByteArray} (h : DfsI L a met []) : ∀ x, x ∈ met ↔ Rch L a x := fun x =>
 ⟨h.sound x, fun hr => by
  induction hr with
  | one e hx hk => exact (h.first _ e _ hx hk).elim id (fun h => by cases h)
  | more _ e hx hk ih => exact (h.shut _ ih _ e _ hx hk).elim id (fun h => by cases h)⟩
def yx_ : List Vo → List ByteArray → Nat
 | [], _ => 0
 | v :: vs, met => (if v.name ∈ met then 0 else (zY_ v).length) + yx_ vs met
theorem kT_ (x : ByteArray) (met : List ByteArray) : ∀ vs : List Vo, yx_ vs (met ++ [x]) ≤ yx_ vs met
 | [] => Nat.le_refl _
 | v :: vs => by
  have ih := kT_ x met vs;unfold yx_;by_cases h1 : v.name ∈ met
  ·rw [if_pos (by simp [h1]), if_pos h1]; omega
  ·rw [if_neg h1]
   by_cases h2 : v.name ∈ met ++ [x]
   ·rw [if_pos h2]; omega
   ·rw [if_neg h2]; omega
theorem xO_ {x : ByteArray} {met l : List ByteArray} (hm : x ∉ met) : ∀ vs : List Vo, zo_ vs x = some l → yx_ vs (met ++ [x]) + l.length ≤ yx_ vs met
 | [], h => by simp [zo_] at h
 | v :: vs, h => by
  by_cases e : v.name = x
  ·have hl : l = zY_ v := by
    unfold zo_ at h;rw [List.find?_cons_of_pos (by simp [e])] at h;simp at h; exact h.symm
   subst hl;have := kT_ x met vs;unfold yx_;rw [if_pos (by simp [e]), if_neg (by rw [e]; exact hm)];omega
  ·have hl : zo_ vs x = some l := by
    unfold zo_ at h ⊢;rw [List.find?_cons_of_neg (by simp [e])] at h;exact h
   have ih := xO_ hm vs hl;unfold yx_;by_cases h1 : v.name ∈ met
   ·rw [if_pos (by simp [h1]), if_pos h1]; omega
   ·rw [if_neg h1, if_neg (by simp [h1, e])]; omega
theorem xy_ {x : ByteArray} {l : List ByteArray} {vs : List Vo} (h : zo_ vs x = some l) : l.length ≤ yx_ vs [] := by
 have := xO_ (x := x) (met := []) (l := l) (by simp) vs h
 omega
def zG_ (f : ByteArray → Bool) (vs : List Vo) : List ByteArray := vs.foldl (fun out v => if f v.name = true ∧ v.name ∉ out then out ++ [v.name] else out) []
theorem pickL_snoc (f : ByteArray → Bool) (vs : List Vo) (v : Vo) : zG_ f (vs ++ [v]) = if f v.name = true ∧ v.name ∉ zG_ f vs then zG_ f vs ++ [v.name] else zG_ f vs := by
 unfold zG_
 rw [List.foldl_append]
 rfl
theorem xi_ {α : Type} {P : List α → Prop} (h0 : P []) (h1 : ∀ l x, P l → P (l ++ [x])) : ∀ l, P l := fun l => by
 have : P l.reverse.reverse := by
  induction l.reverse with
  | nil => exact h0
  | cons x r ih => rw [List.reverse_cons]; exact h1 _ _ ih
 rwa [List.reverse_reverse] at this
theorem j1_ (f : ByteArray → Bool) (x : ByteArray) (vs : List Vo) : x ∈ zG_ f vs ↔ f x = true ∧ ∃ v ∈ vs, v.name = x := by
 induction vs using xi_ with
 | h0 => simp [zG_]
 | h1 l v ih =>
  rw [pickL_snoc];by_cases hc : f v.name = true ∧ v.name ∉ zG_ f l
  ·rw [if_pos hc, List.mem_append, ih]
   constructor
   ·rintro (⟨h1, u, hu, e⟩ | h)
    ·exact ⟨h1, u, by simp [hu], e⟩
    ·simp at h; subst h; exact ⟨hc.1, v, by simp, rfl⟩
   ·rintro ⟨h1, u, hu, e⟩
    rcases List.mem_append.1 hu with hu | hu
    ·exact .inl ⟨h1, u, hu, e⟩
    ·simp at hu; subst hu; subst e; exact .inr (by simp)
  ·rw [if_neg hc, ih]
   constructor
   ·rintro ⟨h1, u, hu, e⟩
    exact ⟨h1, u, by simp [hu], e⟩
   ·rintro ⟨h1, u, hu, e⟩
    rcases List.mem_append.1 hu with hu | hu
    ·exact ⟨h1, u, hu, e⟩
    ·simp at hu; subst hu; subst e
     have : u.name ∈ zG_ f l := by
      by_cases hm : u.name ∈ zG_ f l
      ·exact hm
      ·exact absurd ⟨h1, hm⟩ hc
     exact ih.1 this
theorem xu_ (f : ByteArray → Bool) (vs : List Vo) : (zG_ f vs).length ≤ vs.length := by
 induction vs using xi_ with
 | h0 => simp [zG_]
 | h1 l v ih =>
  rw [pickL_snoc];split
  ·simp; omega
  ·simp; omega
theorem kv_ {f g : ByteArray → Bool} {vs : List Vo} (h : ∀ v ∈ vs, f v.name = g v.name) : zG_ f vs = zG_ g vs := by
 induction vs using xi_ with
 | h0 => rfl
 | h1 l v ih =>
  rw [pickL_snoc, pickL_snoc, ih (fun u hu => h u (by simp [hu])), h v (by simp)]
theorem Zm_ {l : List Sg} {k : Nat} {s : Sg} (h : l[k]? = some s) : zE_ (l.take (k + 1)) = zE_ (l.take k) ++ usesS s := by
 obtain ⟨h1, e1⟩ := List.getElem?_eq_some_iff.1 h
 rw [List.take_succ_eq_append_getElem h1, e1]
 simp [zE_]
theorem Yd_ (l : List Sg) (k : Nat) : (zE_ (l.take k)).length ≤ (zE_ l).length := by
 have : zE_ l = zE_ (l.take k) ++ zE_ (l.drop k) := by
  conv => lhs; rw [← List.take_append_drop k l]
  simp only [zE_, List.map_append, List.flatten_append]
 rw [this, List.length_append]; omega
theorem je_ (s : Sg) : usesS s = zQ_ s.areas ++ (if s.log = ⟨#[]⟩ then [] else [s.log]) ++ (if s.pool = ⟨#[]⟩ then [] else [s.pool]) := by
 unfold usesS zQ_
 rw [List.append_assoc]
structure UsB (v : Vo) : Prop where
 segs : v.segs.length ≤ 1000000
 areas : ∀ s ∈ v.segs, s.areas.length ≤ 1000000
 uses : (zY_ v).length ≤ 1000000
theorem six_u {W : World} {g : Nat} {T : TypeId} {v0 v1 v2 v3 v4 v5 : Value} (h : Blk W g T #[v0, v1, v2, v3, v4, v5]) : W.cell? ⟨g, 5, none⟩ = some v5 := by rw [h.cell 5]; rfl
set_option maxHeartbeats 16000000 in
theorem XE_ {w : World} {S : Nat → Prop} {v : Vo} {A0 A1 : Option Addr} {d0 d1 : Nat} (hs : SL w S (.slice A1 v.segs.length d1) v.segs) (hu : UsB v) :
  Calls Tryd.prog 99 #[.agg (voA v (.slice A0 v.tags.length d0) (.slice A1 v.segs.length d1))] w (jJ_ (zY_ v) w) := by
 have HS := hD hs
 have HU := hD hu
 have hl := hu.segs
 have hbx := Blk.new w 53 (voX v A0 d0 A1 d1)
 have HC5 := hD (show ∀ w', Bel (w.alloc (.cells (voX v A0 d0 A1 d1) 53)) w' → w'.cell? ⟨w.heap.size, 5, none⟩ = some (.slice A1 v.segs.length d1) from fun w' hb => six_u (hbx.below hb hbx.lt))
 have HW := hD (show ∀ w', Bel (w.alloc (.cells (voX v A0 d0 A1 d1) 53)) w' → Bel w w' from fun w' hb => ((Below.refl _ _).al _).next hb)
 have HSW := hD (show w.heap.size + 1 ≤ (w.alloc (.cells (voX v A0 d0 A1 d1) 53)).heap.size from by simp)
 have HZ := hD (show TxS (w.alloc (.cells (voX v A0 d0 A1 d1) 53)) (w.heap.size + 1) (.slice none 0 0) [] (w.alloc (.cells (voX v A0 d0 A1 d1) 53)) from TxS.nil (Below.refl _ _) ⟨by simp, by simp⟩)
 clear hs hu hbx
 unfold voA
 go_enter Tryd.func99, Tryd.ntmps99
 go_wp2_with fail
 generalize (w.alloc (.cells (voX v A0 d0 A1 d1) 53)) = wb at HC5 HW HZ HSW ⊢
 go_loopw [3, 11] (fun v' i wx => ∃ k : Nat, k ≤ v.segs.length ∧ i = .int .i64 (k : Int) ∧ TxS wb (w.heap.size + 1) v' (zE_ (v.segs.take k)) wx) (fun _ i _ => v.segs.length - (intOf i).toNat)
 case atStart => exact ⟨0, Nat.zero_le _, rfl, HZ.out⟩
 case round =>
  obtain ⟨k, hk, rfl, hp⟩ := hrel;obtain ⟨vo, hvo⟩ : ∃ vo, vo = u3 := ⟨_, rfl⟩;subst hvo;have HP := hD hp;have c5 := HC5.out _ hp.bel;clear hp;by_cases hlt : k < v.segs.length
  ·have z0 : (k : Int) < (v.segs.length : Int) := by omega
   have z1 : (0 : Int) ≤ (k : Int) := by omega
   obtain ⟨ad, s, rfl, hx, _, had, v0, v1, hsc, har, hst⟩ := HS.out.at_ hlt;obtain ⟨AA, cA, rfl⟩ := har.form;obtain ⟨AZ, cZ, rfl⟩ := hst.form;have had2 : (ad.add (k * 11)).block < w.heap.size := by rw [zl_]; exact had
   obtain ⟨f0, f1, f2, f3, f4, f5, f6, f7, f8, f9, f10⟩ := hsc.keep (Kept.of_below (S := fun _ => True) (HW.out _ HP.out.bel)) trivial had2;have HAR := hD har;have HTK := hD (Zm_ hx);have HAL := hD (HU.out.areas s (List.mem_of_getElem? hx));have HUL := hD (Nat.le_trans (Yd_ v.segs k) HU.out.uses);have HSB := hD (Blk.new wr 58 (sgX s AA cA AZ cZ));have HP2 := hD (HP.out.up ((Below.refl _ _).al (.cells (sgX s AA cA AZ cZ) 58)));have hal := HAL.out;have hul := HUL.out;clear hx hsc har hst;go_wp2_with fail
   clear f0 f1 f2 f3 f4 f5 f6 f7 f8 f9 f10 c5;obtain ⟨wo, rfl⟩ : ∃ wo, wo = wr := ⟨_, rfl⟩;go_loopw [3, 18] (fun v' i wx => ∃ j : Nat, j ≤ s.areas.length ∧ i = .int .i64 (j : Int) ∧ TxS wb (w.heap.size + 1) v' (zE_ (v.segs.take k) ++ zQ_ (s.areas.take j)) wx ∧ Blk wx wo.heap.size 58 (sgX s AA cA AZ cZ)) (fun _ i _ => s.areas.length - (intOf i).toNat)
   case atStart => exact ⟨0, Nat.zero_le _, rfl, by simpa [zQ_] using HP2.out, HSB.out⟩
   case round =>
    obtain ⟨j, hj, rfl, hp, hsb⟩ := hrel;obtain ⟨vi, hvi⟩ : ∃ vi, vi = u3 := ⟨_, rfl⟩;subst hvi;have HP3 := hD hp;have HSB3 := hD hsb;clear hp hsb;obtain ⟨e0, e1, e2, e3, e4, e5, e6, e7, e8, e9, e10⟩ := elev HSB3.out;by_cases hjt : j < s.areas.length
    ·have y0 : (j : Int) < (s.areas.length : Int) := by omega
     have y1 : (0 : Int) ≤ (j : Int) := by omega
     obtain ⟨ap, a, rfl, hax, _, hap, hac⟩ := HAR.out.at_ hjt;have hap2 : (ap.add (j * 3)).block < w.heap.size := by rw [zl_]; exact hap
     obtain ⟨a0, a1, a2⟩ := hac.keep (Kept.of_below (S := fun _ => True) (HW.out _ HP3.out.bel)) trivial hap2;have HTA := hD (qU_ hax);have hua := yC_ (s.areas.take j);have htl : (s.areas.take j).length = j := by rw [List.length_take]; omega
     obtain ⟨b, hxb⟩ : ∃ b, a.vol = b := ⟨_, rfl⟩;rw [hxb] at a0 HTA;clear hax hac hxb;cases b with
     | false =>
      have HP4 := hD (HP3.out.up ((Below.refl _ _).al (.cells #[.bool false, .string a.on, .int .i64 a.start] 60)));have HSB4 := hD (HSB3.out.alloc (.cells #[.bool false, .string a.on, .int .i64 a.start] 60));have HE := hD (show zE_ (v.segs.take k) ++ zQ_ (s.areas.take j) = zE_ (v.segs.take k) ++ zQ_ (s.areas.take (j + 1)) by rw [HTA.out]; simp);go_wp2_with fail
      go_roundw
      case rel => exact ⟨j + 1, by omega, by go_num, HP4.out.cast HE.out, HSB4.out⟩
      case measure => simp [intOf]; omega
     | true =>
      have HP4a := hD (HP3.out.up ((Below.refl _ _).al (.cells #[.bool true, .string a.on, .int .i64 a.start] 60)));have HSB4a := hD (HSB3.out.alloc (.cells #[.bool true, .string a.on, .int .i64 a.start] 60));have HE := hD (show zE_ (v.segs.take k) ++ zQ_ (s.areas.take j) ++ [a.on] = zE_ (v.segs.take k) ++ zQ_ (s.areas.take (j + 1)) by rw [HTA.out]; simp);have HSB4b := hD (HSB4a.out.alloc (.cells #[.string a.on] 9));have hgb := Blk.new (wr.alloc (.cells #[.bool true, .string a.on, .int .i64 a.start] 60)) 9 #[.string a.on];rw [show (wr.alloc (.cells #[.bool true, .string a.on, .int .i64 a.start] 60)).heap.size = wr.heap.size + 1 by simp] at hgb;have HGB := hD hgb;have HP4b := hD (HP4a.out.up ((Below.refl _ _).al (.cells #[.string a.on] 9)));clear hgb;go_wp2_with (at_builtin; refine ye_ rfl (.tmp 24) (.tmp 27) rfl HP4b.out HGB.out (by simp only [List.length_append]; omega) rfl rfl ?_; intro A8 n8 c8 w8 hn8 hp8 ho8; have HP4 := hD hp8; have HSB4 := hD (HSB4b.out.only ho8 (fun e => HP4b.out.ne HSB4b.out (by decide) e)); clear hn8 hp8 ho8; skip)
      go_roundw
      case rel => exact ⟨j + 1, by omega, by go_num, HP4.out.cast HE.out, HSB4.out⟩
      case measure => simp [intOf]; omega
    ·obtain rfl : j = s.areas.length := by omega
     rw [List.take_length] at HP3;have HUA := hD (yC_ s.areas);have hua := HUA.out;have HUS := hD (je_ s);by_cases hlog : s.log = ⟨#[]⟩
     ·have q1 : s.log.toList.isEmpty = true := by rw [hlog]; kernel_rfl
      by_cases hpool : s.pool = ⟨#[]⟩
      ·have q2 : s.pool.toList.isEmpty = true := by rw [hpool]; kernel_rfl
       have HE := hD (show zE_ (v.segs.take k) ++ zQ_ s.areas = zE_ (v.segs.take (k + 1)) by rw [HTK.out, HUS.out, if_pos hlog, if_pos hpool]; simp);clear hlog hpool;go_wp2_with fail
       go_roundw
       case rel => exact ⟨k + 1, by omega, by go_num, HP3.out.cast HE.out⟩
       case measure => simp [intOf]; omega
      ·have q2 : s.pool.toList.isEmpty = false := Bool.eq_false_iff.2 (fun h => hpool (zH_ h))
       have HE := hD (show zE_ (v.segs.take k) ++ zQ_ s.areas ++ [s.pool] = zE_ (v.segs.take (k + 1)) by rw [HTK.out, HUS.out, if_pos hlog, if_neg hpool]; simp);clear hlog hpool;go_wp2_with (at_builtin; have HPqpool := hD (HP3.out.up ((Below.refl _ _).al (.cells #[.string s.pool] 9))); have HBqpool := hD (HSB3.out.alloc (.cells #[.string s.pool] 9)); refine ye_ rfl (.tmp 41) (.tmp 44) rfl HPqpool.out (Blk.new wr 9 #[.string s.pool]) (by (try simp only [List.length_append, List.length_cons, List.length_nil]); omega) rfl rfl ?_; intro Aw4 nw4 cw4 w4 hn8 hp8 ho8; have HP4 := hD hp8; have HSBX := hD (HBqpool.out.only ho8 (fun e => HPqpool.out.ne HBqpool.out (by decide) e)); obtain ⟨e0, e1, e2, e3, e4, e5, e6, e7, e8, e9, e10⟩ := elev HSBX.out; clear hn8 hp8 ho8; skip)
       go_roundw
       case rel => exact ⟨k + 1, by omega, by go_num, HP4.out.cast HE.out⟩
       case measure => simp [intOf]; omega
     ·have q1 : s.log.toList.isEmpty = false := Bool.eq_false_iff.2 (fun h => hlog (zH_ h))
      by_cases hpool : s.pool = ⟨#[]⟩
      ·have q2 : s.pool.toList.isEmpty = true := by rw [hpool]; kernel_rfl
       have HE := hD (show zE_ (v.segs.take k) ++ zQ_ s.areas ++ [s.log] = zE_ (v.segs.take (k + 1)) by rw [HTK.out, HUS.out, if_neg hlog, if_pos hpool]; simp);clear hlog hpool;go_wp2_with (at_builtin; have HPqlog := hD (HP3.out.up ((Below.refl _ _).al (.cells #[.string s.log] 9))); have HBqlog := hD (HSB3.out.alloc (.cells #[.string s.log] 9)); refine ye_ rfl (.tmp 33) (.tmp 36) rfl HPqlog.out (Blk.new wr 9 #[.string s.log]) (by (try simp only [List.length_append, List.length_cons, List.length_nil]); omega) rfl rfl ?_; intro Aw4 nw4 cw4 w4 hn8 hp8 ho8; have HP4 := hD hp8; have HSBX := hD (HBqlog.out.only ho8 (fun e => HPqlog.out.ne HBqlog.out (by decide) e)); obtain ⟨e0, e1, e2, e3, e4, e5, e6, e7, e8, e9, e10⟩ := elev HSBX.out; clear hn8 hp8 ho8; skip)
       go_roundw
       case rel => exact ⟨k + 1, by omega, by go_num, HP4.out.cast HE.out⟩
       case measure => simp [intOf]; omega
      ·have q2 : s.pool.toList.isEmpty = false := Bool.eq_false_iff.2 (fun h => hpool (zH_ h))
       have HE := hD (show zE_ (v.segs.take k) ++ zQ_ s.areas ++ [s.log] ++ [s.pool] = zE_ (v.segs.take (k + 1)) by rw [HTK.out, HUS.out, if_neg hlog, if_neg hpool]; simp);clear hlog hpool;go_wp2_with (first | (at_builtin; have HPqlog := hD (HP3.out.up ((Below.refl _ _).al (.cells #[.string s.log] 9))); have HBqlog := hD (HSB3.out.alloc (.cells #[.string s.log] 9)); refine ye_ rfl (.tmp 33) (.tmp 36) rfl HPqlog.out (Blk.new wr 9 #[.string s.log]) (by (try simp only [List.length_append, List.length_cons, List.length_nil]); omega) rfl rfl ?_; intro Aw4 nw4 cw4 w4 hn8 hp8 ho8; have HP4 := hD hp8; have HSBX := hD (HBqlog.out.only ho8 (fun e => HPqlog.out.ne HBqlog.out (by decide) e)); obtain ⟨e0, e1, e2, e3, e4, e5, e6, e7, e8, e9, e10⟩ := elev HSBX.out; clear hn8 hp8 ho8; skip) | (at_builtin; have HPqpool := hD (HP4.out.up ((Below.refl _ _).al (.cells #[.string s.pool] 9))); have HBqpool := hD (HSBX.out.alloc (.cells #[.string s.pool] 9)); refine ye_ rfl (.tmp 41) (.tmp 44) rfl HPqpool.out (Blk.new w4 9 #[.string s.pool]) (by (try simp only [List.length_append, List.length_cons, List.length_nil]); omega) rfl rfl ?_; intro Aw5 nw5 cw5 w5 hn8 hp8 ho8; have HP5 := hD hp8; have HSBY := hD (HBqpool.out.only ho8 (fun e => HPqpool.out.ne HBqpool.out (by decide) e)); obtain ⟨e0, e1, e2, e3, e4, e5, e6, e7, e8, e9, e10⟩ := elev HSBY.out; clear hn8 hp8 ho8; skip))
       go_roundw
       case rel => exact ⟨k + 1, by omega, by go_num, HP5.out.cast HE.out⟩
       case measure => simp [intOf]; omega
  ·obtain rfl : k = v.segs.length := by omega
   have HE := hD (show zE_ (v.segs.take v.segs.length) = zY_ v by rw [List.take_length]; rfl);go_wp2_with fail
   go_ret
   have hr := (HE.out ▸ HP.out : TxS wb (w.heap.size + 1) vo (zY_ v) wr).ret;obtain ⟨A, c, e, h1, h2⟩ := hr;exact ⟨A, c, e, TL.keep h1 Kept.same (fun g hg => by have := HSW.out; omega), HW.out _ h2⟩
end Go.Proofs.YtdkcfgahdcpkkaaDoor
