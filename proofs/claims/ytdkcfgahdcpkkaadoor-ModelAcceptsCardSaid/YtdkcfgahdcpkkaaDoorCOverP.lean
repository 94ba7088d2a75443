/- Rule 7, its plain laws; rows of bools. -/
import Derived.Test.YtdkcfgahdcpkkaaDoorCSrc
import Derived.Maps.Own
import Derived.Maps.OwnOps
import Derived.Maps.OwnSet
import Derived.Maps.Views
import Derived.Test.YtdkcfgahdcpkkaaDoorCChk8P
set_option linter.all false
namespace Go.Proofs.YtdkcfgahdcpkkaaDoor
open Go.RowKit Go.Maps
def j6_ (v : Value) : Option (DataW Value × List MemPlace) := some (.held v, [])
def VMp {α : Type} (P : Program) (kf : α → Lit) (k : TypeId) (w : World) (b n : Nat) (M : α → Option Value) : Prop :=
 ∃ D : DataW Value, w.ownsMap P k j6_ b n D ∧ IsMap D ∧ ∀ x, Maps.has D (kf x) = (M x).isSome ∧ ∀ z, D.atKey (kf x) (.held z) = .held ((M x).getD z)
section
variable {α : Type} {P : Program} {kf : α → Lit} {k : TypeId} {w w' : World} {b n : Nat} {M : α → Option Value}
theorem VMp.made (w : World) (P : Program) (kf : α → Lit) (k : TypeId) : VMp P kf k (w.alloc (.map #[] 0)) w.heap.size 0 (fun _ => none) :=
 ⟨_, World.ownsMap_made _ _ _ _, isMap_empty, fun x => ⟨rfl, fun z => rfl⟩⟩
theorem VMp.lt (h : VMp P kf k w b n M) : b < w.heap.size := by obtain ⟨D, h, _⟩ := h; exact h.lt
theorem VMp.only {F : Nat → Prop} (h : VMp P kf k w b n M) (ho : Only F w w') (hb : ¬ F b) : VMp P kf k w' b n M := by
 obtain ⟨D, h, h2⟩ := h
 have hlt := h.lt
 obtain ⟨es, clock, he, r⟩ := h
 exact ⟨D, ⟨es, clock, (ho.block b hlt hb).trans he, r⟩, h2⟩
theorem VMp.up (h : VMp P kf k w b n M) (hb : Bel w w') : VMp P kf k w' b n M := h.only (Only.of_below (fun _ => False) hb) (fun h => h)
theorem VMp.ext {M' : α → Option Value} (h : VMp P kf k w b n M) (he : ∀ x, M x = M' x) : VMp P kf k w b n M' := by
 have : M = M' := funext he
 exact this ▸ h
theorem VMp.look {t e : TypeId} (h : VMp P kf k w b n M) (K : Keyed P k) (ht : P.underlying t = some (.map k e)) {z : Value} (hz : (zeroValue e).run P w = .ok z w) {key : Value} {y : α} (hkey : keyOf P k key = some (kf y)) :
  (Instr.lookup t (.map (some b)) key false).run P w = .ok ((M y).getD z) w := by
 obtain ⟨D, h, _, hD⟩ := h
 obtain ⟨v, ps, hrun, hv⟩ := h.lookup K ht hz (show j6_ z = some (.held z, []) from rfl) hkey
 rw [(hD y).2] at hv
 unfold j6_ at hv
 injection hv with hv
 injection hv with hv _
 injection hv with hv
 rw [hrun, hv]
theorem VMp.look_ok {t e : TypeId} (h : VMp P kf k w b n M) (K : Keyed P k) (ht : P.underlying t = some (.map k e)) {z : Value} (hz : (zeroValue e).run P w = .ok z w) {key : Value} {y : α} (hkey : keyOf P k key = some (kf y)) :
  (Instr.lookup t (.map (some b)) key true).run P w = .ok (.tuple #[(M y).getD z, .bool (M y).isSome]) w := by
 obtain ⟨D, h, _, hD⟩ := h
 obtain ⟨v, ps, hrun, hv⟩ := h.look_ok K ht hz (show j6_ z = some (.held z, []) from rfl) hkey
 rw [(hD y).2] at hv
 unfold j6_ at hv
 injection hv with hv
 injection hv with hv _
 injection hv with hv
 rw [hrun, hv, (hD y).1]
def setM [DecidableEq α] (M : α → Option Value) (y : α) (v : Value) : α → Option Value := fun x => if x = y then some v else M x
theorem VMp.put [DecidableEq α] {D : DataW Value} (hi : ∀ x y, kf x = kf y → x = y) (hk : ∀ x, WideAt.IsKeyLit (kf x)) (h2 : IsMap D) (h3 : ∀ x, Maps.has D (kf x) = (M x).isSome ∧ ∀ z, D.atKey (kf x) (.held z) = .held ((M x).getD z)) {y : α} {v : Value}
  (h : w'.ownsMap P k j6_ b (n + 1) (D.put (kf y) (.held v))) : VMp P kf k w' b (n + 1) (setM M y v) := by
 refine ⟨_, h, h2.put _ _, fun x => ?_⟩
 unfold setM
 by_cases e : x = y
 ·subst e
  rw [if_pos rfl];exact ⟨has_put_same h2 (hk x) _, fun z => atKey_put_same h2 (hk x) _ _⟩
 ·rw [if_neg e]
  have hne : kf x ≠ kf y := fun h => e (hi _ _ h);exact ⟨(has_put_other hne _).trans (h3 x).1, fun z => (atKey_put_other hne _ _).trans ((h3 x).2 z)⟩
end
section
variable {α : Type} {P : Program} {kf : α → Lit} {k e t : TypeId} {w : World} {b n : Nat} {M : α → Option Value} {ops : Array Oper} {rest : List Oper} {o : Oper} {a : Act} {Q : Exit → Act → World → Prop}
theorem z0_ (hg : o.guard = none) (m x : Operand) (hop : o.op = Op.lookup t m x false) (K : Keyed P k) (ht : P.underlying t = some (.map k e)) {z : Value} (hz : (zeroValue e).run P w = .ok z w) (hv : VMp P kf k w b n M) (y : α) (key v : Value)
  (hm : a.eval m = .map (some b)) (hx : a.eval x = key) (hkey : keyOf P k key = some (kf y)) (hMv : (M y).getD z = v) (hK : wpList P ops Q rest (a.put o.dst v) w) : wpList P ops Q (o :: rest) a w := by
 refine wpList_plain hg fun K' hK' => ?_
 have hrun := hv.look K ht hz hkey
 unfold Oper.wp
 simp [execOp, hop, hm, hx, hrun, Result.andThen, hMv]
 exact hK' _ _ hK
theorem zs_ (hg : o.guard = none) (m x : Operand) (hop : o.op = Op.lookup t m x true) (K : Keyed P k) (ht : P.underlying t = some (.map k e)) {z : Value} (hz : (zeroValue e).run P w = .ok z w) (hv : VMp P kf k w b n M) (y : α) (key v : Value) (is : Bool)
  (hm : a.eval m = .map (some b)) (hx : a.eval x = key) (hkey : keyOf P k key = some (kf y)) (hMv : (M y).getD z = v) (hMs : (M y).isSome = is) (hK : wpList P ops Q rest (a.put o.dst (.tuple #[v, .bool is])) w) : wpList P ops Q (o :: rest) a w := by
 refine wpList_plain hg fun K' hK' => ?_
 have hrun := hv.look_ok K ht hz hkey
 unfold Oper.wp
 simp [execOp, hop, hm, hx, hrun, Result.andThen, hMv, hMs]
 exact hK' _ _ hK
theorem yq_ [DecidableEq α] (hg : o.guard = none) (m x v : Operand) (hop : o.op = Op.mapUpdate t m x v) (K : Keyed P k) (ht : P.underlying t = some (.map k e)) (hi : ∀ x y, kf x = kf y → x = y) (hk : ∀ x, WideAt.IsKeyLit (kf x)) (hv : VMp P kf k w b n M) (hn : n < maxLen) (y : α) (key val : Value)
  (hm : a.eval m = .map (some b)) (hx : a.eval x = key) (hval : a.eval v = val) (hkey : keyOf P k key = some (kf y)) (hK : ∀ w', VMp P kf k w' b (n + 1) (setM M y val) → w.grownBy w' (some b) → wpList P ops Q rest (a.put o.dst undef) w') : wpList P ops Q (o :: rest) a w := by
 obtain ⟨D, h, h2, h3⟩ := hv
 exact wpList_mapUpdate_own w hg m x v t hop k e K ht j6_ b n D hm h hn key val (kf y) hx hval hkey (.held val) [] rfl (fun w' h1 hg1 => hK w' (VMp.put hi hk h2 h3 h1) hg1)
end
def skf (x : ByteArray) : Lit := .string x.data.toList
theorem xM_ (x y : ByteArray) (h : skf x = skf y) : x = y := by
 unfold skf at h
 injection h with h
 obtain ⟨⟨l⟩⟩ := x
 obtain ⟨⟨m⟩⟩ := y
 simp only at h
 subst h
 rfl
theorem xL_ (x : ByteArray) : WideAt.IsKeyLit (skf x) := by simp [skf, WideAt.IsKeyLit]
theorem jR_ {α : Type} [DecidableEq α] {P : Program} {kf : α → Lit} {k e t : TypeId} {w : World} {b n : Nat} {M : α → Option Value} {ops : Array Oper} {o : Oper} {a : Act} {Q : Exit → Act → World → Prop} {K' : Act → World → Prop} {E : Prop} (hgd : o.guard = none) (m x v : Operand) (hop : o.op = Op.mapUpdate t m x v) (K : Keyed P k) (ht : P.underlying t = some (.map k e)) (hi : ∀ x y, kf x = kf y → x = y) (hk : ∀ x, WideAt.IsKeyLit (kf x)) (hv : VMp P kf k w b n M) (hn : n < maxLen) (y : α) (key val : Value)
  (hm : a.eval m = .map (some b)) (hx : a.eval x = key) (hval : a.eval v = val) (hkey : keyOf P k key = some (kf y)) (hK : ∀ w', VMp P kf k w' b (n + 1) (setM M y val) → w.grownBy w' (some b) → K' (a.put o.dst undef) w') : if Region.wanted o (yielded ops a.tmps) = true then Oper.wp P o a w K' Q else E := by
 have hw : Region.wanted o (yielded ops a.tmps) = true := by simp [Region.wanted, hgd]
 rw [if_pos hw]
 obtain ⟨D, h, h2, h3⟩ := hv
 obtain ⟨w', hrun, r1, r2⟩ := h.update K ht hn hkey (show j6_ val = some (.held val, []) from rfl)
 unfold Oper.wp
 simp [execOp, hop, hm, hx, hval, hrun, Result.andThen]
 exact hK w' (VMp.put hi hk h2 h3 r1) r2
end Go.Proofs.YtdkcfgahdcpkkaaDoor
namespace Go.Proofs.YtdkcfgahdcpkkaaDoor
open Go.RowKit
set_option maxRecDepth 100000
theorem Zb_ (l : List Pl) (p : Pl) (d : ByteArray) (i : Int) : covB (l ++ [p]) d i = (covB l d i || (decide (p.disk = d) && decide (p.start ≤ i) && decide (i < p.start + p.len))) := by
 simp [covB, List.any_append]
theorem Jk_ (l : List Pl) (p : Pl) : hitB l p = true ↔ ∃ j : Nat, (j : Int) < p.len ∧ covB l p.disk (p.start + j) = true := by
 unfold hitB covB
 simp only [List.any_eq_true, Bool.and_eq_true, decide_eq_true_eq]
 constructor
 ·rintro ⟨q, hq, hd, h⟩
  refine ⟨(max q.start p.start - p.start).toNat, ?_, q, hq, ⟨hd, ?_⟩, ?_⟩ <;> omega
 ·rintro ⟨j, hj, q, hq, ⟨hd, h1⟩, h2⟩
  exact ⟨q, hq, hd, by omega⟩
theorem YS_ (s : Sg) (l : List Pl) (k : Nat) (h : s.areas.length ≤ k) : overA s l (s.areas.drop k) = false := by rw [List.drop_eq_nil_of_le h]; rfl
theorem kF_ {α : Type} {l : List α} {k : Nat} {x : α} (h : l[k]? = some x) : l.drop k = x :: l.drop (k + 1) := by
 obtain ⟨h1, e1⟩ := List.getElem?_eq_some_iff.1 h
 rw [List.drop_eq_getElem_cons h1, e1]
theorem YQ_ {s : Sg} {l : List Pl} {k : Nat} {x : Ar} (h : s.areas[k]? = some x) (hv : x.vol = true) : overA s l (s.areas.drop k) = overA s l (s.areas.drop (k + 1)) := by
 rw [kF_ h, overA, if_pos hv]
theorem YR_ {s : Sg} {l : List Pl} {k : Nat} {x : Ar} (h : s.areas[k]? = some x) (hv : x.vol = false) (hh : hitB l (plOf s x) = true) : overA s l (s.areas.drop k) = true := by
 rw [kF_ h, overA, if_neg (by rw [hv]; exact Bool.false_ne_true), hh, Bool.true_or]
theorem XZ_ {s : Sg} {l : List Pl} {k : Nat} {x : Ar} (h : s.areas[k]? = some x) (hv : x.vol = false) (hh : hitB l (plOf s x) = false) : overA s l (s.areas.drop k) = overA s (l ++ [plOf s x]) (s.areas.drop (k + 1)) := by
 rw [kF_ h, overA, if_neg (by rw [hv]; exact Bool.false_ne_true), hh, Bool.false_or]
def plsK (s : Sg) (k : Nat) : List Pl := ((s.areas.take k).filter (fun a => !a.vol)).map (plOf s)
theorem XT_ {s : Sg} {k : Nat} {x : Ar} (h : s.areas[k]? = some x) (hv : x.vol = true) : plsK s (k + 1) = plsK s k := by
 obtain ⟨h1, e1⟩ := List.getElem?_eq_some_iff.1 h
 unfold plsK
 rw [List.take_succ_eq_append_getElem h1, e1, List.filter_append]
 simp [hv]
theorem Q9_ {s : Sg} {k : Nat} {x : Ar} (h : s.areas[k]? = some x) (hv : x.vol = false) : plsK s (k + 1) = plsK s k ++ [plOf s x] := by
 obtain ⟨h1, e1⟩ := List.getElem?_eq_some_iff.1 h
 unfold plsK
 rw [List.take_succ_eq_append_getElem h1, e1, List.filter_append]
 simp [hv]
theorem XU_ (s : Sg) : plsK s s.areas.length = plsS s := by unfold plsK plsS; rw [List.take_length]
theorem YJ_ {l : List Sg} {m : Nat} {s : Sg} (h : l[m]? = some s) : plsV (l.take (m + 1)) = plsV (l.take m) ++ plsS s := by
 obtain ⟨h1, e1⟩ := List.getElem?_eq_some_iff.1 h
 unfold plsV
 rw [List.take_succ_eq_append_getElem h1, e1, List.flatMap_append]
 simp
theorem yf_ {g : Gr} {k : Nat} {v : Vo} (hv : g.vols[k]? = some v) : xd_ g k = v.segs := by unfold xd_; rw [hv]; rfl
theorem ZB_ {g : Gr} {k m : Nat} {v : Vo} {s : Sg} (hv : g.vols[k]? = some v) (hs : v.segs[m]? = some s) : xQ_ g k (m + 1) = xQ_ g k m ++ plsS s := by
 unfold xQ_
 rw [yf_ hv, YJ_ hs, List.append_assoc]
theorem ZA_ {g : Gr} {k : Nat} {v : Vo} (hv : g.vols[k]? = some v) : xQ_ g k v.segs.length = xQ_ g (k + 1) 0 := by
 obtain ⟨h1, e1⟩ := List.getElem?_eq_some_iff.1 hv
 unfold xQ_
 rw [yf_ hv, List.take_length, List.take_succ_eq_append_getElem h1, e1, List.flatMap_append]
 simp [plsV]
theorem Zz_ (g : Gr) : xQ_ g 0 0 = [] := by simp [xQ_, plsV]
def bcells (f : Nat → Bool) (n : Nat) : Array Value := ((List.range n).map (fun i => Value.bool (f i))).toArray
theorem Z8_ {f : Nat → Bool} {n i : Nat} (h : i < n) : (bcells f n)[i]? = some (.bool (f i)) := by simp [bcells, h]
theorem jd_ {f g : Nat → Bool} {n : Nat} (h : ∀ i, i < n → f i = g i) : bcells f n = bcells g n := by
 unfold bcells
 congr 1
 refine List.map_congr_left fun i hi => ?_
 rw [h i (List.mem_range.1 hi)]
theorem Z7_ (f : Nat → Bool) (n k : Nat) : (bcells f n).setIfInBounds k (.bool true) = bcells (fun i => f i || decide (i = k)) n := by
 unfold bcells
 rw [List.setIfInBounds_toArray]
 congr 1
 refine List.ext_getElem? fun i => ?_
 by_cases hi : i < n
 ·by_cases e : i = k
  ·subst e
   simp [hi]
  ·rw [List.getElem?_set_ne (Ne.symm e)]
   simp [hi, e]
 ·rw [List.getElem?_eq_none (by simp; omega), List.getElem?_eq_none (by simp; omega)]
theorem kH_ (n : Nat) : madeCells #[.bool false] n = bcells (fun _ => false) n := by
 unfold madeCells bcells
 refine Array.ext (by simp) fun i h1 h2 => ?_
 simp [Nat.mod_one]
end Go.Proofs.YtdkcfgahdcpkkaaDoor
