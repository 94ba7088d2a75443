/- What a volume needs, in plain words. -/
import Derived.Test.YtdkcfgahdcpkkaaDoorBGr
set_option linter.all false
set_option linter.unusedVariables false
set_option linter.unusedSimpArgs false
namespace Go.Proofs.YtdkcfgahdcpkkaaDoor
instance memDec (x : ByteArray) (l : List ByteArray) : Decidable (x ∈ l) := decidable_of_iff (l.any (fun y => decide (y = x)) = true) (by simp)
/-- what a segment uses -/
def usesS (s : Sg) : List ByteArray := ((s.areas.filter fun a => a.vol).map fun a => a.on) ++ ((if s.log = ⟨#[]⟩ then [] else [s.log]) ++ (if s.pool = ⟨#[]⟩ then [] else [s.pool]))
def usesL (l : List Sg) : List ByteArray := (l.map usesS).flatten
def usesV (v : Vo) : List ByteArray := usesL v.segs
/-- what the first volume with a name uses -/
def linkV (vs : List Vo) (n : ByteArray) : Option (List ByteArray) := (vs.find? fun v => decide (v.name = n)).map usesV
theorem linkV_none {vs : List Vo} {n : ByteArray} : linkV vs n = none ↔ ∀ v ∈ vs, v.name ≠ n := by
 simp [linkV]
theorem linkV_some {vs : List Vo} {n : ByteArray} {l : List ByteArray} (h : linkV vs n = some l) : ∃ v ∈ vs, v.name = n ∧ l = usesV v := by
 simp only [linkV, Option.map_eq_some_iff] at h
 obtain ⟨v, hv, rfl⟩ := h
 exact ⟨v, List.mem_of_find?_eq_some hv, by simpa using List.find?_some hv, rfl⟩
theorem linkV_snoc (vs : List Vo) (v : Vo) (n : ByteArray) : linkV (vs ++ [v]) n = match linkV vs n with | some l => some l | none => if v.name = n then some (usesV v) else none := by
 unfold linkV
 rw [List.find?_append]
 cases h : vs.find? fun v => decide (v.name = n) with
 | some x => rfl
 | none =>
  by_cases e : v.name = n
  ·simp [e]
  ·simp [e]
/-- one is below another -/
inductive Rch (L : ByteArray → Option (List ByteArray)) (a : ByteArray) : ByteArray → Prop
 | one {l x} : L a = some l → x ∈ l → L x ≠ none → Rch L a x
 | more {y l x} : Rch L a y → L y = some l → x ∈ l → L x ≠ none → Rch L a x
theorem Rch.key {L : ByteArray → Option (List ByteArray)} {a x : ByteArray} (h : Rch L a x) : L x ≠ none := by
 cases h <;> assumption
theorem Rch.head {L : ByteArray → Option (List ByteArray)} {a x : ByteArray} (h : Rch L a x) : ∃ l, L a = some l ∧ (x ∈ l ∨ ∃ u ∈ l, Rch L u x) := by
 induction h with
 | one h1 h2 h3 => exact ⟨_, h1, .inl h2⟩
 | @more y l x hy h1 h2 h3 ih =>
  obtain ⟨l0, e0, h⟩ := ih
  refine ⟨l0, e0, .inr ?_⟩
  rcases h with h | ⟨u, hu, hr⟩
  ·exact ⟨y, h, .one h1 h2 h3⟩
  ·exact ⟨u, hu, .more hr h1 h2 h3⟩
theorem Rch.cons {L : ByteArray → Option (List ByteArray)} {a u x : ByteArray} {l : List ByteArray} (h1 : L a = some l) (hu : u ∈ l) (h : Rch L u x) : Rch L a x := by
 have hk : L u ≠ none := by
  obtain ⟨l0, e0, _⟩ := h.head
  rw [e0]; simp
 induction h with
 | one e h2 h3 => exact .more (.one h1 hu hk) e h2 h3
 | more _ e h2 h3 ih => exact .more ih e h2 h3
/-- the search: what was met, what waits -/
structure DfsI (L : ByteArray → Option (List ByteArray)) (a : ByteArray) (met todo : List ByteArray) : Prop where
 sound : ∀ x ∈ met, Rch L a x
 wait : ∀ x ∈ todo, L x ≠ none → Rch L a x
 first : ∀ l, L a = some l → ∀ x ∈ l, L x ≠ none → x ∈ met ∨ x ∈ todo
 shut : ∀ y ∈ met, ∀ l, L y = some l → ∀ x ∈ l, L x ≠ none → x ∈ met ∨ x ∈ todo
theorem DfsI.start (L : ByteArray → Option (List ByteArray)) (a : ByteArray) : DfsI L a [] ((L a).getD []) :=
 ⟨fun x h => (by cases h), fun x h hx => (by
  cases e : L a with
  | none => rw [e] at h; cases h
  | some l => rw [e] at h; exact .one e h hx), fun l e x hx _ => .inr (by rw [e]; exact hx), fun y h => by cases h⟩
theorem DfsI.skip {L : ByteArray → Option (List ByteArray)} {a x : ByteArray} {met todo : List ByteArray} (h : DfsI L a met (todo ++ [x])) (hx : L x = none ∨ x ∈ met) : DfsI L a met todo := by
 have hp : ∀ z, L z ≠ none → z ∈ met ∨ z ∈ todo ++ [x] → z ∈ met ∨ z ∈ todo := fun z hz hm => by
  rcases hm with hm | hm
  ·exact .inl hm
  ·rcases List.mem_append.1 hm with hm | hm
   ·exact .inr hm
   ·simp at hm; subst hm
    exact hx.elim (fun e => absurd e hz) .inl
 exact ⟨h.sound, fun z hz => h.wait z (by simp [hz]), fun l e z hz hk => hp z hk (h.first l e z hz hk), fun y hy l e z hz hk => hp z hk (h.shut y hy l e z hz hk)⟩
theorem DfsI.take {L : ByteArray → Option (List ByteArray)} {a x : ByteArray} {met todo l : List ByteArray} (h : DfsI L a met (todo ++ [x])) (hx : L x = some l) : DfsI L a (met ++ [x]) (todo ++ l) := by
 have hr : Rch L a x := h.wait x (by simp) (by rw [hx]; simp)
 have hp : ∀ z, z ∈ met ∨ z ∈ todo ++ [x] → z ∈ met ++ [x] ∨ z ∈ todo ++ l := fun z hm => by
  rcases hm with hm | hm
  ·exact .inl (by simp [hm])
  ·rcases List.mem_append.1 hm with hm | hm
   ·exact .inr (by simp [hm])
   ·simp at hm; subst hm
    exact .inl (by simp)
 refine ⟨fun z hz => ?_, fun z hz hk => ?_, fun l' e z hz hk => hp z (h.first l' e z hz hk), fun y hy l' e z hz hk => ?_⟩
 ·rcases List.mem_append.1 hz with hz | hz
  ·exact h.sound z hz
  ·simp at hz; subst hz; exact hr
 ·rcases List.mem_append.1 hz with hz | hz
  ·exact h.wait z (by simp [hz]) hk
  ·exact .more hr hx hz hk
 ·rcases List.mem_append.1 hy with hy | hy
  ·exact hp z (h.shut y hy l' e z hz hk)
  ·simp at hy; subst hy
   rw [hx] at e; injection e with e; subst e
   exact .inr (by simp [hz])
theorem DfsI.done {L : ByteArray → Option (List ByteArray)} {a : ByteArray} {met : List ByteArray} (h : DfsI L a met []) : ∀ x, x ∈ met ↔ Rch L a x := fun x =>
 ⟨h.sound x, fun hr => by
  induction hr with
  | one e hx hk => exact (h.first _ e _ hx hk).elim id (fun h => by cases h)
  | more _ e hx hk ih => exact (h.shut _ ih _ e _ hx hk).elim id (fun h => by cases h)⟩
/-- how much waits at most -/
def restN : List Vo → List ByteArray → Nat
 | [], _ => 0
 | v :: vs, met => (if v.name ∈ met then 0 else (usesV v).length) + restN vs met
theorem restN_le (x : ByteArray) (met : List ByteArray) : ∀ vs : List Vo, restN vs (met ++ [x]) ≤ restN vs met
 | [] => Nat.le_refl _
 | v :: vs => by
  have ih := restN_le x met vs
  unfold restN
  by_cases h1 : v.name ∈ met
  ·rw [if_pos (by simp [h1]), if_pos h1]; omega
  ·rw [if_neg h1]
   by_cases h2 : v.name ∈ met ++ [x]
   ·rw [if_pos h2]; omega
   ·rw [if_neg h2]; omega
theorem restN_take {x : ByteArray} {met l : List ByteArray} (hm : x ∉ met) : ∀ vs : List Vo, linkV vs x = some l → restN vs (met ++ [x]) + l.length ≤ restN vs met
 | [], h => by simp [linkV] at h
 | v :: vs, h => by
  by_cases e : v.name = x
  ·have hl : l = usesV v := by
    unfold linkV at h
    rw [List.find?_cons_of_pos (by simp [e])] at h
    simp at h; exact h.symm
   subst hl
   have := restN_le x met vs
   unfold restN
   rw [if_pos (by simp [e]), if_neg (by rw [e]; exact hm)]
   omega
  ·have hl : linkV vs x = some l := by
    unfold linkV at h ⊢
    rw [List.find?_cons_of_neg (by simp [e])] at h
    exact h
   have ih := restN_take hm vs hl
   unfold restN
   by_cases h1 : v.name ∈ met
   ·rw [if_pos (by simp [h1]), if_pos h1]; omega
   ·rw [if_neg h1, if_neg (by simp [h1, e])]; omega
theorem linkV_len {x : ByteArray} {l : List ByteArray} {vs : List Vo} (h : linkV vs x = some l) : l.length ≤ restN vs [] := by
 have := restN_take (x := x) (met := []) (l := l) (by simp) vs h
 omega
/-- the names of chosen volumes, each once -/
def pickL (f : ByteArray → Bool) (vs : List Vo) : List ByteArray := vs.foldl (fun out v => if f v.name = true ∧ v.name ∉ out then out ++ [v.name] else out) []
theorem pickL_snoc (f : ByteArray → Bool) (vs : List Vo) (v : Vo) : pickL f (vs ++ [v]) = if f v.name = true ∧ v.name ∉ pickL f vs then pickL f vs ++ [v.name] else pickL f vs := by
 unfold pickL
 rw [List.foldl_append]
 rfl
theorem reverse_ind {α : Type} {P : List α → Prop} (h0 : P []) (h1 : ∀ l x, P l → P (l ++ [x])) : ∀ l, P l := fun l => by
 have : P l.reverse.reverse := by
  induction l.reverse with
  | nil => exact h0
  | cons x r ih => rw [List.reverse_cons]; exact h1 _ _ ih
 rwa [List.reverse_reverse] at this
theorem mem_pickL (f : ByteArray → Bool) (x : ByteArray) (vs : List Vo) : x ∈ pickL f vs ↔ f x = true ∧ ∃ v ∈ vs, v.name = x := by
 induction vs using reverse_ind with
 | h0 => simp [pickL]
 | h1 l v ih =>
  rw [pickL_snoc]
  by_cases hc : f v.name = true ∧ v.name ∉ pickL f l
  ·rw [if_pos hc, List.mem_append, ih]
   constructor
   ·rintro (⟨h1, u, hu, e⟩ | h)
    ·exact ⟨h1, u, by simp [hu], e⟩
    ·simp at h; subst h; exact ⟨hc.1, v, by simp, rfl⟩
   ·rintro ⟨h1, u, hu, e⟩
    rcases List.mem_append.1 hu with hu | hu
    ·exact .inl ⟨h1, u, hu, e⟩
    ·simp at hu; subst hu; subst e; exact .inr (by simp)
  ·rw [if_neg hc, ih]
   constructor
   ·rintro ⟨h1, u, hu, e⟩
    exact ⟨h1, u, by simp [hu], e⟩
   ·rintro ⟨h1, u, hu, e⟩
    rcases List.mem_append.1 hu with hu | hu
    ·exact ⟨h1, u, hu, e⟩
    ·simp at hu; subst hu; subst e
     have : u.name ∈ pickL f l := by
      by_cases hm : u.name ∈ pickL f l
      ·exact hm
      ·exact absurd ⟨h1, hm⟩ hc
     exact ih.1 this
theorem pickL_len (f : ByteArray → Bool) (vs : List Vo) : (pickL f vs).length ≤ vs.length := by
 induction vs using reverse_ind with
 | h0 => simp [pickL]
 | h1 l v ih =>
  rw [pickL_snoc]
  split
  ·simp; omega
  ·simp; omega
theorem pickL_congr {f g : ByteArray → Bool} {vs : List Vo} (h : ∀ v ∈ vs, f v.name = g v.name) : pickL f vs = pickL g vs := by
 induction vs using reverse_ind with
 | h0 => rfl
 | h1 l v ih =>
  rw [pickL_snoc, pickL_snoc, ih (fun u hu => h u (by simp [hu])), h v (by simp)]
end Go.Proofs.YtdkcfgahdcpkkaaDoor
namespace Go.Proofs.YtdkcfgahdcpkkaaDoor
def firstV (vs : List Vo) (n : ByteArray) : Option Vo := vs.find? fun v => decide (v.name = n)
theorem linkV_first (vs : List Vo) (n : ByteArray) : linkV vs n = (firstV vs n).map usesV := rfl
/-- the disks on which areas lie -/
def diskA (l : List Ar) : List ByteArray := (l.filter fun a => !a.vol).map fun a => a.on
def diskL (l : List Sg) : List ByteArray := (l.map fun s => diskA s.areas).flatten
def diskV (v : Vo) : List ByteArray := diskL v.segs
theorem diskA_take {l : List Ar} {k : Nat} {x : Ar} (h : l[k]? = some x) : diskA (l.take (k + 1)) = diskA (l.take k) ++ (if x.vol then [] else [x.on]) := by
 obtain ⟨h1, e1⟩ := List.getElem?_eq_some_iff.1 h
 rw [List.take_succ_eq_append_getElem h1, e1]
 unfold diskA
 rw [List.filter_append, List.map_append]
 cases hx : x.vol <;> simp [hx]
theorem diskL_take {l : List Sg} {k : Nat} {s : Sg} (h : l[k]? = some s) : diskL (l.take (k + 1)) = diskL (l.take k) ++ diskA s.areas := by
 obtain ⟨h1, e1⟩ := List.getElem?_eq_some_iff.1 h
 rw [List.take_succ_eq_append_getElem h1, e1]
 simp [diskL]
/-- the disks of the volumes with given names -/
def diskN (vs : List Vo) (l : List ByteArray) : List ByteArray := (l.map fun x => ((firstV vs x).map diskV).getD []).flatten
theorem diskN_take {vs : List Vo} {l : List ByteArray} {k : Nat} {x : ByteArray} (h : l[k]? = some x) : diskN vs (l.take (k + 1)) = diskN vs (l.take k) ++ ((firstV vs x).map diskV).getD [] := by
 obtain ⟨h1, e1⟩ := List.getElem?_eq_some_iff.1 h
 rw [List.take_succ_eq_append_getElem h1, e1]
 simp [diskN]
/-- the names of chosen disks, each once -/
def pickD (f : ByteArray → Bool) (ds : List Dk) : List ByteArray := ds.foldl (fun out d => if f d.name = true ∧ d.name ∉ out then out ++ [d.name] else out) []
theorem pickD_snoc (f : ByteArray → Bool) (ds : List Dk) (d : Dk) : pickD f (ds ++ [d]) = if f d.name = true ∧ d.name ∉ pickD f ds then pickD f ds ++ [d.name] else pickD f ds := by
 unfold pickD
 rw [List.foldl_append]
 rfl
theorem pickD_take {f : ByteArray → Bool} {ds : List Dk} {k : Nat} {d : Dk} (h : ds[k]? = some d) : pickD f (ds.take (k + 1)) = if f d.name = true ∧ d.name ∉ pickD f (ds.take k) then pickD f (ds.take k) ++ [d.name] else pickD f (ds.take k) := by
 obtain ⟨h1, e1⟩ := List.getElem?_eq_some_iff.1 h
 rw [List.take_succ_eq_append_getElem h1, e1, pickD_snoc]
theorem mem_pickD (f : ByteArray → Bool) (x : ByteArray) (ds : List Dk) : x ∈ pickD f ds ↔ f x = true ∧ ∃ d ∈ ds, d.name = x := by
 induction ds using reverse_ind with
 | h0 => simp [pickD]
 | h1 l v ih =>
  rw [pickD_snoc]
  by_cases hc : f v.name = true ∧ v.name ∉ pickD f l
  ·rw [if_pos hc, List.mem_append, ih]
   constructor
   ·rintro (⟨h1, u, hu, e⟩ | h)
    ·exact ⟨h1, u, by simp [hu], e⟩
    ·simp at h; subst h; exact ⟨hc.1, v, by simp, rfl⟩
   ·rintro ⟨h1, u, hu, e⟩
    rcases List.mem_append.1 hu with hu | hu
    ·exact .inl ⟨h1, u, hu, e⟩
    ·simp at hu; subst hu; subst e; exact .inr (by simp)
  ·rw [if_neg hc, ih]
   constructor
   ·rintro ⟨h1, u, hu, e⟩
    exact ⟨h1, u, by simp [hu], e⟩
   ·rintro ⟨h1, u, hu, e⟩
    rcases List.mem_append.1 hu with hu | hu
    ·exact ⟨h1, u, hu, e⟩
    ·simp at hu; subst hu; subst e
     have : u.name ∈ pickD f l := by
      by_cases hm : u.name ∈ pickD f l
      ·exact hm
      ·exact absurd ⟨h1, hm⟩ hc
     exact ih.1 this
theorem pickD_len (f : ByteArray → Bool) (ds : List Dk) : (pickD f ds).length ≤ ds.length := by
 induction ds using reverse_ind with
 | h0 => simp [pickD]
 | h1 l v ih =>
  rw [pickD_snoc]
  split
  ·simp; omega
  ·simp; omega
end Go.Proofs.YtdkcfgahdcpkkaaDoor
