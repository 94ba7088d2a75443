/- A group in memory, for a law's walk. -/
import Derived.Test.YtdkcfgahdcpkkaaDoorCMkHist
import Derived.Test.YtdkcfgahdcpkkaaDoorCMkGrpP
import Derived.Test.YtdkcfgahdcpkkaaDoorCUses
import Derived.Test.YtdkcfgahdcpkkaaDoorCPick
import Derived.Test.YtdkcfgahdcpkkaaDoorCExist
import Derived.Test.YtdkcfgahdcpkkaaDoorCFit
set_option linter.all false
namespace Go.Proofs.YtdkcfgahdcpkkaaDoor
open Go.RowKit
set_option maxRecDepth 100000
section
variable {w : World} {S : Nat → Prop} {p : Addr}
end
structure BdS (s : Sg) : Prop where
 areas : s.areas.length ≤ 6
 stale : s.stale.length ≤ 3
 on : ∀ a ∈ s.areas, a.on.size ≤ 100
 log : s.log.size ≤ 100
 pool : s.pool.size ≤ 100
structure BdV (v : Vo) : Prop where
 name : v.name.size ≤ 100
 tags : v.tags.length ≤ 4
 tagz : ∀ t ∈ v.tags, t.size ≤ 100
 segs : v.segs.length ≤ 3
 seg : ∀ s ∈ v.segs, BdS s
structure BdD (d : Dk) : Prop where
 name : d.name.size ≤ 100
 tags : d.tags.length ≤ 4
 tagz : ∀ t ∈ d.tags, t.size ≤ 100
structure BdG (γ : Gr) : Prop where
 name : γ.name.size ≤ 100
 tags : γ.tags.length ≤ 4
 tagz : ∀ t ∈ γ.tags, t.size ≤ 100
 disks : 1 ≤ γ.disks.length ∧ γ.disks.length ≤ 4
 vols : γ.vols.length ≤ 40
 hist : γ.hist.length ≤ 40
 histz : ∀ h ∈ γ.hist, h.name.size ≤ 100
 disk : ∀ d ∈ γ.disks, BdD d
 vol : ∀ v ∈ γ.vols, BdV v
section
variable {B Wh W : Nat} {S S' : Nat → Prop} {sb gb : Nat} {γ γ' : Gr} {v0 v1 v2 v3 u0 u1 u2 u3 : Value} {cd cv cd' cv' : List (List Value)} {wx w' w8 : World}
theorem Jm_ {hs : List Rm} {v : Value} (h : wx.ownsRow Wh 70 3 v hs.length (rC hs)) : ML wx (fun k => v.ownBlock = some k) v hs := by
 have hos : OS rmW (fun k => v.ownBlock = some k) wx Wh 70 3 v hs (hs.map fun x => (rmA x).toList) := ⟨by simp, h, fun k c y hc hy => by
  rw [List.getElem?_map, hy] at hc;simp at hc;exact hc.symm⟩
 exact hos.lr rmL (by decide) (fun _ h => h) (fun k hk => hk)
end
def SOk (s : Sg) : Prop := BdS s ∧ s.areas.length ≤ 5
def VOk (v : Vo) : Prop := BdV v ∧ ∀ s ∈ v.segs, s.areas.length ≤ 5
theorem VOk.of {v : Vo} (h1 : v.name.size ≤ 100) (h2 : v.tags.length ≤ 4) (h3 : ∀ t ∈ v.tags, t.size ≤ 100) (h4 : v.segs.length ≤ 3) (h5 : ∀ s ∈ v.segs, SOk s) : VOk v :=
 ⟨⟨h1, h2, h3, h4, fun s hs => (h5 s hs).1⟩, fun s hs => (h5 s hs).2⟩
def New (β β' : Be) : Prop := ∀ v ∈ β'.g.vols, v ∈ β.g.vols ∨ VOk v
theorem New.refl (β : Be) : New β β := fun _ h => .inl h
theorem New.trans {β β1 β2 : Be} (h : New β β1) (h' : New β1 β2) : New β β2 := fun v hv => (h' v hv).elim (h v) .inr
theorem New.same {β β' : Be} (h : β'.g.vols = β.g.vols) : New β β' := fun v hv => .inl (h ▸ hv)
theorem New.add {β : Be} {x : Vo} (h : VOk x) : New β (β.add x) := fun v hv => by
 have hv' : v ∈ β.g.vols ++ [x] := hv
 rcases List.mem_append.1 hv' with hv' | hv'
 ·exact .inl hv'
 ·simp at hv'; subst hv'; exact .inr h
def Dn (β : Be) : Prop := ∀ d ∈ β.g.disks, d.name.size ≤ 100
theorem Dn.keep {β β' : Be} (h : Dn β) (hk : KeepG β β') : Dn β' := fun d hd => h d (hk.1 ▸ hd)
theorem AreaR.on {β β' : Be} {d : Nat} {n : Int} {a : Ar} (h : AreaR β d n (some a) β') (hd : Dn β) : a.on.size ≤ 100 := by
 obtain ⟨dk, z, h1, _, ⟨e, _⟩ | ⟨_, _, _, _, e, _⟩⟩ := h
 ·cases e
 ·injection e with e; subst e; exact hd dk (List.mem_of_getElem? h1)
theorem yY_ {a b c d e f g : Int} {l : List Ar} {st : List Int} {lg pl : ByteArray} (h1 : l.length ≤ 5) (h2 : st.length ≤ 3) (h3 : ∀ x ∈ l, x.on.size ≤ 100) (h4 : lg.size ≤ 100) (h5 : pl.size ≤ 100) : SOk ⟨a, b, c, l, d, st, lg, pl, e, f, g⟩ :=
 ⟨⟨by show l.length ≤ 6; omega, h2, h3, h4, h5⟩, h1⟩
theorem lin_ok {name : ByteArray} {id n : Int} {hid : Bool} {a : Ar} (hn : name.size ≤ 100) (ha : a.on.size ≤ 100) : VOk (zP_ name id hid n a) :=
 .of hn (Nat.zero_le _) (fun t ht => by cases ht) (by show 1 ≤ 3; decide) (fun s hs => by
  have hs' : s ∈ [linSeg n a] := hs;simp at hs'; subst hs';exact yY_ (by simp) (Nat.zero_le _) (fun x hx => by simp at hx; subst hx; exact ha) (by decide) (by decide))
theorem LinR.new {β β' : Be} {name : ByteArray} {hid : Bool} {n : Int} {ok : Bool} (h : LinR β name hid n ok β') (hd : Dn β) (hn : name.size ≤ 100) : New β β' := by
 obtain ⟨_, rfl⟩ | ⟨_, d, a, β2, hr, rfl⟩ := h
 ·exact .same rfl
 ·exact (New.same (β := β) (β' := β2) (by rw [hr.g]; rfl)).trans (.add (lin_ok hn (hr.on (fun d hd' => hd d hd'))))
theorem LinsR.keep {l : List (ByteArray × Int)} {β β' : Be} (h : LinsR l β β') : KeepG β β' := by
 induction h with
 | nil => exact ⟨rfl, rfl⟩
 | snoc _ hr ih => exact ih.trans hr.keep
theorem LinsR.new {l : List (ByteArray × Int)} {β β' : Be} (h : LinsR l β β') (hd : Dn β) (hn : ∀ z ∈ l, z.1.size ≤ 100) : New β β' := by
 induction h with
 | nil => exact .refl _
 | snoc h hr ih => exact (ih hd (fun z hz => hn z (List.mem_append_left _ hz))).trans (hr.new (hd.keep h.keep) (hn (_, _) (List.mem_append_right _ (List.mem_singleton.2 rfl))))
theorem HidR.new {l : List (ByteArray × Int)} {β β' : Be} {ok : Bool} (h : HidR β l ok β') (hd : Dn β) (hn : ∀ z ∈ l, z.1.size ≤ 100) : New β β' := by
 obtain ⟨_, h⟩ | ⟨_, m, _, _, rfl⟩ := h
 ·exact h.new hd hn
 ·exact .same rfl
theorem AreasR.on {n : Int} {k : Nat} {β β' : Be} {l : List Ar} (h : AreasR n k β l β') (hd : Dn β) : l.length = k ∧ ∀ x ∈ l, x.on.size ≤ 100 := by
 induction h with
 | nil => exact ⟨rfl, fun x hx => by cases hx⟩
 | @snoc k β β1 β2 l a h hr ih =>
  obtain ⟨h1, h2⟩ := ih hd;have hg := h.g;refine ⟨by simp [h1], fun x hx => ?_⟩;rcases List.mem_append.1 hx with hx | hx
  ·exact h2 x hx
  ·simp at hx; subst hx; exact hr.on (fun d hd' => hd d (by rw [← hg]; exact hd'))
theorem StrR.new {β β' : Be} {name : ByteArray} (h : StrR β name β') (hd : Dn β) (hn : name.size ≤ 100) : New β β' := by
 obtain ⟨n, k, l, h, _⟩ | ⟨k, n, l, β1, h2, h3, _, _, h, rfl⟩ := h
 ·exact .same (by rw [h.g])
 ·obtain ⟨e1, e2⟩ := h.on hd
  refine (New.same (β := β) (β' := zK_ β1) (by show β1.g.vols = _; rw [h.g])).trans (.add (.of hn (Nat.zero_le _) (fun t ht => by cases ht) (by show 1 ≤ 3; decide) (fun s hs => ?_)));have hs' : s = ⟨0, k * n, 2, l, 1, [], ⟨#[]⟩, ⟨#[]⟩, 0, 0, 0⟩ := by simpa [Zs_] using hs
  subst hs';exact yY_ (by omega) (Nat.zero_le _) e2 (by decide) (by decide)
theorem Y4_ (name : ByteArray) (i : Nat) : (legN name i).size = name.size + 5 := by simp [legN, digB, ByteArray.size_append]; rfl
theorem yo_ {x : Ar} {l : List ByteArray} (h : x ∈ zr_ l) : x.on ∈ l := by
 unfold zr_ at h
 obtain ⟨s, hs, rfl⟩ := List.mem_map.1 h
 exact hs
theorem xx_ {s : ByteArray} {name : ByteArray} {k : Nat} (h : s ∈ zJ_ name k) : s.size = name.size + 5 := by
 unfold zJ_ at h
 obtain ⟨i, _, rfl⟩ := List.mem_map.1 h
 exact Y4_ name i
theorem areasN_len (l : List ByteArray) : (zr_ l).length = l.length := by simp [zr_]
theorem jW_ (name : ByteArray) : (qQ_ name).size = name.size + 5 ∧ (logN name).size = name.size + 4 ∧ (metaN name).size = name.size + 5 ∧ (dataN name).size = name.size + 5 := by
 refine ⟨?_, ?_, ?_, ?_⟩ <;> simp [qQ_, logN, metaN, dataN, ByteArray.size_append] <;> rfl
theorem CmpX.sok {name : ByteArray} {kind e n : Int} {l : List (ByteArray × Int)} {x : Sg} (h : CmpX name kind e n l x) (hn : name.size ≤ 50) : SOk x ∧ ∀ z ∈ l, z.1.size ≤ 100 := by
 obtain ⟨q1, q2, q3, q4⟩ := jW_ name
 obtain ⟨_, k, c, lg, st, h2, h3, _, _, hst, rfl, rfl⟩ | ⟨_, k, c, h3, h4, _, rfl, rfl⟩ | ⟨_, m, c, h1, h3, _, _, rfl, rfl⟩ | ⟨_, d, c, m, h1, h2, _, _, _, _, rfl, rfl⟩ := h
 ·refine ⟨yY_ (by rw [areasN_len, zj_]; omega) ?_ (fun x hx => ?_) ?_ (by decide), fun z hz => ?_⟩
  ·rcases hst with rfl | ⟨z, _, _, rfl⟩ <;> simp
  ·have := xx_ (yo_ hx); omega
  ·cases lg
   ·exact Nat.zero_le _
   ·show (logN name).size ≤ 100; omega
  ·have hz1 := (List.of_mem_zip hz).1
   rcases List.mem_append.1 hz1 with h | h
   ·have := xx_ h; omega
   ·cases lg
    ·cases h
    ·simp at h; rw [h]; omega
 ·refine ⟨yY_ (by rw [areasN_len, zj_]; omega) (Nat.zero_le _) (fun x hx => ?_) (by decide) (by decide), fun z hz => ?_⟩
  ·have := xx_ (yo_ hx); omega
  ·have := xx_ (List.of_mem_zip hz).1; omega
 ·refine ⟨yY_ (by simp [zr_]) (Nat.zero_le _) (fun x hx => ?_) (by decide) (by decide), fun z hz => ?_⟩
  ·have := yo_ hx
   simp at this;rcases this with e | e <;> rw [e] <;> omega
  ·simp at hz
   rcases hz with rfl | rfl
   ·show (metaN name).size ≤ 100; omega
   ·show (dataN name).size ≤ 100; omega
 ·refine ⟨yY_ (by simp [zr_]) (Nat.zero_le _) (fun x hx => ?_) (by decide) (by decide), fun z hz => ?_⟩
  ·have := yo_ hx
   simp at this;rcases this with e | e | e <;> rw [e] <;> omega
  ·simp at hz
   rcases hz with rfl | rfl | rfl
   ·show (qQ_ name).size ≤ 100; omega
   ·show (dataN name).size ≤ 100; omega
   ·show (metaN name).size ≤ 100; omega
theorem QJ_ {name : ByteArray} {id z : Int} {i : Nat} (hn : name.size ≤ 50) : VOk (xb_ name id i z) := by
 have h1 : (yV_ name i).size = name.size + 2 := by simp [yV_, digB, ByteArray.size_append]; rfl
 refine .of (by show (yV_ name i).size ≤ 100; omega) (Nat.zero_le _) (fun t ht => by cases ht) (by show 1 ≤ 3; decide) (fun s hs => ?_)
 have hs' : s = ⟨0, z, 6, [], 0, [], ⟨#[]⟩, name, i, 0, 0⟩ := by simpa [xb_] using hs
 subst hs'
 exact yY_ (Nat.zero_le _) (Nat.zero_le _) (fun x hx => by cases hx) (by decide) (by omega)
theorem ThinsR.new {name : ByteArray} {i0 i : Nat} {β β' : Be} (h : ThinsR name i0 i β β') (hn : name.size ≤ 50) : New β β' := by
 induction h with
 | nil β => exact .refl _
 | snoc h hz hv ih => exact ih.trans ((New.same rfl).trans (.add (QJ_ hn)))
theorem qX_ {tags : List ByteArray} (h : tags.Sublist tagL) : tags.length ≤ 4 ∧ ∀ t ∈ tags, t.size ≤ 100 :=
 ⟨h.length_le, fun t ht => by
  have := h.subset ht;simp [tagL] at this;rcases this with rfl | rfl | rfl | rfl <;> decide⟩
theorem CompR.new {β β' : Be} {name : ByteArray} {kind : Int} (h : CompR β name kind β') (hd : Dn β) (hn : name.size ≤ 50) : New β β' := by
 obtain ⟨n, l, x, h1, h3, hx, hr⟩ := h
 obtain ⟨hs, hl⟩ := hx.sok hn
 have hv : ∀ (β1 : Be) (ro : Bool) (tags : List ByteArray), tags.Sublist tagL → New β1 ((zK_ β1).add (yc_ name (idB β1) ro tags x)) := fun β1 ro tags ht => (New.same (β := β1) (β' := zK_ β1) rfl).trans (.add (.of (by show name.size ≤ 100; omega) (qX_ ht).1 (qX_ ht).2 (by show 1 ≤ 3; decide) (fun s hs' => by
  have hs2 : s ∈ [x] := hs';simp at hs2; subst hs2; exact hs)))
 rcases hr with hr | ⟨β1, ro, tags, hr, ht, ⟨_, rfl⟩ | ⟨_, i0, i, hi, hth⟩⟩
 ·exact hr.new hd hl
 ·exact (hr.new hd hl).trans (hv β1 ro tags ht)
 ·exact ((hr.new hd hl).trans (hv β1 ro tags ht)).trans (hth.new hn)
theorem MoreS.segs {β β' : Be} {l l' : List Sg} (h : MoreS β l β' l') (hd : Dn β) : (∀ s ∈ l', s ∈ l ∨ SOk s) ∧ l'.length ≤ l.length + 1 := by
 have hone : ∀ s : Sg, SOk s → (∀ t ∈ l ++ [s], t ∈ l ∨ SOk t) ∧ (l ++ [s]).length ≤ l.length + 1 := fun s hs => ⟨fun t ht => by
  rcases List.mem_append.1 ht with ht | ht
  ·exact .inl ht
  ·simp at ht; subst ht; exact .inr hs, by simp⟩
 obtain ⟨n, h1, h3, ⟨rfl, kind, _, rfl⟩ | ⟨d, hr, rfl⟩ | ⟨d, a, hr, rfl⟩ | ⟨d, a, β1, d2, hr, hr2, rfl⟩ | ⟨d, a, β1, d2, a2, k, hr, hr2, _, _, rfl⟩⟩ := h
 ·exact hone _ (yY_ (Nat.zero_le _) (Nat.zero_le _) (fun x hx => by cases hx) (by decide) (by decide))
 ·exact ⟨fun s hs => .inl hs, by omega⟩
 ·exact hone _ (yY_ (by simp) (Nat.zero_le _) (fun x hx => by simp at hx; subst hx; exact hr.on hd) (by decide) (by decide))
 ·exact ⟨fun s hs => .inl hs, by omega⟩
 ·have ha := hr.on hd
  have hb := hr2.on (fun d hd' => hd d (by rw [← hr.g]; exact hd'));exact hone _ (yY_ (by simp) (Nat.zero_le _) (fun x hx => by simp at hx; rcases hx with rfl | rfl <;> assumption) (by decide) (by decide))
theorem MoreR.segs {k : Nat} {β β' : Be} {l l' : List Sg} (h : MoreR k β l β' l') (hd : Dn β) : (∀ s ∈ l', s ∈ l ∨ SOk s) ∧ l'.length ≤ l.length + k := by
 induction h with
 | nil => exact ⟨fun s hs => .inl hs, by omega⟩
 | snoc h hs ih =>
  obtain ⟨h1, h2⟩ := ih hd;have hg := h.g.1;obtain ⟨h3, h4⟩ := hs.segs (fun d hd' => hd d (by rw [← hg]; exact hd'));exact ⟨fun s hs => (h3 s hs).elim (h1 s) .inr, by omega⟩
theorem GrpS.new {β β' : Be} {name : ByteArray} (h : GrpS β name β') (hd : Dn β) (hn : name.size ≤ 50) : New β β' := by
 obtain ⟨n, _, _, h⟩ | ⟨n, d, a, β1, k, β2, l', _, _, h1, hk, h2, rfl⟩ | h | ⟨kind, _, h⟩ := h
 ·exact h.new hd (by omega)
 ·have hd1 : Dn (zK_ β) := fun d hd' => hd d hd'
  have ha := h1.on hd1;have hg1 := h1.g
  have hd2 : Dn (β1.add (zP_ name (idB β) false n a)) := fun d hd' => hd d (by
   have : d ∈ β1.g.disks := hd';rw [hg1] at this; exact this)
  obtain ⟨h3, h4⟩ := h2.segs hd2
  have hvs : β2.g.vols = β.g.vols ++ [zP_ name (idB β) false n a] := by
   rw [h2.g.1];show β1.g.vols ++ [_] = _
   rw [hg1]; rfl
  intro v hv;have hv' : v ∈ β2.g.vols.dropLast ++ [({ zP_ name (idB β) false n a with segs := l' } : Vo)] := hv;rw [hvs, List.dropLast_concat] at hv';rcases List.mem_append.1 hv' with hv' | hv'
  ·exact .inl hv'
  ·simp at hv'
   subst hv';refine .inr (.of (by show name.size ≤ 100; omega) (Nat.zero_le _) (fun t ht => by cases ht) (by simp at h4; show l'.length ≤ 3; omega) (fun s hs => ?_));rcases h3 s hs with hs | hs
   ·simp at hs; subst hs
    exact yY_ (by simp) (Nat.zero_le _) (fun x hx => by simp at hx; subst hx; exact ha) (by decide) (by decide)
   ·exact hs
 ·exact h.new hd (by omega)
 ·exact h.new hd hn
def HeadG (β β' : Be) : Prop := β'.g.name = β.g.name ∧ β'.g.tags = β.g.tags
theorem HeadG.trans {β β1 β2 : Be} (h : HeadG β β1) (h' : HeadG β1 β2) : HeadG β β2 := ⟨h'.1.trans h.1, h'.2.trans h.2⟩
theorem x8_ {β β' : Be} (h : β'.g = β.g) : HeadG β β' := by rw [HeadG, h]; exact ⟨rfl, rfl⟩
theorem ThinsR.headg {name : ByteArray} {i0 i : Nat} {β β' : Be} (h : ThinsR name i0 i β β') : HeadG β β' := by
 induction h with
 | nil β => exact ⟨rfl, rfl⟩
 | snoc h hz hv ih => exact ih
theorem HidR.headg {l : List (ByteArray × Int)} {β β' : Be} {ok : Bool} (h : HidR β l ok β') : HeadG β β' := by
 obtain ⟨vs, m, e, _⟩ := h.g
 rw [HeadG, e]; exact ⟨rfl, rfl⟩
theorem GrpS.headg {β β' : Be} {name : ByteArray} (h : GrpS β name β') : HeadG β β' := by
 obtain ⟨n, _, _, h⟩ | ⟨n, d, a, β1, k, β2, l', _, _, h1, _, h2, rfl⟩ | h | ⟨kind, _, h⟩ := h
 ·obtain ⟨l, e, _⟩ := h.g
  rw [HeadG, e]; exact ⟨rfl, rfl⟩
 ·exact (x8_ h1.g : HeadG (zK_ β) β1).trans (x8_ h2.g.1 : HeadG _ β2)
 ·obtain ⟨n, k, l, h, _⟩ | ⟨k, n, l, β1, _, _, _, _, h, rfl⟩ := h
  ·exact x8_ h.g
  ·exact (x8_ h.g : HeadG β β1)
 ·obtain ⟨n, l, x, h1, h3, hx, hr⟩ := h
  rcases hr with hr | ⟨β1, ro, tags, hr, _, ⟨_, rfl⟩ | ⟨_, i0, i, hi, ht⟩⟩
  ·exact hr.headg
  ·exact (hr.headg : HeadG β β1)
  ·exact (hr.headg : HeadG β β1).trans ht.headg
theorem GrpsR.new {i0 i : Nat} {β β' : Be} (h : GrpsR i0 i β β') (hd : Dn β) : New β β' := by
 induction h with
 | nil => exact .refl _
 | snoc h hs ih => exact (ih hd).trans (hs.new (hd.keep h.keep) (by show 1 ≤ 50; decide))
theorem GrpsR.far {i0 i : Nat} {β β' : Be} (h : GrpsR i0 i β β') (he : 1 ≤ β.g.extent ∧ β.g.extent ≤ 16) : i ≤ i0 ∧ Far (7 * (i0 - i)) (7 * (i0 - i)) β β' := by
 induction h with
 | nil β => exact ⟨Nat.le_refl _, (Far.of_g rfl).mono (by omega) (by omega)⟩
 | snoc h hs ih =>
  obtain ⟨h1, h2⟩ := ih he;exact ⟨by omega, (h2.trans (hs.far (by rw [h.keep.2]; exact he))).mono (by omega) (by omega)⟩
theorem XR_ (k : Nat) : (pvN k).size = 3 := by simp [pvN, digB, ByteArray.size_append]; rfl
theorem GrpR.bd {γ : Gr} (h : GrpR γ) : BdG γ ∧ γ.hist.length ≤ 10 ∧ γ.vols.length ≤ 30 ∧ ∀ v ∈ γ.vols, ∀ s ∈ v.segs, s.areas.length ≤ 5 := by
 obtain ⟨id, seq, ext, tags, disks, n0, β, hh, _, _, _, _, hext, htags, hd1, hd4, hdk, hn0, hgr, hh2, rfl⟩ := h
 have hdn : ∀ d ∈ disks, d.name.size ≤ 100 ∧ d.tags.Sublist tagL := fun d hd => by
  obtain ⟨k, hk⟩ := List.getElem?_of_mem hd;obtain ⟨h1, _, _, _, _, h6⟩ := hdk k d hk;exact ⟨by rw [h1, XR_]; omega, h6⟩
 have hD : Dn ⟨G0 id seq ext tags disks, xn_ disks.length⟩ := fun d hd => (hdn d hd).1
 have hnew := hgr.new hD
 have hvk : ∀ v ∈ β.g.vols, VOk v := fun v hv => (hnew v hv).elim (fun h => by cases h) (fun h => h)
 have hkp := hgr.keep
 have hfar := (hgr.far (by show 1 ≤ ext ∧ ext ≤ 16; rcases hext with rfl | rfl | rfl | rfl | rfl <;> omega)).2
 have hvl : β.g.vols.length ≤ 28 := by have := hfar.vols; have e : (G0 id seq ext tags disks).vols.length = 0 := rfl; dsimp only at this; rw [e] at this; omega
 have hst : ∀ {i : Nat} {β1 β2 : Be}, GrpsR n0 i β1 β2 → β2.g.name = β1.g.name ∧ β2.g.tags = β1.g.tags := fun h => by
  induction h with
  | nil => exact ⟨rfl, rfl⟩
  | snoc h hs ih =>
   have e := GrpS.headg hs;exact ⟨e.1.trans ih.1, e.2.trans ih.2⟩
 obtain ⟨e1, e2⟩ := hst hgr
 have hhl : (ya_ hh 0).length = hh := by simp [ya_]
 refine ⟨⟨by show β.g.name.size ≤ 100; rw [e1]; exact (by decide : 2 ≤ 100), by show β.g.tags.length ≤ 4; rw [e2]; exact (qX_ htags).1, fun t ht => (qX_ htags).2 t (by rw [← show β.g.tags = tags from e2]; exact ht), by show 1 ≤ β.g.disks.length ∧ β.g.disks.length ≤ 4; rw [hkp.1]; exact ⟨hd1, hd4⟩, by show β.g.vols.length ≤ 40; omega, by show (ya_ hh 0).length ≤ 40; omega, fun x hx => ?_, fun d hd => ?_, fun v hv => (hvk v hv).1⟩, by show (ya_ hh 0).length ≤ 10; omega, by show β.g.vols.length ≤ 30; omega, fun v hv => (hvk v hv).2⟩
 ·have hx' : x ∈ ya_ hh 0 := hx
  unfold ya_ at hx';obtain ⟨q, _, rfl⟩ := List.mem_map.1 hx';exact (by decide : 3 ≤ 100)
 ·have hd' : d ∈ β.g.disks := hd
  rw [hkp.1] at hd';obtain ⟨h1, h6⟩ := hdn d hd';exact ⟨h1, (qX_ h6).1, (qX_ h6).2⟩
def Xh_ (vs : List Vo) (n : ByteArray) : Option Vo := vs.find? fun v => decide (v.name = n)
theorem kz_ (vs : List Vo) (n : ByteArray) : zo_ vs n = (Xh_ vs n).map zY_ := rfl
open Go.RowKit Go.Maps
set_option maxRecDepth 100000
section
variable {w w' : World} {b n : Nat} {L : List ByteArray}
end
def cntA : List Sg → Nat
 | [] => 0
 | s :: l => s.areas.length + cntA l
open Classical in
structure NdB (γ : Gr) : Prop where
 lk : LkB γ.vols
 sz : ∀ v ∈ γ.vols, SzV v
 cnt : ∀ v ∈ γ.vols, cntA v.segs ≤ 1000
 few : γ.vols.length ≤ 1000
 use : ∀ v ∈ γ.vols, ∀ s ∈ zY_ v, s.size ≤ 1000000
 on : ∀ v ∈ γ.vols, ∀ s ∈ v.segs, ∀ a ∈ s.areas, a.on.size ≤ 1000000
 disks : γ.disks.length ≤ 1000000
 dname : ∀ d ∈ γ.disks, d.name.size ≤ 1000000
def hd0 (s : ByteArray) : Option UInt8 := s.data[0]?
def namesV (vs : List Vo) : List ByteArray := vs.map (·.name)
theorem namesV_append (a b : List Vo) : namesV (a ++ b) = namesV a ++ namesV b := by simp [namesV]
structure NewN (name : ByteArray) (vs vs' : List Vo) : Prop where
 add : ∃ ws, namesV vs' = namesV vs ++ ws ∧ ws.Nodup ∧ ∀ s ∈ ws, hd0 s = hd0 name
theorem NewN.none {name : ByteArray} {vs vs' : List Vo} (h : namesV vs' = namesV vs) : NewN name vs vs' := ⟨⟨[], by simp [h], by simp, by simp⟩⟩
theorem Xt_ {a b : ByteArray} (h : a.data.toList = b.data.toList) : a = b := by
 obtain ⟨⟨l⟩⟩ := a
 obtain ⟨⟨m⟩⟩ := b
 simp only at h
 subst h
 rfl
theorem ba_toList (a b : ByteArray) : (a ++ b).data.toList = a.data.toList ++ b.data.toList := by simp
theorem ZR_ {a b : ByteArray} (h : 0 < a.size) : hd0 (a ++ b) = hd0 a := by
 unfold hd0
 have e : ∀ c : ByteArray, c.data[0]? = c.data.toList[0]? := fun c => by simp
 rw [e, e, ba_toList, List.getElem?_append_left (by simpa using h)]
theorem QV_ {a b c : ByteArray} (h : a ++ b = a ++ c) : b = c := by
 have h2 := congrArg (fun s : ByteArray => s.data.toList) h
 simp only [ba_toList] at h2
 exact Xt_ (List.append_cancel_left h2)
def sufN (name : ByteArray) (l : List ByteArray) : List ByteArray := l.map (name ++ ·)
theorem qY_ {name : ByteArray} {l : List ByteArray} (h : l.Nodup) : (sufN name l).Nodup := by
 unfold sufN
 refine List.Pairwise.map _ (fun a b hab e => hab (QV_ e)) h
theorem Yv_ {name : ByteArray} {l : List ByteArray} (hn : 0 < name.size) : ∀ s ∈ sufN name l, hd0 s = hd0 name := fun s hs => by
 unfold sufN at hs
 obtain ⟨t, _, rfl⟩ := List.mem_map.1 hs
 exact ZR_ hn
theorem jF_ (a : ByteArray) : a ++ (⟨#[]⟩ : ByteArray) = a := Xt_ (by simp)
def legS (i : Nat) : ByteArray := ⟨#[95, 108, 101, 103]⟩ ++ digB i
theorem Ze_ (a b c : ByteArray) : a ++ b ++ c = a ++ (b ++ c) := Xt_ (by simp)
theorem k4_ (name : ByteArray) (i : Nat) : legN name i = name ++ legS i := by unfold legN legS; rw [Ze_]
theorem Yq_ (name : ByteArray) (i : Nat) : yV_ name i = name ++ (⟨#[116]⟩ ++ digB i) := by unfold yV_; rw [Ze_]
theorem LinR.names {β β' : Be} {name : ByteArray} {hid : Bool} {n : Int} {ok : Bool} (h : LinR β name hid n ok β') : namesV β'.g.vols = namesV β.g.vols ++ (if ok then [name] else []) := by
 obtain ⟨rfl, rfl⟩ | ⟨rfl, d, a, β2, hr, rfl⟩ := h
 ·simp [zK_]
 ·show namesV (β2.g.vols ++ [zP_ name (idB β) hid n a]) = _
  rw [hr.g, namesV_append];rfl
theorem LinsR.names {l : List (ByteArray × Int)} {β β' : Be} (h : LinsR l β β') : namesV β'.g.vols = namesV β.g.vols ++ l.map Prod.fst := by
 induction h with
 | nil => simp
 | snoc h hr ih => rw [hr.names, ih]; simp
theorem HidR.names {l : List (ByteArray × Int)} {β β' : Be} {ok : Bool} (h : HidR β l ok β') : namesV β'.g.vols = namesV β.g.vols ++ (if ok then l.map Prod.fst else []) := by
 obtain ⟨rfl, h⟩ | ⟨rfl, m, _, _, rfl⟩ := h
 ·rw [h.names]; rfl
 ·simp
theorem ThinsR.names {name : ByteArray} {i0 i : Nat} {β β' : Be} (h : ThinsR name i0 i β β') : i ≤ i0 ∧ namesV β'.g.vols = namesV β.g.vols ++ (List.range (i0 - i)).map (fun q => yV_ name (i0 - q)) := by
 induction h with
 | nil β => exact ⟨Nat.le_refl _, by simp⟩
 | @snoc i β β1 z h hz hv ih =>
  obtain ⟨h1, h2⟩ := ih;refine ⟨by omega, ?_⟩;have e : ((zK_ β1).add (xb_ name (idB β1) (i + 1) z)).g.vols = β1.g.vols ++ [xb_ name (idB β1) (i + 1) z] := rfl;rw [e, namesV_append, h2, show i0 - i = (i0 - (i + 1)) + 1 by omega, List.range_succ, List.map_append, ← List.append_assoc];congr 1
  simp only [List.map_cons, List.map_nil];rw [show i0 - (i0 - (i + 1)) = i + 1 by omega];rfl
theorem CmpX.sufx {name : ByteArray} {kind e n : Int} {l : List (ByteArray × Int)} {x : Sg} (h : CmpX name kind e n l x) : ∃ m : List ByteArray, l.map Prod.fst = sufN name m ∧ (m ++ [(⟨#[]⟩ : ByteArray)] ++ [(⟨#[116]⟩ : ByteArray) ++ digB 2, (⟨#[116]⟩ : ByteArray) ++ digB 1]).Nodup := by
 obtain ⟨_, k, c, lg, st, h2, h3, _, _, hst, rfl, _⟩ | ⟨_, k, c, h3, h4, _, rfl, _⟩ | ⟨_, m, c, h1, h3, _, _, rfl, _⟩ | ⟨_, d, c, m, h1, h2, _, _, _, _, rfl, _⟩ := h
 ·refine ⟨(List.range k).map legS ++ (if lg then [⟨#[95, 108, 111, 103]⟩] else []), ?_, ?_⟩
  ·rw [List.map_fst_zip (by cases lg <;> simp [zj_])]
   unfold sufN;rw [List.map_append];congr 1
   ·unfold zJ_
    rw [List.map_map];exact List.map_congr_left (fun i _ => k4_ name i)
   ·cases lg <;> rfl
  ·rcases (show k = 2 ∨ k = 3 by omega) with rfl | rfl <;> cases lg <;> decide
 ·refine ⟨(List.range k).map legS, ?_, ?_⟩
  ·rw [List.map_fst_zip (by simp [zj_])]
   unfold sufN zJ_;rw [List.map_map];exact List.map_congr_left (fun i _ => k4_ name i)
  ·rcases (show k = 3 ∨ k = 4 by omega) with rfl | rfl <;> decide
 ·exact ⟨[⟨#[95, 109, 101, 116, 97]⟩, ⟨#[95, 100, 97, 116, 97]⟩], rfl, by decide⟩
 ·exact ⟨[⟨#[95, 108, 101, 103, 48]⟩, ⟨#[95, 100, 97, 116, 97]⟩, ⟨#[95, 109, 101, 116, 97]⟩], rfl, by decide⟩
theorem Yo_ {i0 i : Nat} (h : i0 ≤ 2) : ((List.range (i0 - i)).map fun q => (⟨#[116]⟩ : ByteArray) ++ digB (i0 - q)).Sublist [(⟨#[116]⟩ : ByteArray) ++ digB 2, (⟨#[116]⟩ : ByteArray) ++ digB 1] := by
 rcases (show i0 = 0 ∨ i0 = 1 ∨ i0 = 2 by omega) with rfl | rfl | rfl
 ·simp
 ·rcases (show i = 0 ∨ 1 ≤ i by omega) with rfl | hi
  ·simp
  ·rw [show 1 - i = 0 by omega]; simp
 ·rcases (show i = 0 ∨ i = 1 ∨ 2 ≤ i by omega) with rfl | rfl | hi
  ·simp [List.range_succ]
  ·simp [List.range_succ]
  ·rw [show 2 - i = 0 by omega]; simp
theorem CompR.names {β β' : Be} {name : ByteArray} {kind : Int} (h : CompR β name kind β') (hn : 0 < name.size) : NewN name β.g.vols β'.g.vols := by
 obtain ⟨n, l, x, h1, h3, hx, hr⟩ := h
 obtain ⟨m, hm, hnd⟩ := hx.sufx
 have hcmp : ∀ (β1 : Be) (ro : Bool) (tags : List ByteArray), HidR β l true β1 → namesV ((zK_ β1).add (yc_ name (idB β1) ro tags x)).g.vols = namesV β.g.vols ++ sufN name (m ++ [(⟨#[]⟩ : ByteArray)]) := fun β1 ro tags hr => by
  have e : ((zK_ β1).add (yc_ name (idB β1) ro tags x)).g.vols = β1.g.vols ++ [yc_ name (idB β1) ro tags x] := rfl;rw [e, namesV_append, hr.names, if_pos rfl, hm, List.append_assoc];congr 1
  unfold sufN;rw [List.map_append];congr 1
  simp only [List.map_cons, List.map_nil];rw [jF_];rfl
 rcases hr with hr | ⟨β1, ro, tags, hr, _, ⟨_, rfl⟩ | ⟨_, i0, i, hi, ht⟩⟩
 ·exact .none (by rw [hr.names]; simp)
 ·exact ⟨⟨_, hcmp β1 ro tags hr, qY_ (List.nodup_append.1 hnd).1, Yv_ hn⟩⟩
 ·refine ⟨⟨sufN name (m ++ [(⟨#[]⟩ : ByteArray)] ++ (List.range (i0 - i)).map fun q => (⟨#[116]⟩ : ByteArray) ++ digB (i0 - q)), ?_, qY_ (hnd.sublist ((List.Sublist.refl _).append (Yo_ hi))), Yv_ hn⟩⟩
  have e : (List.range (i0 - i)).map (fun q => yV_ name (i0 - q)) = sufN name ((List.range (i0 - i)).map fun q => (⟨#[116]⟩ : ByteArray) ++ digB (i0 - q)) := by
   unfold sufN;rw [List.map_map];exact List.map_congr_left (fun q _ => Yq_ name (i0 - q))
  rw [ht.names.2, hcmp β1 ro tags hr, List.append_assoc, e];congr 1
  unfold sufN;rw [List.map_append (l₁ := m ++ _)]
theorem GrpS.names {β β' : Be} {name : ByteArray} (h : GrpS β name β') (hn : 0 < name.size) : NewN name β.g.vols β'.g.vols := by
 have hone : ∀ vs : List Vo, namesV vs = namesV β.g.vols ++ [name] → NewN name β.g.vols vs := fun vs e => ⟨⟨[name], e, by simp, by simp⟩⟩
 obtain ⟨n, _, _, h⟩ | ⟨n, d, a, β1, k, β2, l', _, _, h1, hk, h2, rfl⟩ | h | ⟨kind, _, h⟩ := h
 ·exact .none (by rw [h.names]; simp)
 ·refine hone _ ?_
  have hvs : β2.g.vols = β.g.vols ++ [zP_ name (idB β) false n a] := by
   rw [h2.g.1];show β1.g.vols ++ [_] = _
   rw [h1.g]; rfl
  show namesV (β2.g.vols.dropLast ++ [({ zP_ name (idB β) false n a with segs := l' } : Vo)]) = _
  rw [hvs, List.dropLast_concat, namesV_append];rfl
 ·obtain ⟨n, k, l, h, _⟩ | ⟨k, n, l, β1, h2, h3, _, _, h, rfl⟩ := h
  ·exact .none (by rw [h.g])
  ·refine hone _ ?_
   show namesV (β1.g.vols ++ [Zs_ name (idB β1) k n l]) = _
   rw [namesV_append, h.g];rfl
 ·exact h.names hn
theorem Qx_ (i : Nat) : hd0 (nmG i) = some (97 + i).toUInt8 := rfl
theorem GrpsR.names {i0 i : Nat} {β β' : Be} (h : GrpsR i0 i β β') (hi0 : i0 ≤ 4) (h0 : β.g.vols = []) : i ≤ i0 ∧ (namesV β'.g.vols).Nodup ∧ ∀ s ∈ namesV β'.g.vols, ∃ j, i < j ∧ j ≤ i0 ∧ hd0 s = some (97 + j).toUInt8 := by
 induction h with
 | nil => exact ⟨Nat.le_refl _, by rw [h0]; simp [namesV], by rw [h0]; simp [namesV]⟩
 | @snoc i β β1 β2 h hs ih =>
  obtain ⟨h1, h2, h3⟩ := ih h0;obtain ⟨ws, e, hw, hh⟩ := (hs.names (by show 0 < 1; decide)).add;refine ⟨by omega, ?_, fun s hs => ?_⟩
  ·rw [e]
   refine List.nodup_append.2 ⟨h2, hw, fun a ha b hb eab => ?_⟩;obtain ⟨j, j1, j2, j3⟩ := h3 a ha;have h4 := hh b hb;rw [← eab, j3, Qx_] at h4;injection h4 with h4;have h5 := congrArg UInt8.toNat h4;simp at h5;omega
  ·rw [e] at hs
   rcases List.mem_append.1 hs with hs | hs
   ·obtain ⟨j, j1, j2, j3⟩ := h3 s hs
    exact ⟨j, by omega, j2, j3⟩
   ·exact ⟨i + 1, by omega, by omega, by rw [hh s hs, Qx_]⟩
theorem GrpR.names {γ : Gr} (h : GrpR γ) : (namesV γ.vols).Nodup := by
 obtain ⟨id, seq, ext, tags, disks, n0, β, hh, _, _, _, _, hext, htags, hd1, hd4, hdk, hn0, hgr, hh2, rfl⟩ := h
 exact (hgr.names hn0 rfl).2.1
section
variable {vs : List Vo} {ds : List Dk} {v : Vo}
theorem xl_ : ∀ {vs : List Vo} {v : Vo}, (namesV vs).Nodup → v ∈ vs → Xh_ vs v.name = some v
 | [], v, _, h => by cases h
 | u :: vs, v, hn, h => by
  have hn' : u.name ∉ namesV vs ∧ (namesV vs).Nodup := by simpa [namesV] using hn
  unfold Xh_;by_cases e : u.name = v.name
  ·rw [List.find?_cons_of_pos (by simp [e])]
   rcases List.mem_cons.1 h with h | h
   ·rw [h]
   ·exact absurd (e ▸ List.mem_map_of_mem h : u.name ∈ namesV vs) hn'.1
  ·rw [List.find?_cons_of_neg (by simp [e])]
   rcases List.mem_cons.1 h with h | h
   ·exact absurd (by rw [h]) e
   ·exact xl_ hn'.2 h
theorem y8_ (hn : (namesV vs).Nodup) (hv : v ∈ vs) : zo_ vs v.name = some (zY_ v) := by rw [kz_, xl_ hn hv]; rfl
theorem X7_ {x : ByteArray} : zo_ vs x ≠ none ↔ ∃ v ∈ vs, v.name = x := by
 constructor
 ·intro h
  cases e : zo_ vs x with
  | none => exact absurd e h
  | some l => obtain ⟨v, hv, e, _⟩ := yp_ e; exact ⟨v, hv, e⟩
 ·rintro ⟨v, hv, e⟩ h
  exact ZL_.1 h v hv e
open Classical in
theorem ZI_ {name x : ByteArray} : x ∈ belowR vs name ↔ Rch (zo_ vs) name x := by
 unfold belowR
 rw [j1_]
 constructor
 ·exact fun h => of_decide_eq_true h.1
 ·exact fun h => ⟨decide_eq_true h, X7_.1 h.key⟩
open Classical in
theorem ZG_ {name x : ByteArray} : x ∈ xp_ vs name ↔ name ∈ (zo_ vs x).getD [] ∧ ∃ v ∈ vs, v.name = x := by
 unfold xp_
 rw [j1_]
 exact ⟨fun h => ⟨of_decide_eq_true h.1, h.2⟩, fun h => ⟨decide_eq_true h.1, h.2⟩⟩
theorem Y5_ (hn : (namesV vs).Nodup) (hv : v ∈ vs) {n : ByteArray} : n ∈ zY_ v ↔ v.name ∈ xp_ vs n := by
 rw [ZG_, y8_ hn hv]
 exact ⟨fun h => ⟨h, v, hv, rfl⟩, fun h => h.1⟩
end
theorem Yb_ (s : Sg) : (usesS s).length ≤ s.areas.length + 2 := by
 rw [je_]
 have := yC_ s.areas
 simp only [List.length_append]
 split <;> split <;> simp <;> omega
theorem kL_ : ∀ {l : List Sg} {m : Nat}, (∀ s ∈ l, s.areas.length ≤ m) → (zE_ l).length ≤ l.length * (m + 2)
 | [], m, _ => by simp [zE_]
 | s :: l, m, h => by
  have h1 := Yb_ s;have h2 := h s (by simp);have h3 := kL_ (l := l) (m := m) (fun t ht => h t (by simp [ht]));have e : zE_ (s :: l) = usesS s ++ zE_ l := by simp [zE_]
  rw [e, List.length_append, List.length_cons, Nat.succ_mul];omega
theorem Xo_ : ∀ {l : List Sg} {m : Nat}, (∀ s ∈ l, s.areas.length ≤ m) → cntA l ≤ l.length * m
 | [], m, _ => by simp [cntA]
 | s :: l, m, h => by
  have h2 := h s (by simp);have h3 := Xo_ (l := l) (m := m) (fun t ht => h t (by simp [ht]));rw [cntA, List.length_cons, Nat.succ_mul];omega
theorem XF_ {s : Sg} (h : BdS s) : ∀ x ∈ usesS s, x.size ≤ 100 := fun x hx => by
 rw [je_] at hx
 simp only [List.mem_append] at hx
 rcases hx with (hx | hx) | hx
 ·unfold zQ_ at hx
  obtain ⟨a, ha, rfl⟩ := List.mem_map.1 hx;exact h.on a (List.mem_filter.1 ha).1
 ·split at hx
  ·cases hx
  ·simp at hx; rw [hx]; exact h.log
 ·split at hx
  ·cases hx
  ·simp at hx; rw [hx]; exact h.pool
theorem kU_ (m : Nat) : ∀ {vs : List Vo}, (∀ v ∈ vs, (zY_ v).length ≤ m) → yx_ vs [] ≤ vs.length * m
 | [], _ => by simp [yx_]
 | v :: vs, h => by
  have h1 := h v (by simp);have h2 := kU_ m (vs := vs) (fun u hu => h u (by simp [hu]));rw [yx_, if_neg (by simp), List.length_cons, Nat.succ_mul];omega
theorem BdV.uses {v : Vo} (h : BdV v) : (zY_ v).length ≤ 24 := by
 have h1 := kL_ (l := v.segs) (m := 6) (fun s hs => (h.seg s hs).areas)
 have h2 := h.segs
 show (zE_ v.segs).length ≤ 24
 omega
theorem BdG.nd {γ : Gr} (h : BdG γ) : NdB γ := by
 have h1 := h.vols
 have h2 := h.disks.2
 refine ⟨⟨by omega, fun v hv => ?_, fun v hv => ?_, ?_⟩, fun v hv => ?_, fun v hv => ?_, by omega, fun v hv s hs => ?_, fun v hv s hs a ha => ?_, by omega, fun d hd => ?_⟩
 ·have hb := h.vol v hv
  exact ⟨by have := hb.segs; omega, fun s hs => by have := (hb.seg s hs).areas; omega, by have := hb.uses; omega⟩
 ·have := (h.vol v hv).name; omega
 ·have := kU_ 24 (vs := γ.vols) (fun v hv => (h.vol v hv).uses); omega
 ·have hb := h.vol v hv
  exact ⟨by have := hb.tags; omega, by have := hb.segs; omega, fun s hs => ⟨by have := (hb.seg s hs).areas; omega, by have := (hb.seg s hs).stale; omega⟩⟩
 ·have hb := h.vol v hv
  have := Xo_ (l := v.segs) (m := 6) (fun s hs => (hb.seg s hs).areas);have := hb.segs;omega
 ·have hb := h.vol v hv
  have hs' : s ∈ zE_ v.segs := hs;unfold zE_ at hs';obtain ⟨m, hm, hx⟩ := List.mem_flatten.1 hs';obtain ⟨t, ht, rfl⟩ := List.mem_map.1 hm;have := XF_ (hb.seg t ht) s hx;omega
 ·have := ((h.vol v hv).seg s hs).on a ha; omega
 ·have := (h.disk d hd).name; omega
theorem LR.lo {α : Type} {w : World} {S : Nat → Prop} {size : Nat} {a a' : Addr → α → Prop} {v : Value} {l : List α} (h : LR w S size a v l) (f : ∀ p x, p.block < w.heap.size → a p x → a' p x) : LR w (Lo w) size a' v l := by
 obtain ⟨A, c, e, hc, hh⟩ := h
 refine ⟨A, c, e, hc, fun h0 => ?_⟩
 obtain ⟨ad, ea, _, hlt, hcell⟩ := hh h0
 exact ⟨ad, ea, hlt, hlt, fun k x hk => f _ _ (by rw [zl_]; exact hlt) (hcell k x hk)⟩
theorem AtDk.lo {w : World} {S : Nat → Prop} {p : Addr} {x : Dk} (h : AtDk w S p x) : AtDk w (Lo w) p x := by
 obtain ⟨v0, hc, h0⟩ := h
 exact ⟨v0, hc, h0.lo (fun _ _ _ h => h)⟩
theorem AtSg.lo {w : World} {S : Nat → Prop} {p : Addr} {x : Sg} (h : AtSg w S p x) : AtSg w (Lo w) p x := by
 obtain ⟨v0, v1, hc, h0, h1⟩ := h
 exact ⟨v0, v1, hc, h0.lo (fun _ _ _ h => h), h1.lo (fun _ _ _ h => h)⟩
theorem AtVo.lo {w : World} {S : Nat → Prop} {p : Addr} {x : Vo} (h : AtVo w S p x) : AtVo w (Lo w) p x := by
 obtain ⟨v0, v1, hc, h0, h1⟩ := h
 exact ⟨v0, v1, hc, h0.lo (fun _ _ _ h => h), h1.lo (fun _ _ _ h => h.lo)⟩
theorem gl_of {w : World} {S0 S1 S2 S3 : Nat → Prop} {g : Gr} {A0 A1 A2 A3 : Option Addr} {c0 c1 c2 c3 : Nat} (kt : TL w S0 (.slice A0 g.tags.length c0) g.tags) (kd : DL w S1 (.slice A1 g.disks.length c1) g.disks) (kv : VL w S2 (.slice A2 g.vols.length c2) g.vols) (km : ML w S3 (.slice A3 g.hist.length c3) g.hist) (hs : Suf w) (hl : g.disks.length ≤ maxLen ∧ g.vols.length ≤ maxLen ∧ g.hist.length ≤ maxLen) : GL w g A0 A1 A2 A3 c0 c1 c2 c3 :=
 ⟨kt.lo (fun _ _ _ h => h), kd.lo (fun _ _ _ h => h.lo), kv.lo (fun _ _ _ h => h.lo), km.lo (fun _ _ _ h => h), hs, hl⟩
theorem BdG.inB {γ : Gr} (h : BdG γ) : InB γ := by
 refine ⟨⟨?_, fun x hx => ?_, fun x hx => ?_, fun x hx => ?_⟩, fun d hd => ?_, fun v hv => ?_, fun v hv s hs => ?_⟩
 ·have := h.name; omega
 ·have := h.histz x hx; omega
 ·have := (h.disk x hx).name; omega
 ·have := (h.vol x hx).name; omega
 ·have := (h.disk d hd).name; omega
 ·have := (h.vol v hv).name; omega
 ·have := ((h.vol v hv).seg s hs).stale; omega
structure GW (w : World) (γ : Gr) (A0 A1 A2 A3 : Option Addr) (c0 c1 c2 c3 : Nat) (gb : Nat) : Prop where
 vl : VL w (fun _ => True) (.slice A2 γ.vols.length c2) γ.vols
 dl : DL w (fun _ => True) (.slice A1 γ.disks.length c1) γ.disks
 blk : Blk w gb 31 (grX γ A0 c0 A1 c1 A2 c2 A3 c3)
 nd : NdB γ
 nm : (namesV γ.vols).Nodup
theorem GW.up {w w' : World} {γ : Gr} {A0 A1 A2 A3 : Option Addr} {c0 c1 c2 c3 gb : Nat} (h : GW w γ A0 A1 A2 A3 c0 c1 c2 c3 gb) (hb : Bel w w') : GW w' γ A0 A1 A2 A3 c0 c1 c2 c3 gb := ⟨h.vl.up hb, h.dl.up hb, h.blk.below hb h.blk.lt, h.nd, h.nm⟩
theorem kZ_ {W : World} {g : Nat} {T : TypeId} {v0 v1 v2 v3 v4 v5 v6 v7 v8 : Value} (h : Blk W g T #[v0, v1, v2, v3, v4, v5, v6, v7, v8]) : W.cell? ⟨g, 0, none⟩ = some v0 ∧ W.cell? ⟨g, 1, none⟩ = some v1 ∧ W.cell? ⟨g, 2, none⟩ = some v2 ∧ W.cell? ⟨g, 3, none⟩ = some v3 ∧ W.cell? ⟨g, 4, none⟩ = some v4 ∧ W.cell? ⟨g, 5, none⟩ = some v5 ∧ W.cell? ⟨g, 6, none⟩ = some v6 ∧ W.cell? ⟨g, 7, none⟩ = some v7 ∧ W.cell? ⟨g, 8, none⟩ = some v8 :=
 ⟨by rw [h.cell 0]; rfl, by rw [h.cell 1]; rfl, by rw [h.cell 2]; rfl, by rw [h.cell 3]; rfl, by rw [h.cell 4]; rfl, by rw [h.cell 5]; rfl, by rw [h.cell 6]; rfl, by rw [h.cell 7]; rfl, by rw [h.cell 8]; rfl⟩
end Go.Proofs.YtdkcfgahdcpkkaaDoor
