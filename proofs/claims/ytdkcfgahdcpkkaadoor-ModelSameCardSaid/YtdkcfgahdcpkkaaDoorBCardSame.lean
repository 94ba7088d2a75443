/- ModelSame returns true at every input and leaves its arguments alone. No conditions. -/
import Derived.Test.YtdkcfgahdcpkkaaDoorBMkGrpP
import Derived.Test.YtdkcfgahdcpkkaaDoorBSp0
import Derived.Test.YtdkcfgahdcpkkaaDoorBAwake
import Derived.LaidMore
import Derived.Stop.Joined
import Derived.Test.YtdkcfgahdcpkkaaDoorBSp1
import Derived.Test.YtdkcfgahdcpkkaaDoorBRSame3
import Derived.Test.YtdkcfgahdcpkkaaDoorBMkGrp1
import Derived.Test.YtdkcfgahdcpkkaaDoorTie
import Derived.Test.YtdkcfgahdcpkkaaDoorCards
import Derived.SevenTiedAt
set_option linter.all false
set_option linter.unusedVariables false
set_option linter.unusedSimpArgs false
namespace Go.Proofs.YtdkcfgahdcpkkaaDoor
open Go.RowKit
set_option maxRecDepth 100000
def SOk (s : Sg) : Prop := BdS s ∧ s.areas.length ≤ 5
def VOk (v : Vo) : Prop := BdV v ∧ ∀ s ∈ v.segs, s.areas.length ≤ 5
theorem VOk.of {v : Vo} (h1 : v.name.size ≤ 100) (h2 : v.tags.length ≤ 4) (h3 : ∀ t ∈ v.tags, t.size ≤ 100) (h4 : v.segs.length ≤ 3) (h5 : ∀ s ∈ v.segs, SOk s) : VOk v :=
 ⟨⟨h1, h2, h3, h4, fun s hs => (h5 s hs).1⟩, fun s hs => (h5 s hs).2⟩
/-- volumes that are new are small -/
def New (β β' : Be) : Prop := ∀ v ∈ β'.g.vols, v ∈ β.g.vols ∨ VOk v
theorem New.refl (β : Be) : New β β := fun _ h => .inl h
theorem New.trans {β β1 β2 : Be} (h : New β β1) (h' : New β1 β2) : New β β2 := fun v hv => (h' v hv).elim (h v) .inr
theorem New.same {β β' : Be} (h : β'.g.vols = β.g.vols) : New β β' := fun v hv => .inl (h ▸ hv)
theorem New.add {β : Be} {x : Vo} (h : VOk x) : New β (β.add x) := fun v hv => by
 have hv' : v ∈ β.g.vols ++ [x] := hv
 rcases List.mem_append.1 hv' with hv' | hv'
 ·exact .inl hv'
 ·simp at hv'; subst hv'; exact .inr h
def Dn (β : Be) : Prop := ∀ d ∈ β.g.disks, d.name.size ≤ 100
theorem Dn.keep {β β' : Be} (h : Dn β) (hk : KeepG β β') : Dn β' := fun d hd => h d (hk.1 ▸ hd)
theorem AreaR.on {β β' : Be} {d : Nat} {n : Int} {a : Ar} (h : AreaR β d n (some a) β') (hd : Dn β) : a.on.size ≤ 100 := by
 obtain ⟨dk, z, h1, _, ⟨e, _⟩ | ⟨_, _, _, _, e, _⟩⟩ := h
 ·cases e
 ·injection e with e; subst e; exact hd dk (List.mem_of_getElem? h1)
theorem sok_of {a b c d e f g : Int} {l : List Ar} {st : List Int} {lg pl : ByteArray} (h1 : l.length ≤ 5) (h2 : st.length ≤ 3) (h3 : ∀ x ∈ l, x.on.size ≤ 100) (h4 : lg.size ≤ 100) (h5 : pl.size ≤ 100) : SOk ⟨a, b, c, l, d, st, lg, pl, e, f, g⟩ :=
 ⟨⟨by show l.length ≤ 6; omega, h2, h3, h4, h5⟩, h1⟩
theorem lin_ok {name : ByteArray} {id n : Int} {hid : Bool} {a : Ar} (hn : name.size ≤ 100) (ha : a.on.size ≤ 100) : VOk (linVo name id hid n a) :=
 .of hn (Nat.zero_le _) (fun t ht => by cases ht) (by show 1 ≤ 3; decide) (fun s hs => by
  have hs' : s ∈ [linSeg n a] := hs
  simp at hs'; subst hs'
  exact sok_of (by simp) (Nat.zero_le _) (fun x hx => by simp at hx; subst hx; exact ha) (by decide) (by decide))
theorem LinR.new {β β' : Be} {name : ByteArray} {hid : Bool} {n : Int} {ok : Bool} (h : LinR β name hid n ok β') (hd : Dn β) (hn : name.size ≤ 100) : New β β' := by
 obtain ⟨_, rfl⟩ | ⟨_, d, a, β2, hr, rfl⟩ := h
 ·exact .same rfl
 ·exact (New.same (β := β) (β' := β2) (by rw [hr.g]; rfl)).trans (.add (lin_ok hn (hr.on (fun d hd' => hd d hd'))))
theorem LinsR.keep {l : List (ByteArray × Int)} {β β' : Be} (h : LinsR l β β') : KeepG β β' := by
 induction h with
 | nil => exact ⟨rfl, rfl⟩
 | snoc _ hr ih => exact ih.trans hr.keep
theorem LinsR.new {l : List (ByteArray × Int)} {β β' : Be} (h : LinsR l β β') (hd : Dn β) (hn : ∀ z ∈ l, z.1.size ≤ 100) : New β β' := by
 induction h with
 | nil => exact .refl _
 | snoc h hr ih => exact (ih hd (fun z hz => hn z (List.mem_append_left _ hz))).trans (hr.new (hd.keep h.keep) (hn (_, _) (List.mem_append_right _ (List.mem_singleton.2 rfl))))
theorem HidR.new {l : List (ByteArray × Int)} {β β' : Be} {ok : Bool} (h : HidR β l ok β') (hd : Dn β) (hn : ∀ z ∈ l, z.1.size ≤ 100) : New β β' := by
 obtain ⟨_, h⟩ | ⟨_, m, _, _, rfl⟩ := h
 ·exact h.new hd hn
 ·exact .same rfl
theorem AreasR.on {n : Int} {k : Nat} {β β' : Be} {l : List Ar} (h : AreasR n k β l β') (hd : Dn β) : l.length = k ∧ ∀ x ∈ l, x.on.size ≤ 100 := by
 induction h with
 | nil => exact ⟨rfl, fun x hx => by cases hx⟩
 | @snoc k β β1 β2 l a h hr ih =>
  obtain ⟨h1, h2⟩ := ih hd
  have hg := h.g
  refine ⟨by simp [h1], fun x hx => ?_⟩
  rcases List.mem_append.1 hx with hx | hx
  ·exact h2 x hx
  ·simp at hx; subst hx; exact hr.on (fun d hd' => hd d (by rw [← hg]; exact hd'))
theorem StrR.new {β β' : Be} {name : ByteArray} (h : StrR β name β') (hd : Dn β) (hn : name.size ≤ 100) : New β β' := by
 obtain ⟨n, k, l, h⟩ | ⟨k, n, l, β1, h2, h3, _, _, h, rfl⟩ := h
 ·exact .same (by rw [h.g])
 ·obtain ⟨e1, e2⟩ := h.on hd
  refine (New.same (β := β) (β' := nextB β1) (by show β1.g.vols = _; rw [h.g])).trans (.add (.of hn (Nat.zero_le _) (fun t ht => by cases ht) (by show 1 ≤ 3; decide) (fun s hs => ?_)))
  have hs' : s = ⟨0, k * n, 2, l, 1, [], ⟨#[]⟩, ⟨#[]⟩, 0, 0, 0⟩ := by simpa [strVo] using hs
  subst hs'
  exact sok_of (by omega) (Nat.zero_le _) e2 (by decide) (by decide)
theorem legN_size (name : ByteArray) (i : Nat) : (legN name i).size = name.size + 5 := by simp [legN, digB, ByteArray.size_append]; rfl
theorem mem_areasN {x : Ar} {l : List ByteArray} (h : x ∈ areasN l) : x.on ∈ l := by
 unfold areasN at h
 obtain ⟨s, hs, rfl⟩ := List.mem_map.1 h
 exact hs
theorem mem_legsN {s : ByteArray} {name : ByteArray} {k : Nat} (h : s ∈ legsN name k) : s.size = name.size + 5 := by
 unfold legsN at h
 obtain ⟨i, _, rfl⟩ := List.mem_map.1 h
 exact legN_size name i
theorem areasN_len (l : List ByteArray) : (areasN l).length = l.length := by simp [areasN]
theorem part_size (name : ByteArray) : (leg0N name).size = name.size + 5 ∧ (logN name).size = name.size + 4 ∧ (metaN name).size = name.size + 5 ∧ (dataN name).size = name.size + 5 := by
 refine ⟨?_, ?_, ?_, ?_⟩ <;> simp [leg0N, logN, metaN, dataN, ByteArray.size_append] <;> rfl
theorem CmpX.sok {name : ByteArray} {kind e n : Int} {l : List (ByteArray × Int)} {x : Sg} (h : CmpX name kind e n l x) (hn : name.size ≤ 50) : SOk x ∧ ∀ z ∈ l, z.1.size ≤ 100 := by
 obtain ⟨q1, q2, q3, q4⟩ := part_size name
 obtain ⟨_, k, c, lg, st, h2, h3, _, _, hst, rfl, rfl⟩ | ⟨_, k, c, h3, h4, _, rfl, rfl⟩ | ⟨_, m, c, h1, h3, _, _, rfl, rfl⟩ | ⟨_, d, c, m, h1, h2, _, _, _, _, rfl, rfl⟩ := h
 ·refine ⟨sok_of (by rw [areasN_len, legsN_len]; omega) ?_ (fun x hx => ?_) ?_ (by decide), fun z hz => ?_⟩
  ·rcases hst with rfl | ⟨z, _, _, rfl⟩ <;> simp
  ·have := mem_legsN (mem_areasN hx); omega
  ·cases lg
   ·exact Nat.zero_le _
   ·show (logN name).size ≤ 100; omega
  ·have hz1 := (List.of_mem_zip hz).1
   rcases List.mem_append.1 hz1 with h | h
   ·have := mem_legsN h; omega
   ·cases lg
    ·cases h
    ·simp at h; rw [h]; omega
 ·refine ⟨sok_of (by rw [areasN_len, legsN_len]; omega) (Nat.zero_le _) (fun x hx => ?_) (by decide) (by decide), fun z hz => ?_⟩
  ·have := mem_legsN (mem_areasN hx); omega
  ·have := mem_legsN (List.of_mem_zip hz).1; omega
 ·refine ⟨sok_of (by simp [areasN]) (Nat.zero_le _) (fun x hx => ?_) (by decide) (by decide), fun z hz => ?_⟩
  ·have := mem_areasN hx
   simp at this
   rcases this with e | e <;> rw [e] <;> omega
  ·simp at hz
   rcases hz with rfl | rfl
   ·show (metaN name).size ≤ 100; omega
   ·show (dataN name).size ≤ 100; omega
 ·refine ⟨sok_of (by simp [areasN]) (Nat.zero_le _) (fun x hx => ?_) (by decide) (by decide), fun z hz => ?_⟩
  ·have := mem_areasN hx
   simp at this
   rcases this with e | e | e <;> rw [e] <;> omega
  ·simp at hz
   rcases hz with rfl | rfl | rfl
   ·show (leg0N name).size ≤ 100; omega
   ·show (dataN name).size ≤ 100; omega
   ·show (metaN name).size ≤ 100; omega
theorem thin_ok {name : ByteArray} {id z : Int} {i : Nat} (hn : name.size ≤ 50) : VOk (thinVo name id i z) := by
 have h1 : (thinN name i).size = name.size + 2 := by simp [thinN, digB, ByteArray.size_append]; rfl
 refine .of (by show (thinN name i).size ≤ 100; omega) (Nat.zero_le _) (fun t ht => by cases ht) (by show 1 ≤ 3; decide) (fun s hs => ?_)
 have hs' : s = ⟨0, z, 6, [], 0, [], ⟨#[]⟩, name, i, 0, 0⟩ := by simpa [thinVo] using hs
 subst hs'
 exact sok_of (Nat.zero_le _) (Nat.zero_le _) (fun x hx => by cases hx) (by decide) (by omega)
theorem ThinsR.new {name : ByteArray} {i0 i : Nat} {β β' : Be} (h : ThinsR name i0 i β β') (hn : name.size ≤ 50) : New β β' := by
 induction h with
 | nil β => exact .refl _
 | snoc h hz hv ih => exact ih.trans ((New.same rfl).trans (.add (thin_ok hn)))
theorem tag_ok {tags : List ByteArray} (h : tags.Sublist tagL) : tags.length ≤ 4 ∧ ∀ t ∈ tags, t.size ≤ 100 :=
 ⟨h.length_le, fun t ht => by
  have := h.subset ht
  simp [tagL] at this
  rcases this with rfl | rfl | rfl | rfl <;> decide⟩
theorem CompR.new {β β' : Be} {name : ByteArray} {kind : Int} (h : CompR β name kind β') (hd : Dn β) (hn : name.size ≤ 50) : New β β' := by
 obtain ⟨n, l, x, h1, h3, hx, hr⟩ := h
 obtain ⟨hs, hl⟩ := hx.sok hn
 have hv : ∀ (β1 : Be) (ro : Bool) (tags : List ByteArray), tags.Sublist tagL → New β1 ((nextB β1).add (cmpVo name (idB β1) ro tags x)) := fun β1 ro tags ht => (New.same (β := β1) (β' := nextB β1) rfl).trans (.add (.of (by show name.size ≤ 100; omega) (tag_ok ht).1 (tag_ok ht).2 (by show 1 ≤ 3; decide) (fun s hs' => by
  have hs2 : s ∈ [x] := hs'
  simp at hs2; subst hs2; exact hs)))
 rcases hr with hr | ⟨β1, ro, tags, hr, ht, ⟨_, rfl⟩ | ⟨_, i0, i, hi, hth⟩⟩
 ·exact hr.new hd hl
 ·exact (hr.new hd hl).trans (hv β1 ro tags ht)
 ·exact ((hr.new hd hl).trans (hv β1 ro tags ht)).trans (hth.new hn)
theorem MoreS.segs {β β' : Be} {l l' : List Sg} (h : MoreS β l β' l') (hd : Dn β) : (∀ s ∈ l', s ∈ l ∨ SOk s) ∧ l'.length ≤ l.length + 1 := by
 have hone : ∀ s : Sg, SOk s → (∀ t ∈ l ++ [s], t ∈ l ∨ SOk t) ∧ (l ++ [s]).length ≤ l.length + 1 := fun s hs => ⟨fun t ht => by
  rcases List.mem_append.1 ht with ht | ht
  ·exact .inl ht
  ·simp at ht; subst ht; exact .inr hs, by simp⟩
 obtain ⟨n, h1, h3, ⟨rfl, kind, _, rfl⟩ | ⟨d, hr, rfl⟩ | ⟨d, a, hr, rfl⟩ | ⟨d, a, β1, d2, hr, hr2, rfl⟩ | ⟨d, a, β1, d2, a2, k, hr, hr2, _, _, rfl⟩⟩ := h
 ·exact hone _ (sok_of (Nat.zero_le _) (Nat.zero_le _) (fun x hx => by cases hx) (by decide) (by decide))
 ·exact ⟨fun s hs => .inl hs, by omega⟩
 ·exact hone _ (sok_of (by simp) (Nat.zero_le _) (fun x hx => by simp at hx; subst hx; exact hr.on hd) (by decide) (by decide))
 ·exact ⟨fun s hs => .inl hs, by omega⟩
 ·have ha := hr.on hd
  have hb := hr2.on (fun d hd' => hd d (by rw [← hr.g]; exact hd'))
  exact hone _ (sok_of (by simp) (Nat.zero_le _) (fun x hx => by simp at hx; rcases hx with rfl | rfl <;> assumption) (by decide) (by decide))
theorem MoreR.segs {k : Nat} {β β' : Be} {l l' : List Sg} (h : MoreR k β l β' l') (hd : Dn β) : (∀ s ∈ l', s ∈ l ∨ SOk s) ∧ l'.length ≤ l.length + k := by
 induction h with
 | nil => exact ⟨fun s hs => .inl hs, by omega⟩
 | snoc h hs ih =>
  obtain ⟨h1, h2⟩ := ih hd
  have hg := h.g.1
  obtain ⟨h3, h4⟩ := hs.segs (fun d hd' => hd d (by rw [← hg]; exact hd'))
  exact ⟨fun s hs => (h3 s hs).elim (h1 s) .inr, by omega⟩
theorem GrpS.new {β β' : Be} {name : ByteArray} (h : GrpS β name β') (hd : Dn β) (hn : name.size ≤ 50) : New β β' := by
 obtain ⟨n, _, _, h⟩ | ⟨n, d, a, β1, k, β2, l', _, _, h1, hk, h2, rfl⟩ | h | ⟨kind, _, h⟩ := h
 ·exact h.new hd (by omega)
 ·have hd1 : Dn (nextB β) := fun d hd' => hd d hd'
  have ha := h1.on hd1
  have hg1 := h1.g
  have hd2 : Dn (β1.add (linVo name (idB β) false n a)) := fun d hd' => hd d (by
   have : d ∈ β1.g.disks := hd'
   rw [hg1] at this; exact this)
  obtain ⟨h3, h4⟩ := h2.segs hd2
  have hvs : β2.g.vols = β.g.vols ++ [linVo name (idB β) false n a] := by
   rw [h2.g.1]
   show β1.g.vols ++ [_] = _
   rw [hg1]; rfl
  intro v hv
  have hv' : v ∈ β2.g.vols.dropLast ++ [({ linVo name (idB β) false n a with segs := l' } : Vo)] := hv
  rw [hvs, List.dropLast_concat] at hv'
  rcases List.mem_append.1 hv' with hv' | hv'
  ·exact .inl hv'
  ·simp at hv'
   subst hv'
   refine .inr (.of (by show name.size ≤ 100; omega) (Nat.zero_le _) (fun t ht => by cases ht) (by simp at h4; show l'.length ≤ 3; omega) (fun s hs => ?_))
   rcases h3 s hs with hs | hs
   ·simp at hs; subst hs
    exact sok_of (by simp) (Nat.zero_le _) (fun x hx => by simp at hx; subst hx; exact ha) (by decide) (by decide)
   ·exact hs
 ·exact h.new hd (by omega)
 ·exact h.new hd hn
/-- the head of the group stays -/
def HeadG (β β' : Be) : Prop := β'.g.name = β.g.name ∧ β'.g.tags = β.g.tags
theorem HeadG.trans {β β1 β2 : Be} (h : HeadG β β1) (h' : HeadG β1 β2) : HeadG β β2 := ⟨h'.1.trans h.1, h'.2.trans h.2⟩
theorem headG_of {β β' : Be} (h : β'.g = β.g) : HeadG β β' := by rw [HeadG, h]; exact ⟨rfl, rfl⟩
theorem ThinsR.headg {name : ByteArray} {i0 i : Nat} {β β' : Be} (h : ThinsR name i0 i β β') : HeadG β β' := by
 induction h with
 | nil β => exact ⟨rfl, rfl⟩
 | snoc h hz hv ih => exact ih
theorem HidR.headg {l : List (ByteArray × Int)} {β β' : Be} {ok : Bool} (h : HidR β l ok β') : HeadG β β' := by
 obtain ⟨vs, m, e, _⟩ := h.g
 rw [HeadG, e]; exact ⟨rfl, rfl⟩
theorem GrpS.headg {β β' : Be} {name : ByteArray} (h : GrpS β name β') : HeadG β β' := by
 obtain ⟨n, _, _, h⟩ | ⟨n, d, a, β1, k, β2, l', _, _, h1, _, h2, rfl⟩ | h | ⟨kind, _, h⟩ := h
 ·obtain ⟨l, e, _⟩ := h.g
  rw [HeadG, e]; exact ⟨rfl, rfl⟩
 ·exact (headG_of h1.g : HeadG (nextB β) β1).trans (headG_of h2.g.1 : HeadG _ β2)
 ·obtain ⟨n, k, l, h⟩ | ⟨k, n, l, β1, _, _, _, _, h, rfl⟩ := h
  ·exact headG_of h.g
  ·exact (headG_of h.g : HeadG β β1)
 ·obtain ⟨n, l, x, h1, h3, hx, hr⟩ := h
  rcases hr with hr | ⟨β1, ro, tags, hr, _, ⟨_, rfl⟩ | ⟨_, i0, i, hi, ht⟩⟩
  ·exact hr.headg
  ·exact (hr.headg : HeadG β β1)
  ·exact (hr.headg : HeadG β β1).trans ht.headg
theorem GrpsR.new {i0 i : Nat} {β β' : Be} (h : GrpsR i0 i β β') (hd : Dn β) : New β β' := by
 induction h with
 | nil => exact .refl _
 | snoc h hs ih => exact (ih hd).trans (hs.new (hd.keep h.keep) (by show 1 ≤ 50; decide))
theorem GrpsR.far {i0 i : Nat} {β β' : Be} (h : GrpsR i0 i β β') (he : 1 ≤ β.g.extent ∧ β.g.extent ≤ 16) : i ≤ i0 ∧ Far (7 * (i0 - i)) (7 * (i0 - i)) β β' := by
 induction h with
 | nil β => exact ⟨Nat.le_refl _, (Far.of_g rfl).mono (by omega) (by omega)⟩
 | snoc h hs ih =>
  obtain ⟨h1, h2⟩ := ih he
  exact ⟨by omega, (h2.trans (hs.far (by rw [h.keep.2]; exact he))).mono (by omega) (by omega)⟩
theorem pvN_size (k : Nat) : (pvN k).size = 3 := by simp [pvN, digB, ByteArray.size_append]; rfl
/-- what is known of a group's size -/
theorem GrpR.bd {γ : Gr} (h : GrpR γ) : BdG γ ∧ γ.hist.length ≤ 10 ∧ γ.vols.length ≤ 30 ∧ ∀ v ∈ γ.vols, ∀ s ∈ v.segs, s.areas.length ≤ 5 := by
 obtain ⟨id, seq, ext, tags, disks, n0, β, hh, _, _, _, _, hext, htags, hd1, hd4, hdk, hn0, hgr, hh2, rfl⟩ := h
 have hdn : ∀ d ∈ disks, d.name.size ≤ 100 ∧ d.tags.Sublist tagL := fun d hd => by
  obtain ⟨k, hk⟩ := List.getElem?_of_mem hd
  obtain ⟨h1, _, _, _, _, h6⟩ := hdk k d hk
  exact ⟨by rw [h1, pvN_size]; omega, h6⟩
 have hD : Dn ⟨G0 id seq ext tags disks, zeroN disks.length⟩ := fun d hd => (hdn d hd).1
 have hnew := hgr.new hD
 have hvk : ∀ v ∈ β.g.vols, VOk v := fun v hv => (hnew v hv).elim (fun h => by cases h) (fun h => h)
 have hkp := hgr.keep
 have hfar := (hgr.far (by show 1 ≤ ext ∧ ext ≤ 16; rcases hext with rfl | rfl | rfl | rfl | rfl <;> omega)).2
 have hvl : β.g.vols.length ≤ 28 := by have := hfar.vols; have e : (G0 id seq ext tags disks).vols.length = 0 := rfl; dsimp only at this; rw [e] at this; omega
 have hst : ∀ {i : Nat} {β1 β2 : Be}, GrpsR n0 i β1 β2 → β2.g.name = β1.g.name ∧ β2.g.tags = β1.g.tags := fun h => by
  induction h with
  | nil => exact ⟨rfl, rfl⟩
  | snoc h hs ih =>
   have e := GrpS.headg hs
   exact ⟨e.1.trans ih.1, e.2.trans ih.2⟩
 obtain ⟨e1, e2⟩ := hst hgr
 have hhl : (histG hh 0).length = hh := by simp [histG]
 refine ⟨⟨by show β.g.name.size ≤ 100; rw [e1]; exact (by decide : 2 ≤ 100), by show β.g.tags.length ≤ 4; rw [e2]; exact (tag_ok htags).1, fun t ht => (tag_ok htags).2 t (by rw [← show β.g.tags = tags from e2]; exact ht), by show 1 ≤ β.g.disks.length ∧ β.g.disks.length ≤ 4; rw [hkp.1]; exact ⟨hd1, hd4⟩, by show β.g.vols.length ≤ 40; omega, by show (histG hh 0).length ≤ 40; omega, fun x hx => ?_, fun d hd => ?_, fun v hv => (hvk v hv).1⟩, by show (histG hh 0).length ≤ 10; omega, by show β.g.vols.length ≤ 30; omega, fun v hv => (hvk v hv).2⟩
 ·have hx' : x ∈ histG hh 0 := hx
  unfold histG at hx'
  obtain ⟨q, _, rfl⟩ := List.mem_map.1 hx'
  exact (by decide : 3 ≤ 100)
 ·have hd' : d ∈ β.g.disks := hd
  rw [hkp.1] at hd'
  obtain ⟨h1, h6⟩ := hdn d hd'
  exact ⟨h1, (tag_ok h6).1, (tag_ok h6).2⟩
end Go.Proofs.YtdkcfgahdcpkkaaDoor
namespace Go.Proofs.YtdkcfgahdcpkkaaDoor
open Go.ChangeShapes Go.WideShapes Go.ChangeAt Go.RowKit
set_option maxRecDepth 100000
def laidL : List (String × DataW Unit) := [("volumegroup/names.suffixes", Rows.laid_volumegroup_names_suffixes)]
theorem gSuf : Tryd.prog.globalNamed "volumegroup/names.suffixes" = some 0 := by kernel_rfl
theorem tSuf : (Tryd.prog.globals[0]?).map (·.type) = some 160 := by kernel_rfl
theorem door_met (os : Os) (args : Array Value) : laidMetH Tryd.prog laidL ((World.doorLaid Tryd.prog 400 os).forCall (fun _ _ => 0) ⟨#[], args, []⟩).memory :=
 laidMetH_of_parts3 (fuel := 8) (laidMet_of_run' 8 (by kernel_rfl) (by kernel_rfl)) (by kernel_rfl) (by kernel_rfl)
theorem bytes_of {s : ByteArray} {l : List UInt8} (h : s.data.toList = l) : s = ⟨l.toArray⟩ := by
 obtain ⟨⟨a⟩⟩ := s
 simp at h
 rw [h]
theorem at_one {l : Array Value} {k : Nat} {v : Value} (h : (l.toList.drop (k * 1)).take 1 = [v]) : l[k]? = some v := by
 have : ((l.toList.drop (k * 1)).take 1)[0]? = some v := by rw [h]; rfl
 rw [List.getElem?_take_of_lt (by omega), List.getElem?_drop] at this
 simpa using this
theorem suf_of_laid {W : World} (h : laidMetH Tryd.prog laidL W) : Suf W := by
 rw [MakeChecks.laidMetH_plain _ _ _ (by kernel_rfl)] at h
 obtain ⟨ps, ⟨g0, t0, cs0, f0, p0, q0, hg0, ht0, hv0, hd0, _⟩, _, _⟩ := h
 obtain rfl := Option.some.inj (gSuf.symm.trans hg0)
 obtain rfl := Option.some.inj (tSuf.symm.trans ht0)
 obtain ⟨xs, m1, rfl, hx1, hlen, hn, hel⟩ := DataW.trod_array Tryd.underlying160 hd0
 have c1 : Tryd.prog.cellsOf 9 = 1 := by kernel_rfl
 have h1 := hel 1 (by decide)
 have h2 := hel 2 (by decide)
 have h3 := hel 3 (by decide)
 have h4 := hel 4 (by decide)
 rw [c1] at h1 h2 h3 h4
 match xs, hn, hx1, h1, h2, h3, h4 with
 | [x0, x1, x2, x3, x4], _, hx1, h1, h2, h3, h4 =>
  obtain ⟨s1, e1, rfl, _⟩ := DataW.trod_string Tryd.underlying9 (show DataW.trod _ Tryd.prog W 0 _ false m1 9 _ = some x1 from h1)
  obtain ⟨s2, e2, rfl, _⟩ := DataW.trod_string Tryd.underlying9 (show DataW.trod _ Tryd.prog W 0 _ false m1 9 _ = some x2 from h2)
  obtain ⟨s3, e3, rfl, _⟩ := DataW.trod_string Tryd.underlying9 (show DataW.trod _ Tryd.prog W 0 _ false m1 9 _ = some x3 from h3)
  obtain ⟨s4, e4, rfl, _⟩ := DataW.trod_string Tryd.underlying9 (show DataW.trod _ Tryd.prog W 0 _ false m1 9 _ = some x4 from h4)
  simp only [Rows.laid_volumegroup_names_suffixes, Prod.mk.injEq, DataW.agg.injEq, List.map_cons, List.map_nil, List.cons.injEq, DataW.lit.injEq, Lit.string.injEq] at hx1
  obtain ⟨⟨_, q1, q2, q3, q4, _⟩, _⟩ := hx1
  exact ⟨(World.var?_cell hg0 hv0 1).trans (by rw [at_one e1, bytes_of q1.symm]; rfl), (World.var?_cell hg0 hv0 2).trans (by rw [at_one e2, bytes_of q2.symm]; rfl),
   (World.var?_cell hg0 hv0 3).trans (by rw [at_one e3, bytes_of q3.symm]; rfl), (World.var?_cell hg0 hv0 4).trans (by rw [at_one e4, bytes_of q4.symm]; rfl)⟩
/-- A LAW's ROW out of its walk, the table of suffixes laid. -/
theorem law_lifted_laid {f : FuncId} {fn : Func} {s : ChangeSpec} {os : Os} {H : Type} {enc : TypeId × Value → H} (started : os.Started) (noInit : Tryd.prog.inits.idxOf? f = none) (hfn : Tryd.prog.funcs[f]? = some fn)
  (witness : ∃ (w : World) (tape : Tape) (i : Input), w.os = os ∧ (w.forCall tape i).Shaped Tryd.checked.prog ∧ i.vars = [] ∧ Input.okWide Tryd.checked.prog (w.forCall tape i) .any w.heap.size f i ∧
   ((s.pre enc Tryd.checked.prog fn [] false (w.forCall tape i).memory i.args ∧ laidMetH Tryd.prog laidL (w.forCall tape i).memory) ∧ sizedMet enc Tryd.checked.prog fn (OpenSpec.ofChange s) false (w.forCall tape i).memory i.args) ∧ ({} : Assume).holds Tryd.checked.prog (lone (Frame.enter Tryd.checked.prog f i.args .normal) [] (w.forCall tape i)))
  (hvars : s.vars = []) (hres : fn.resultTypes = #[4]) (hread : (fn.params.toList.all fun t => Tryd.prog.readableRec t && decide (t < Tryd.prog.types.size)) = true)
  (hspec : ∀ ds : List (DataW H), ds.length = fn.params.size → s.fn H ds = { results := [.lit (.bool true)], args := ds })
  (walk : ∀ (W : World) (base : Nat) (args : Array Value) (ds : List (DataW H)) (p : List MemPlace),
   (∀ (j : Nat) t v, fn.params[j]? = some t → args[j]? = some v → Value.okWide Tryd.prog W .any base t v) →
   DataW.TrodAll enc Tryd.prog W 0 (fun _ => true) true fn.params.toList args.toList ds p → Suf W →
   Calls Tryd.prog f args W (Ret (.bool true) W)) :
  ReturnsInHanded {} Tryd.checked os f .any (fun w args => (s.pre enc Tryd.prog fn [] false w args ∧ laidMetH Tryd.prog laidL w) ∧ sizedMet enc Tryd.prog fn (OpenSpec.ofChange s) false w args) (s.post enc Tryd.prog fn false true false false) := by
 refine returnsInHanded_of_change_and (C := Tryd.checked) (X := fun w _ => laidMetH Tryd.prog laidL w) (fun _ _ _ hh h => h.of_heap hh) own started noInit hfn witness ?_
 intro W base args ds gs before hval hW _ _ hL _
 have hW' := hW
 obtain ⟨p, q, hA, hV, rfl, hfz, hnd⟩ := hW
 rw [hvars] at hV
 obtain ⟨rfl, rfl⟩ := trodVars_none hV
 have hlt : ∀ x ∈ p, x.block < W.heap.size := fun x hx => hW'.lt x (by simp [hx])
 refine (walk W base args ds p hval hA (suf_of_laid hL)).mono fun e W' ⟨he, bel⟩ => ?_
 subst he
 have hlen : ds.length = fn.params.size := by
  have : ∀ (ts : List TypeId) (vs : List Value) (ds : List (DataW H)) (ps : List MemPlace), DataW.TrodAll enc Tryd.prog W 0 (fun _ => true) true ts vs ds ps → ds.length = ts.length := by
   intro ts
   induction ts with
   | nil => intro vs ds ps h; obtain ⟨rfl, rfl, rfl⟩ := trodAll_nil h; rfl
   | cons t ts ih =>
    intro vs ds ps h
    obtain ⟨v, vs', d, ds', p, q, rfl, rfl, rfl, h0, h1⟩ := trodAll_cons h
    simp [ih _ _ _ h1]
  simpa using this _ _ _ _ hA
 refine ⟨_, rfl, ds, [], p ++ [], [], p, [], hW', ?_, ?_, ?_, bel.frame _, fun h => by cases h⟩
 ·rw [List.append_nil, hspec ds hlen, hres]
  exact trodAll_mk1 (shut_bool Tryd.underlying4 _)
 ·rw [List.append_nil, hspec ds hlen]
  exact below_trodAll laidOut bel _ _ _ _ hread hA hlt
 ·rw [List.append_nil, hspec ds hlen, hvars]
  rfl
end Go.Proofs.YtdkcfgahdcpkkaaDoor
namespace Go.Proofs.YtdkcfgahdcpkkaaDoor
open Go.RowKit
set_option maxRecDepth 100000
theorem BdG.sm {γ : Gr} (h : BdG γ) : SmGr γ := by
 have h1 := h.tags
 have h2 := h.disks.2
 have h3 := h.vols
 have h4 := h.hist
 refine ⟨by omega, by omega, by omega, by omega, fun d hd => ?_, fun v hv => ?_⟩
 ·have := (h.disk d hd).tags
  unfold SmDk; omega
 ·have hb := h.vol v hv
  have h5 := hb.tags
  have h6 := hb.segs
  refine ⟨by omega, by omega, fun s hs => ?_⟩
  have hs' := hb.seg s hs
  have h7 := hs'.areas
  have h8 := hs'.stale
  exact ⟨by omega, by omega⟩
set_option maxHeartbeats 16000000 in
theorem same_walk (A : Option Addr) (n c : Nat) (zs : List Int) (W : World) (hn : n ≤ c) (hc : c ≤ maxLen) (hr : Reads W W.heap.size 1 A n (I zs)) (hS : Suf W) :
  Calls Tryd.prog 4 #[.slice A n c] W (Ret (.bool true) W) := by
 have HSU := Lib.hid hS
 have HN := Lib.hid (srcNew_any A n c zs W hn hc hr)
 clear hS hn hc hr
 go_enter Tryd.func4, Tryd.ntmps4
 go_wp2_with fail
 refine HN.out.mono ?_
 rintro e w1 ⟨rfl, hs1, hb1⟩
 have HB1 := Lib.hid hb1
 have HS1 := Lib.hid hs1
 have hl1 := hs1.lt
 clear hs1 hb1 HN
 go_wp2_with fail
 refine (group_src HS1.out).mono ?_
 rintro e w2 ⟨γ, v0, v1, v2, v3, Wh, hgr, rfl, ht, hd, hv, hh, hWh, hWw, hs2, ho2⟩
 obtain ⟨A0, c0, rfl⟩ := ht.form
 obtain ⟨A1, c1, rfl⟩ := hd.form
 obtain ⟨A2, c2, rfl⟩ := hv.form
 obtain ⟨A3, c3, rfl, _⟩ := ownsRow_formG hh
 obtain ⟨hbd, hh10, hv30, har⟩ := hgr.bd
 have HOW := Lib.hid (show ∀ k, (Value.slice A3 γ.hist.length c3).ownBlock = some k → k < w2.heap.size from fun k e => (World.ownsRow.lt hh k e).2)
 have hal : Bel w2 (w2.alloc (.cells (grX γ A0 c0 A1 c1 A2 c2 A3 c3) 31)) := (Below.refl _ _).al _
 have HT3 := Lib.hid (TL.up ht hal)
 have HD3 := Lib.hid (DL.up hd hal)
 have HV3 := Lib.hid (VL.up hv hal)
 have HH3 := Lib.hid (own_only hh (Only.of_below (fun _ => False) hal) (fun _ _ h => h))
 have HS3 := Lib.hid (hs2.below hal)
 have HBD := Lib.hid hbd
 have HAR := Lib.hid har
 have HO3 := Lib.hid (show Only (fun k => k = W.heap.size ∨ Wh ≤ k) w1 (w2.alloc (.cells (grX γ A0 c0 A1 c1 A2 c2 A3 c3) 31)) from (ho2.mono fun k _ e => .inl e).trans (Only.of_below _ hal))
 have HG3 := Lib.hid (Blk.new w2 31 (grX γ A0 c0 A1 c1 A2 c2 A3 c3))
 have hw3 : Wh ≤ (w2.alloc (.cells (grX γ A0 c0 A1 c1 A2 c2 A3 c3) 31)).heap.size := Nat.le_trans hWw hal.size
 clear ht hd hv hh hs2 ho2 hgr hbd har hal
 unfold grA
 go_wp2_with fail
 refine (spoil_src (S0 := fun k => w1.heap.size ≤ k ∧ k < Wh) HS3.out HBD.out hh10 hv30 HAR.out HT3.out HD3.out HV3.out HH3.out (fun k hk => ⟨by have := hk.1; omega, hk.2⟩) ⟨by omega, hw3⟩).mono ?_
 rintro e w4 ⟨γ', u0, u1, u2, u3, hbx, rfl, kt, kd, kv, km, kmo, hs4, ho4⟩
 obtain ⟨B0, d0, rfl⟩ := kt.form
 obtain ⟨B1, d1, rfl⟩ := kd.form
 obtain ⟨B2, d2, rfl⟩ := kv.form
 obtain ⟨B3, d3, rfl⟩ := km.form
 unfold grA
 have hal : Bel w4 (w4.alloc (.cells (grX γ' B0 d0 B1 d1 B2 d2 B3 d3) 31)) := (Below.refl _ _).al _
 have hK : Kept (fun k => w1.heap.size ≤ k ∧ k < Wh) (w2.alloc (.cells (grX γ A0 c0 A1 c1 A2 c2 A3 c3) 31)) w4 := Kept.of_only ho4 fun k hk e => by have h1 := hk.1; have h2 := hk.2; rcases e with e | ⟨e, _⟩ <;> omega
 have HT := Lib.hid (TL.keep (S' := fun _ => True) (TL.keep HT3.out hK (fun _ h => h)) (.of_below hal) (fun _ _ => trivial))
 have HD := Lib.hid (DL.keep (S' := fun _ => True) (DL.keep HD3.out hK (fun _ h => h)) (.of_below hal) (fun _ _ => trivial))
 have HV := Lib.hid (VL.keep (S' := fun _ => True) (VL.keep HV3.out hK (fun _ h => h)) (.of_below hal) (fun _ _ => trivial))
 have HM := Lib.hid (ML.keep (S' := fun _ => True) (kmo) (.of_below hal) (fun _ _ => trivial))
 have JT := Lib.hid (TL.keep (S' := fun _ => True) (kt) (.of_below hal) (fun _ _ => trivial))
 have JD := Lib.hid (DL.keep (S' := fun _ => True) (kd) (.of_below hal) (fun _ _ => trivial))
 have JV := Lib.hid (VL.keep (S' := fun _ => True) (kv) (.of_below hal) (fun _ _ => trivial))
 have JM := Lib.hid (ML.keep (S' := fun _ => True) (km) (.of_below hal) (fun _ _ => trivial))
 have HSG := Lib.hid HBD.out.sm
 have HSX := Lib.hid hbx.sm
 have HG := Lib.hid ((HG3.out.only ho4 (fun e => by
  have hs3 : (w2.alloc (.cells (grX γ A0 c0 A1 c1 A2 c2 A3 c3) 31)).heap.size = w2.heap.size + 1 := by simp
  rcases e with e | ⟨_, e | e⟩
  ·omega
  ·have := HOW.out _ e; omega
  ·omega)).alloc (.cells (grX γ' B0 d0 B1 d1 B2 d2 B3 d3) 31))
 have HX := Lib.hid (Blk.new w4 31 (grX γ' B0 d0 B1 d1 B2 d2 B3 d3))
 have HB5 := Lib.hid (show Bel W (w4.alloc (.cells (grX γ' B0 d0 B1 d1 B2 d2 B3 d3) 31)) from (HB1.out.trans ((HO3.out.trans (ho4.mono fun k _ e => e.elim .inl (fun e => .inr e.1))).below (by omega) (fun k e => by rcases e with e | e <;> omega))).trans (hal.mono (by have h1 := HO3.out.size; have h2 := ho4.size; omega)))
 clear kt kd kv km kmo hs4 ho4 hal hK hbx HT3 HD3 HV3 HH3 HS3 HO3 HG3 hh10 hv30 hw3
 obtain ⟨b, hb⟩ : ∃ b : Bool, b = true ↔ γ = γ' := ⟨@decide _ (Classical.propDecidable _), @decide_eq_true_iff _ (Classical.propDecidable _)⟩
 have HBB := Lib.hid hb
 clear hb
 have HGG := Lib.hid (show ∀ w', Bel (w4.alloc (.cells (grX γ' B0 d0 B1 d1 B2 d2 B3 d3) 31)) w' → Calls Tryd.prog 15 #[.agg (grX γ A0 c0 A1 c1 A2 c2 A3 c3), .agg (grX γ A0 c0 A1 c1 A2 c2 A3 c3)] w' (fun e w2 => e = .returned (.bool true) ∧ Bel w' w2) from fun w' hw => sameGr_any (TL.up HT.out hw) (TL.up HT.out hw) (DL.up HD.out hw) (DL.up HD.out hw) (VL.up HV.out hw) (VL.up HV.out hw) (ML.up HM.out hw) (ML.up HM.out hw) HSG.out HSG.out (by simp))
 have HXX := Lib.hid (show ∀ w', Bel (w4.alloc (.cells (grX γ' B0 d0 B1 d1 B2 d2 B3 d3) 31)) w' → Calls Tryd.prog 15 #[.agg (grX γ' B0 d0 B1 d1 B2 d2 B3 d3), .agg (grX γ' B0 d0 B1 d1 B2 d2 B3 d3)] w' (fun e w2 => e = .returned (.bool true) ∧ Bel w' w2) from fun w' hw => sameGr_any (TL.up JT.out hw) (TL.up JT.out hw) (DL.up JD.out hw) (DL.up JD.out hw) (VL.up JV.out hw) (VL.up JV.out hw) (ML.up JM.out hw) (ML.up JM.out hw) HSX.out HSX.out (by simp))
 have HGX := Lib.hid (show ∀ w', Bel (w4.alloc (.cells (grX γ' B0 d0 B1 d1 B2 d2 B3 d3) 31)) w' → Calls Tryd.prog 15 #[.agg (grX γ A0 c0 A1 c1 A2 c2 A3 c3), .agg (grX γ' B0 d0 B1 d1 B2 d2 B3 d3)] w' (fun e w2 => e = .returned (.bool b) ∧ Bel w' w2) from fun w' hw => sameGr_any (TL.up HT.out hw) (TL.up JT.out hw) (DL.up HD.out hw) (DL.up JD.out hw) (VL.up HV.out hw) (VL.up JV.out hw) (ML.up HM.out hw) (ML.up JM.out hw) HSG.out HSX.out HBB.out)
 have HXG := Lib.hid (show ∀ w', Bel (w4.alloc (.cells (grX γ' B0 d0 B1 d1 B2 d2 B3 d3) 31)) w' → Calls Tryd.prog 15 #[.agg (grX γ' B0 d0 B1 d1 B2 d2 B3 d3), .agg (grX γ A0 c0 A1 c1 A2 c2 A3 c3)] w' (fun e w2 => e = .returned (.bool b) ∧ Bel w' w2) from fun w' hw => sameGr_any (TL.up JT.out hw) (TL.up HT.out hw) (DL.up JD.out hw) (DL.up HD.out hw) (VL.up JV.out hw) (VL.up HV.out hw) (ML.up JM.out hw) (ML.up HM.out hw) HSX.out HSG.out (HBB.out.trans eq_comm))
 have HRX := Lib.hid (show ∀ w', Bel (w4.alloc (.cells (grX γ' B0 d0 B1 d1 B2 d2 B3 d3) 31)) w' → Calls Tryd.prog 16 #[.agg (grX γ A0 c0 A1 c1 A2 c2 A3 c3), .agg (grX γ' B0 d0 B1 d1 B2 d2 B3 d3)] w' (fun e w2 => e = .returned (.bool b) ∧ Bel w' w2) from fun w' hw => rsameGr_any (TL.up HT.out hw) (TL.up JT.out hw) (DL.up HD.out hw) (DL.up JD.out hw) (VL.up HV.out hw) (VL.up JV.out hw) (ML.up HM.out hw) (ML.up JM.out hw) HSG.out HSX.out HBB.out)
 have HAW := Lib.hid (show ∀ w', Bel (w4.alloc (.cells (grX γ' B0 d0 B1 d1 B2 d2 B3 d3) 31)) w' → Calls Tryd.prog 11 #[] w' (fun e w2 => e = .returned (.bool true) ∧ Bel w' w2) from fun w' hw => awake_any ((HSU.out.below HB5.out HSU.out.pos).below (hw.mono HB5.out.size) HSU.out.pos))
 clear HT HD HV HM JT JD JV JM HSG HSX HBB HSU HBD HAR
 cases b
 all_goals
  obtain ⟨x0, x1, x2, x3, x4, x5, x6, x7, x8⟩ := nine9 HG.out
  obtain ⟨y0, y1, y2, y3, y4, y5, y6, y7, y8⟩ := nine9 HX.out
  go_upto_region 4 with fail
  have xm0 := CalmW.cell x0
  have xm1 := CalmW.cell x1
  have xm2 := CalmW.cell x2
  have xm3 := CalmW.cell x3
  have xm4 := CalmW.cell x4
  have xm5 := CalmW.cell x5
  have xm6 := CalmW.cell x6
  have xm7 := CalmW.cell x7
  have xm8 := CalmW.cell x8
  have ym0 := CalmW.cell y0
  have ym1 := CalmW.cell y1
  have ym2 := CalmW.cell y2
  have ym3 := CalmW.cell y3
  have ym4 := CalmW.cell y4
  have ym5 := CalmW.cell y5
  have ym6 := CalmW.cell y6
  have ym7 := CalmW.cell y7
  have ym8 := CalmW.cell y8
  clear x0 x1 x2 x3 x4 x5 x6 x7 x8 y0 y1 y2 y3 y4 y5 y6 y7 y8
  refine wp_region_calm (by kernel_rfl) (by kernel_rfl) ?_
  repeat (go_big_quiet_step ((first | (go_at_call 15; first | with_reducible exact Calls.calm (HGG.out _ (CalmW.ok _)) | with_reducible exact Calls.calm (HXX.out _ (CalmW.ok _)) | with_reducible exact Calls.calm (HGX.out _ (CalmW.ok _)) | with_reducible exact Calls.calm (HXG.out _ (CalmW.ok _))) | (go_at_call 16; with_reducible exact Calls.calm (HRX.out _ (CalmW.ok _))) | (go_at_call 11; with_reducible exact Calls.calm (HAW.out _ (CalmW.ok _))))))
  refine wpQuiet_nil ?_
  rintro _ ⟨n5, rfl⟩
  go_wp2_with fail
  go_ret
  exact ⟨rfl, HB5.out.trans (n5.ok.mono HB5.out.size)⟩
end Go.Proofs.YtdkcfgahdcpkkaaDoor
namespace Go.Proofs.YtdkcfgahdcpkkaaDoor
open Go.ChangeShapes Go.WideShapes Go.ChangeAt Go.RowKit
open Go.ChangeMaps (open_string shut_string)
set_option linter.unusedVariables false
set_option maxRecDepth 100000
set_option maxRecDepth 100000 in
theorem modelSame_lifted (os : Os) (started : os.Started) (H : Type) (enc : TypeId × Value → H) :
  ReturnsInHanded {} Tryd.checked os 4 .any (fun w args => (Rows.modelSameSpec.pre enc Tryd.prog Tryd.f4 [] false w args ∧ laidMetH Tryd.prog laidL w) ∧ sizedMet enc Tryd.prog Tryd.f4 (OpenSpec.ofChange Rows.modelSameSpec) false w args) (Rows.modelSameSpec.post enc Tryd.prog Tryd.f4 false true false false) := by
 refine law_lifted_laid started (by kernel_rfl) Tryd.func4
  (ChangeSpec.witness_shaped (enc := enc) (C := Tryd.checked) (os := os) (X := fun w _ => laidMetH Tryd.prog laidL w) false (World.doorLaid Tryd.prog 400 os) #[.slice none 0 0] 8 rfl (World.shaped_of_RefB (by kernel_rfl) (by kernel_rfl)) (by kernel_rfl) (by kernel_rfl) (by kernel_rfl) (door_met os _)) rfl (by kernel_rfl) (by kernel_rfl) ?_ ?_
 ·intro ds hds
  match ds, hds with
  | [d1], _ => rfl
 ·intro W base args ds p hval hA hS
  rw [Tryd.params4] at hA hval
  obtain ⟨v0, vs0, d0, ds0, p0, q0, hargs, rfl, rfl, h0, r0⟩ := trodAll_cons hA
  obtain ⟨rfl, rfl, rfl⟩ := trodAll_nil r0
  obtain rfl : args = #[v0] := by cases args; simp_all
  obtain ⟨A0, n0, c0, z0, rfl, hn0, hc0, hl0, hr0, hw0⟩ := open_row Tryd.underlying22 Tryd.underlying3 (by kernel_rfl) (hval 0 22 v0 rfl rfl) h0
  exact same_walk A0 n0 c0 z0 W hn0 hc0 hr0 hS
theorem modelSame_over : Rows.modelSameRow.holds Tryd.pinned (OpenSpec.ofChange Rows.modelSameSpec) :=
 OpenClaim.holds_of_wide 4 Tryd.f4 rfl rfl rfl rfl rfl rfl rfl ⟨rfl, rfl, rfl, rfl, rfl⟩ rfl rfl rfl rfl rfl (by kernel_rfl) Tryd.func4 (by kernel_rfl)
  (of_decide_eq_true (by kernel_rfl)) (by unfold Func.isWrapper; first | (rw [if_pos (by decide +kernel)]; kernel_rfl) | (rw [if_neg (by decide +kernel)]; exact ⟨rfl, rfl⟩))
  (fun os started H enc _ => modelSame_lifted os started H enc)
/-- THE STATEMENT: the card, its one listed variable tied to the program's text -/
theorem modelSame_card : Rows.ModelSameCardSaid :=
 Claim7.holds_tied_plain_at .later [] [.widerDeep] true (true, "97d92cc50b48428903a7801de5069f3246158862b580407877adbac374272e0c") false
  modelSame_over (fun _ h => by cases h) (by kernel_rfl) (fun _ h => by cases h) modelSame_row_tie rfl ⟨rfl, rfl⟩ (by kernel_rfl) rfl
  (fun f fn hf hfn => by
   obtain rfl : f = 4 := Option.some.inj ((show Tryd.prog.funcNamed "volumegroup/volumegrouplaw09.ModelSame" = some 4 by kernel_rfl).symm.trans hf) |>.symm
   obtain rfl : fn = Tryd.f4 := (Option.some.inj (Tryd.func4.symm.trans hfn)).symm
   exact ⟨by kernel_rfl, fun j t ht => by
    rw [Tryd.params4] at ht
    rcases j with _ | j
    ·obtain rfl : t = 22 := by simpa using ht.symm
     exact (show Tryd.prog.wantsStandIn 22 = false by kernel_rfl)
    ·simp at ht⟩)
  (by kernel_rfl)
#print axioms modelSame_card
end Go.Proofs.YtdkcfgahdcpkkaaDoor
