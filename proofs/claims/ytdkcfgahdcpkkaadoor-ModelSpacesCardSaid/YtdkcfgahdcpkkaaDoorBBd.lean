/- Groups that are made are small. -/
import Derived.Test.YtdkcfgahdcpkkaaDoorBMkGrpP
import Derived.Test.YtdkcfgahdcpkkaaDoorBSp0
set_option linter.all false
namespace Go.Proofs.YtdkcfgahdcpkkaaDoor
open Go.RowKit
set_option maxRecDepth 100000
def SOk (s : Sg) : Prop := BdS s ∧ s.areas.length ≤ 5
def VOk (v : Vo) : Prop := BdV v ∧ ∀ s ∈ v.segs, s.areas.length ≤ 5
theorem VOk.of {v : Vo} (h1 : v.name.size ≤ 100) (h2 : v.tags.length ≤ 4) (h3 : ∀ t ∈ v.tags, t.size ≤ 100) (h4 : v.segs.length ≤ 3) (h5 : ∀ s ∈ v.segs, SOk s) : VOk v :=
 ⟨⟨h1, h2, h3, h4, fun s hs => (h5 s hs).1⟩, fun s hs => (h5 s hs).2⟩
def New (β β' : Be) : Prop := ∀ v ∈ β'.g.vols, v ∈ β.g.vols ∨ VOk v
theorem New.refl (β : Be) : New β β := fun _ h => .inl h
theorem New.trans {β β1 β2 : Be} (h : New β β1) (h' : New β1 β2) : New β β2 := fun v hv => (h' v hv).elim (h v) .inr
theorem New.same {β β' : Be} (h : β'.g.vols = β.g.vols) : New β β' := fun v hv => .inl (h ▸ hv)
theorem New.add {β : Be} {x : Vo} (h : VOk x) : New β (β.add x) := fun v hv => by
 have hv' : v ∈ β.g.vols ++ [x] := hv
 rcases List.mem_append.1 hv' with hv' | hv'
 ·exact .inl hv'
 ·simp at hv'; subst hv'; exact .inr h
def Dn (β : Be) : Prop := ∀ d ∈ β.g.disks, d.name.size ≤ 100
theorem Dn.keep {β β' : Be} (h : Dn β) (hk : KeepG β β') : Dn β' := fun d hd => h d (hk.1 ▸ hd)
theorem AreaR.on {β β' : Be} {d : Nat} {n : Int} {a : Ar} (h : AreaR β d n (some a) β') (hd : Dn β) : a.on.size ≤ 100 := by
 obtain ⟨dk, z, h1, _, ⟨e, _⟩ | ⟨_, _, _, _, e, _⟩⟩ := h
 ·cases e
 ·injection e with e; subst e; exact hd dk (List.mem_of_getElem? h1)
theorem yU_ {a b c d e f g : Int} {l : List Ar} {st : List Int} {lg pl : ByteArray} (h1 : l.length ≤ 5) (h2 : st.length ≤ 3) (h3 : ∀ x ∈ l, x.on.size ≤ 100) (h4 : lg.size ≤ 100) (h5 : pl.size ≤ 100) : SOk ⟨a, b, c, l, d, st, lg, pl, e, f, g⟩ :=
 ⟨⟨by show l.length ≤ 6; omega, h2, h3, h4, h5⟩, h1⟩
theorem lin_ok {name : ByteArray} {id n : Int} {hid : Bool} {a : Ar} (hn : name.size ≤ 100) (ha : a.on.size ≤ 100) : VOk (yC_ name id hid n a) :=
 .of hn (Nat.zero_le _) (fun t ht => by cases ht) (by show 1 ≤ 3; decide) (fun s hs => by
  have hs' : s ∈ [yX_ n a] := hs;simp at hs'; subst hs';exact yU_ (by simp) (Nat.zero_le _) (fun x hx => by simp at hx; subst hx; exact ha) (by decide) (by decide))
theorem LinR.new {β β' : Be} {name : ByteArray} {hid : Bool} {n : Int} {ok : Bool} (h : LinR β name hid n ok β') (hd : Dn β) (hn : name.size ≤ 100) : New β β' := by
 obtain ⟨_, rfl⟩ | ⟨_, d, a, β2, hr, rfl⟩ := h
 ·exact .same rfl
 ·exact (New.same (β := β) (β' := β2) (by rw [hr.g]; rfl)).trans (.add (lin_ok hn (hr.on (fun d hd' => hd d hd'))))
theorem LinsR.keep {l : List (ByteArray × Int)} {β β' : Be} (h : LinsR l β β') : KeepG β β' := by
 induction h with
 | nil => exact ⟨rfl, rfl⟩
 | snoc _ hr ih => exact ih.trans hr.keep
theorem LinsR.new {l : List (ByteArray × Int)} {β β' : Be} (h : LinsR l β β') (hd : Dn β) (hn : ∀ z ∈ l, z.1.size ≤ 100) : New β β' := by
 induction h with
 | nil => exact .refl _
 | snoc h hr ih => exact (ih hd (fun z hz => hn z (List.mem_append_left _ hz))).trans (hr.new (hd.keep h.keep) (hn (_, _) (List.mem_append_right _ (List.mem_singleton.2 rfl))))
theorem HidR.new {l : List (ByteArray × Int)} {β β' : Be} {ok : Bool} (h : HidR β l ok β') (hd : Dn β) (hn : ∀ z ∈ l, z.1.size ≤ 100) : New β β' := by
 obtain ⟨_, h⟩ | ⟨_, m, _, _, rfl⟩ := h
 ·exact h.new hd hn
 ·exact .same rfl
theorem AreasR.on {n : Int} {k : Nat} {β β' : Be} {l : List Ar} (h : AreasR n k β l β') (hd : Dn β) : l.length = k ∧ ∀ x ∈ l, x.on.size ≤ 100 := by
 induction h with
 | nil => exact ⟨rfl, fun x hx => by cases hx⟩
 | @snoc k β β1 β2 l a h hr ih =>
  obtain ⟨h1, h2⟩ := ih hd;have hg := h.g;refine ⟨by simp [h1], fun x hx => ?_⟩;rcases List.mem_append.1 hx with hx | hx
  ·exact h2 x hx
  ·simp at hx; subst hx; exact hr.on (fun d hd' => hd d (by rw [← hg]; exact hd'))
theorem StrR.new {β β' : Be} {name : ByteArray} (h : StrR β name β') (hd : Dn β) (hn : name.size ≤ 100) : New β β' := by
 obtain ⟨n, k, l, h, _⟩ | ⟨k, n, l, β1, h2, h3, _, _, h, rfl⟩ := h
 ·exact .same (by rw [h.g])
 ·obtain ⟨e1, e2⟩ := h.on hd
  refine (New.same (β := β) (β' := z3_ β1) (by show β1.g.vols = _; rw [h.g])).trans (.add (.of hn (Nat.zero_le _) (fun t ht => by cases ht) (by show 1 ≤ 3; decide) (fun s hs => ?_)));have hs' : s = ⟨0, k * n, 2, l, 1, [], ⟨#[]⟩, ⟨#[]⟩, 0, 0, 0⟩ := by simpa [Q1_] using hs
  subst hs';exact yU_ (by omega) (Nat.zero_le _) e2 (by decide) (by decide)
theorem Xb_ (name : ByteArray) (i : Nat) : (legN name i).size = name.size + 5 := by simp [legN, digB, ByteArray.size_append]; rfl
theorem y5_ {x : Ar} {l : List ByteArray} (h : x ∈ zW_ l) : x.on ∈ l := by
 unfold zW_ at h
 obtain ⟨s, hs, rfl⟩ := List.mem_map.1 h
 exact hs
theorem xs_ {s : ByteArray} {name : ByteArray} {k : Nat} (h : s ∈ yd_ name k) : s.size = name.size + 5 := by
 unfold yd_ at h
 obtain ⟨i, _, rfl⟩ := List.mem_map.1 h
 exact Xb_ name i
theorem jg_ (l : List ByteArray) : (zW_ l).length = l.length := by simp [zW_]
theorem YV_ (name : ByteArray) : (ZQ_ name).size = name.size + 5 ∧ (logN name).size = name.size + 4 ∧ (metaN name).size = name.size + 5 ∧ (dataN name).size = name.size + 5 := by
 refine ⟨?_, ?_, ?_, ?_⟩ <;> simp [ZQ_, logN, metaN, dataN, ByteArray.size_append] <;> rfl
theorem CmpX.sok {name : ByteArray} {kind e n : Int} {l : List (ByteArray × Int)} {x : Sg} (h : CmpX name kind e n l x) (hn : name.size ≤ 50) : SOk x ∧ ∀ z ∈ l, z.1.size ≤ 100 := by
 obtain ⟨q1, q2, q3, q4⟩ := YV_ name
 obtain ⟨_, k, c, lg, st, h2, h3, _, _, hst, rfl, rfl⟩ | ⟨_, k, c, h3, h4, _, rfl, rfl⟩ | ⟨_, m, c, h1, h3, _, _, rfl, rfl⟩ | ⟨_, d, c, m, h1, h2, _, _, _, _, rfl, rfl⟩ := h
 ·refine ⟨yU_ (by rw [jg_, zt_]; omega) ?_ (fun x hx => ?_) ?_ (by decide), fun z hz => ?_⟩
  ·rcases hst with rfl | ⟨z, _, _, rfl⟩ <;> simp
  ·have := xs_ (y5_ hx); omega
  ·cases lg
   ·exact Nat.zero_le _
   ·show (logN name).size ≤ 100; omega
  ·have hz1 := (List.of_mem_zip hz).1
   rcases List.mem_append.1 hz1 with h | h
   ·have := xs_ h; omega
   ·cases lg
    ·cases h
    ·simp at h; rw [h]; omega
 ·refine ⟨yU_ (by rw [jg_, zt_]; omega) (Nat.zero_le _) (fun x hx => ?_) (by decide) (by decide), fun z hz => ?_⟩
  ·have := xs_ (y5_ hx); omega
  ·have := xs_ (List.of_mem_zip hz).1; omega
 ·refine ⟨yU_ (by simp [zW_]) (Nat.zero_le _) (fun x hx => ?_) (by decide) (by decide), fun z hz => ?_⟩
  ·have := y5_ hx
   simp at this;rcases this with e | e <;> rw [e] <;> omega
  ·simp at hz
   rcases hz with rfl | rfl
   ·show (metaN name).size ≤ 100; omega
   ·show (dataN name).size ≤ 100; omega
 ·refine ⟨yU_ (by simp [zW_]) (Nat.zero_le _) (fun x hx => ?_) (by decide) (by decide), fun z hz => ?_⟩
  ·have := y5_ hx
   simp at this;rcases this with e | e | e <;> rw [e] <;> omega
  ·simp at hz
   rcases hz with rfl | rfl | rfl
   ·show (ZQ_ name).size ≤ 100; omega
   ·show (dataN name).size ≤ 100; omega
   ·show (metaN name).size ≤ 100; omega
theorem QM_ {name : ByteArray} {id z : Int} {i : Nat} (hn : name.size ≤ 50) : VOk (jX_ name id i z) := by
 have h1 : (jY_ name i).size = name.size + 2 := by simp [jY_, digB, ByteArray.size_append]; rfl
 refine .of (by show (jY_ name i).size ≤ 100; omega) (Nat.zero_le _) (fun t ht => by cases ht) (by show 1 ≤ 3; decide) (fun s hs => ?_)
 have hs' : s = ⟨0, z, 6, [], 0, [], ⟨#[]⟩, name, i, 0, 0⟩ := by simpa [jX_] using hs
 subst hs'
 exact yU_ (Nat.zero_le _) (Nat.zero_le _) (fun x hx => by cases hx) (by decide) (by omega)
theorem ThinsR.new {name : ByteArray} {i0 i : Nat} {β β' : Be} (h : ThinsR name i0 i β β') (hn : name.size ≤ 50) : New β β' := by
 induction h with
 | nil β => exact .refl _
 | snoc h hz hv ih => exact ih.trans ((New.same rfl).trans (.add (QM_ hn)))
theorem qU_ {tags : List ByteArray} (h : tags.Sublist tagL) : tags.length ≤ 4 ∧ ∀ t ∈ tags, t.size ≤ 100 :=
 ⟨h.length_le, fun t ht => by
  have := h.subset ht;simp [tagL] at this;rcases this with rfl | rfl | rfl | rfl <;> decide⟩
theorem CompR.new {β β' : Be} {name : ByteArray} {kind : Int} (h : CompR β name kind β') (hd : Dn β) (hn : name.size ≤ 50) : New β β' := by
 obtain ⟨n, l, x, h1, h3, hx, hr⟩ := h
 obtain ⟨hs, hl⟩ := hx.sok hn
 have hv : ∀ (β1 : Be) (ro : Bool) (tags : List ByteArray), tags.Sublist tagL → New β1 ((z3_ β1).add (ko_ name (idB β1) ro tags x)) := fun β1 ro tags ht => (New.same (β := β1) (β' := z3_ β1) rfl).trans (.add (.of (by show name.size ≤ 100; omega) (qU_ ht).1 (qU_ ht).2 (by show 1 ≤ 3; decide) (fun s hs' => by
  have hs2 : s ∈ [x] := hs';simp at hs2; subst hs2; exact hs)))
 rcases hr with hr | ⟨β1, ro, tags, hr, ht, ⟨_, rfl⟩ | ⟨_, i0, i, hi, hth⟩⟩
 ·exact hr.new hd hl
 ·exact (hr.new hd hl).trans (hv β1 ro tags ht)
 ·exact ((hr.new hd hl).trans (hv β1 ro tags ht)).trans (hth.new hn)
theorem MoreS.segs {β β' : Be} {l l' : List Sg} (h : MoreS β l β' l') (hd : Dn β) : (∀ s ∈ l', s ∈ l ∨ SOk s) ∧ l'.length ≤ l.length + 1 := by
 have hone : ∀ s : Sg, SOk s → (∀ t ∈ l ++ [s], t ∈ l ∨ SOk t) ∧ (l ++ [s]).length ≤ l.length + 1 := fun s hs => ⟨fun t ht => by
  rcases List.mem_append.1 ht with ht | ht
  ·exact .inl ht
  ·simp at ht; subst ht; exact .inr hs, by simp⟩
 obtain ⟨n, h1, h3, ⟨rfl, kind, _, rfl⟩ | ⟨d, hr, rfl⟩ | ⟨d, a, hr, rfl⟩ | ⟨d, a, β1, d2, hr, hr2, rfl⟩ | ⟨d, a, β1, d2, a2, k, hr, hr2, _, _, rfl⟩⟩ := h
 ·exact hone _ (yU_ (Nat.zero_le _) (Nat.zero_le _) (fun x hx => by cases hx) (by decide) (by decide))
 ·exact ⟨fun s hs => .inl hs, by omega⟩
 ·exact hone _ (yU_ (by simp) (Nat.zero_le _) (fun x hx => by simp at hx; subst hx; exact hr.on hd) (by decide) (by decide))
 ·exact ⟨fun s hs => .inl hs, by omega⟩
 ·have ha := hr.on hd
  have hb := hr2.on (fun d hd' => hd d (by rw [← hr.g]; exact hd'));exact hone _ (yU_ (by simp) (Nat.zero_le _) (fun x hx => by simp at hx; rcases hx with rfl | rfl <;> assumption) (by decide) (by decide))
theorem MoreR.segs {k : Nat} {β β' : Be} {l l' : List Sg} (h : MoreR k β l β' l') (hd : Dn β) : (∀ s ∈ l', s ∈ l ∨ SOk s) ∧ l'.length ≤ l.length + k := by
 induction h with
 | nil => exact ⟨fun s hs => .inl hs, by omega⟩
 | snoc h hs ih =>
  obtain ⟨h1, h2⟩ := ih hd;have hg := h.g.1;obtain ⟨h3, h4⟩ := hs.segs (fun d hd' => hd d (by rw [← hg]; exact hd'));exact ⟨fun s hs => (h3 s hs).elim (h1 s) .inr, by omega⟩
theorem GrpS.new {β β' : Be} {name : ByteArray} (h : GrpS β name β') (hd : Dn β) (hn : name.size ≤ 50) : New β β' := by
 obtain ⟨n, _, _, h⟩ | ⟨n, d, a, β1, k, β2, l', _, _, h1, hk, h2, rfl⟩ | h | ⟨kind, _, h⟩ := h
 ·exact h.new hd (by omega)
 ·have hd1 : Dn (z3_ β) := fun d hd' => hd d hd'
  have ha := h1.on hd1;have hg1 := h1.g
  have hd2 : Dn (β1.add (yC_ name (idB β) false n a)) := fun d hd' => hd d (by
   have : d ∈ β1.g.disks := hd';rw [hg1] at this; exact this)
  obtain ⟨h3, h4⟩ := h2.segs hd2
  have hvs : β2.g.vols = β.g.vols ++ [yC_ name (idB β) false n a] := by
   rw [h2.g.1];show β1.g.vols ++ [_] = _
   rw [hg1]; rfl
  intro v hv;have hv' : v ∈ β2.g.vols.dropLast ++ [({ yC_ name (idB β) false n a with segs := l' } : Vo)] := hv;rw [hvs, List.dropLast_concat] at hv';rcases List.mem_append.1 hv' with hv' | hv'
  ·exact .inl hv'
  ·simp at hv'
   subst hv';refine .inr (.of (by show name.size ≤ 100; omega) (Nat.zero_le _) (fun t ht => by cases ht) (by simp at h4; show l'.length ≤ 3; omega) (fun s hs => ?_));rcases h3 s hs with hs | hs
   ·simp at hs; subst hs
    exact yU_ (by simp) (Nat.zero_le _) (fun x hx => by simp at hx; subst hx; exact ha) (by decide) (by decide)
   ·exact hs
 ·exact h.new hd (by omega)
 ·exact h.new hd hn
def HeadG (β β' : Be) : Prop := β'.g.name = β.g.name ∧ β'.g.tags = β.g.tags
theorem HeadG.trans {β β1 β2 : Be} (h : HeadG β β1) (h' : HeadG β1 β2) : HeadG β β2 := ⟨h'.1.trans h.1, h'.2.trans h.2⟩
theorem x5_ {β β' : Be} (h : β'.g = β.g) : HeadG β β' := by rw [HeadG, h]; exact ⟨rfl, rfl⟩
theorem ThinsR.headg {name : ByteArray} {i0 i : Nat} {β β' : Be} (h : ThinsR name i0 i β β') : HeadG β β' := by
 induction h with
 | nil β => exact ⟨rfl, rfl⟩
 | snoc h hz hv ih => exact ih
theorem HidR.headg {l : List (ByteArray × Int)} {β β' : Be} {ok : Bool} (h : HidR β l ok β') : HeadG β β' := by
 obtain ⟨vs, m, e, _⟩ := h.g
 rw [HeadG, e]; exact ⟨rfl, rfl⟩
theorem GrpS.headg {β β' : Be} {name : ByteArray} (h : GrpS β name β') : HeadG β β' := by
 obtain ⟨n, _, _, h⟩ | ⟨n, d, a, β1, k, β2, l', _, _, h1, _, h2, rfl⟩ | h | ⟨kind, _, h⟩ := h
 ·obtain ⟨l, e, _⟩ := h.g
  rw [HeadG, e]; exact ⟨rfl, rfl⟩
 ·exact (x5_ h1.g : HeadG (z3_ β) β1).trans (x5_ h2.g.1 : HeadG _ β2)
 ·obtain ⟨n, k, l, h, _⟩ | ⟨k, n, l, β1, _, _, _, _, h, rfl⟩ := h
  ·exact x5_ h.g
  ·exact (x5_ h.g : HeadG β β1)
 ·obtain ⟨n, l, x, h1, h3, hx, hr⟩ := h
  rcases hr with hr | ⟨β1, ro, tags, hr, _, ⟨_, rfl⟩ | ⟨_, i0, i, hi, ht⟩⟩
  ·exact hr.headg
  ·exact (hr.headg : HeadG β β1)
  ·exact (hr.headg : HeadG β β1).trans ht.headg
theorem GrpsR.new {i0 i : Nat} {β β' : Be} (h : GrpsR i0 i β β') (hd : Dn β) : New β β' := by
 induction h with
 | nil => exact .refl _
 | snoc h hs ih => exact (ih hd).trans (hs.new (hd.keep h.keep) (by show 1 ≤ 50; decide))
theorem GrpsR.far {i0 i : Nat} {β β' : Be} (h : GrpsR i0 i β β') (he : 1 ≤ β.g.extent ∧ β.g.extent ≤ 16) : i ≤ i0 ∧ Far (7 * (i0 - i)) (7 * (i0 - i)) β β' := by
 induction h with
 | nil β => exact ⟨Nat.le_refl _, (Far.of_g rfl).mono (by omega) (by omega)⟩
 | snoc h hs ih =>
  obtain ⟨h1, h2⟩ := ih he;exact ⟨by omega, (h2.trans (hs.far (by rw [h.keep.2]; exact he))).mono (by omega) (by omega)⟩
theorem XV_ (k : Nat) : (pvN k).size = 3 := by simp [pvN, digB, ByteArray.size_append]; rfl
theorem GrpR.bd {γ : Gr} (h : GrpR γ) : BdG γ ∧ γ.hist.length ≤ 10 ∧ γ.vols.length ≤ 30 ∧ ∀ v ∈ γ.vols, ∀ s ∈ v.segs, s.areas.length ≤ 5 := by
 obtain ⟨id, seq, ext, tags, disks, n0, β, hh, _, _, _, _, hext, htags, hd1, hd4, hdk, hn0, hgr, hh2, rfl⟩ := h
 have hdn : ∀ d ∈ disks, d.name.size ≤ 100 ∧ d.tags.Sublist tagL := fun d hd => by
  obtain ⟨k, hk⟩ := List.getElem?_of_mem hd;obtain ⟨h1, _, _, _, _, h6⟩ := hdk k d hk;exact ⟨by rw [h1, XV_]; omega, h6⟩
 have hD : Dn ⟨G0 id seq ext tags disks, xE_ disks.length⟩ := fun d hd => (hdn d hd).1
 have hnew := hgr.new hD
 have hvk : ∀ v ∈ β.g.vols, VOk v := fun v hv => (hnew v hv).elim (fun h => by cases h) (fun h => h)
 have hkp := hgr.keep
 have hfar := (hgr.far (by show 1 ≤ ext ∧ ext ≤ 16; rcases hext with rfl | rfl | rfl | rfl | rfl <;> omega)).2
 have hvl : β.g.vols.length ≤ 28 := by have := hfar.vols; have e : (G0 id seq ext tags disks).vols.length = 0 := rfl; dsimp only at this; rw [e] at this; omega
 have hst : ∀ {i : Nat} {β1 β2 : Be}, GrpsR n0 i β1 β2 → β2.g.name = β1.g.name ∧ β2.g.tags = β1.g.tags := fun h => by
  induction h with
  | nil => exact ⟨rfl, rfl⟩
  | snoc h hs ih =>
   have e := GrpS.headg hs;exact ⟨e.1.trans ih.1, e.2.trans ih.2⟩
 obtain ⟨e1, e2⟩ := hst hgr
 have hhl : (yk_ hh 0).length = hh := by simp [yk_]
 refine ⟨⟨by show β.g.name.size ≤ 100; rw [e1]; exact (by decide : 2 ≤ 100), by show β.g.tags.length ≤ 4; rw [e2]; exact (qU_ htags).1, fun t ht => (qU_ htags).2 t (by rw [← show β.g.tags = tags from e2]; exact ht), by show 1 ≤ β.g.disks.length ∧ β.g.disks.length ≤ 4; rw [hkp.1]; exact ⟨hd1, hd4⟩, by show β.g.vols.length ≤ 40; omega, by show (yk_ hh 0).length ≤ 40; omega, fun x hx => ?_, fun d hd => ?_, fun v hv => (hvk v hv).1⟩, by show (yk_ hh 0).length ≤ 10; omega, by show β.g.vols.length ≤ 30; omega, fun v hv => (hvk v hv).2⟩
 ·have hx' : x ∈ yk_ hh 0 := hx
  unfold yk_ at hx';obtain ⟨q, _, rfl⟩ := List.mem_map.1 hx';exact (by decide : 3 ≤ 100)
 ·have hd' : d ∈ β.g.disks := hd
  rw [hkp.1] at hd';obtain ⟨h1, h6⟩ := hdn d hd';exact ⟨h1, (qU_ h6).1, (qU_ h6).2⟩
end Go.Proofs.YtdkcfgahdcpkkaaDoor
