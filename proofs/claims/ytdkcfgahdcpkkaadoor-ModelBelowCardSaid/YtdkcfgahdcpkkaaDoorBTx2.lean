/- Lists of texts: laws that tell where the row lies; the law's has. -/
import Derived.Test.YtdkcfgahdcpkkaaDoorBBd
import Derived.Test.YtdkcfgahdcpkkaaDoorBNeeds
set_option linter.all false
set_option linter.unusedVariables false
set_option linter.unusedSimpArgs false
namespace Go.Proofs.YtdkcfgahdcpkkaaDoor
open Go.RowKit
set_option maxRecDepth 100000
def hd0 (s : ByteArray) : Option UInt8 := s.data[0]?
def namesV (vs : List Vo) : List ByteArray := vs.map (·.name)
theorem namesV_append (a b : List Vo) : namesV (a ++ b) = namesV a ++ namesV b := by simp [namesV]
/-- new volumes: their names are distinct, and begin as 'name' does -/
structure NewN (name : ByteArray) (vs vs' : List Vo) : Prop where
 add : ∃ ws, namesV vs' = namesV vs ++ ws ∧ ws.Nodup ∧ ∀ s ∈ ws, hd0 s = hd0 name
theorem NewN.none {name : ByteArray} {vs vs' : List Vo} (h : namesV vs' = namesV vs) : NewN name vs vs' := ⟨⟨[], by simp [h], by simp, by simp⟩⟩
theorem ba_ext {a b : ByteArray} (h : a.data.toList = b.data.toList) : a = b := by
 obtain ⟨⟨l⟩⟩ := a
 obtain ⟨⟨m⟩⟩ := b
 simp only at h
 subst h
 rfl
theorem ba_toList (a b : ByteArray) : (a ++ b).data.toList = a.data.toList ++ b.data.toList := by simp
theorem hd0_append {a b : ByteArray} (h : 0 < a.size) : hd0 (a ++ b) = hd0 a := by
 unfold hd0
 have e : ∀ c : ByteArray, c.data[0]? = c.data.toList[0]? := fun c => by simp
 rw [e, e, ba_toList, List.getElem?_append_left (by simpa using h)]
theorem suf_inj {a b c : ByteArray} (h : a ++ b = a ++ c) : b = c := by
 have h2 := congrArg (fun s : ByteArray => s.data.toList) h
 simp only [ba_toList] at h2
 exact ba_ext (List.append_cancel_left h2)
/-- names of parts, by what is appended -/
def sufN (name : ByteArray) (l : List ByteArray) : List ByteArray := l.map (name ++ ·)
theorem sufN_nodup {name : ByteArray} {l : List ByteArray} (h : l.Nodup) : (sufN name l).Nodup := by
 unfold sufN
 refine List.Pairwise.map _ (fun a b hab e => hab (suf_inj e)) h
theorem sufN_hd {name : ByteArray} {l : List ByteArray} (hn : 0 < name.size) : ∀ s ∈ sufN name l, hd0 s = hd0 name := fun s hs => by
 unfold sufN at hs
 obtain ⟨t, _, rfl⟩ := List.mem_map.1 hs
 exact hd0_append hn
theorem append_nil_ba (a : ByteArray) : a ++ (⟨#[]⟩ : ByteArray) = a := ba_ext (by simp)
/-- what is appended -/
def legS (i : Nat) : ByteArray := ⟨#[95, 108, 101, 103]⟩ ++ digB i
theorem ba_assoc (a b c : ByteArray) : a ++ b ++ c = a ++ (b ++ c) := ba_ext (by simp)
theorem legN_suf (name : ByteArray) (i : Nat) : legN name i = name ++ legS i := by unfold legN legS; rw [ba_assoc]
theorem thinN_suf (name : ByteArray) (i : Nat) : thinN name i = name ++ (⟨#[116]⟩ ++ digB i) := by unfold thinN; rw [ba_assoc]
theorem LinR.names {β β' : Be} {name : ByteArray} {hid : Bool} {n : Int} {ok : Bool} (h : LinR β name hid n ok β') : namesV β'.g.vols = namesV β.g.vols ++ (if ok then [name] else []) := by
 obtain ⟨rfl, rfl⟩ | ⟨rfl, d, a, β2, hr, rfl⟩ := h
 ·simp [nextB]
 ·show namesV (β2.g.vols ++ [linVo name (idB β) hid n a]) = _
  rw [hr.g, namesV_append]
  rfl
theorem LinsR.names {l : List (ByteArray × Int)} {β β' : Be} (h : LinsR l β β') : namesV β'.g.vols = namesV β.g.vols ++ l.map Prod.fst := by
 induction h with
 | nil => simp
 | snoc h hr ih => rw [hr.names, ih]; simp
theorem HidR.names {l : List (ByteArray × Int)} {β β' : Be} {ok : Bool} (h : HidR β l ok β') : namesV β'.g.vols = namesV β.g.vols ++ (if ok then l.map Prod.fst else []) := by
 obtain ⟨rfl, h⟩ | ⟨rfl, m, _, _, rfl⟩ := h
 ·rw [h.names]; rfl
 ·simp
theorem ThinsR.names {name : ByteArray} {i0 i : Nat} {β β' : Be} (h : ThinsR name i0 i β β') : i ≤ i0 ∧ namesV β'.g.vols = namesV β.g.vols ++ (List.range (i0 - i)).map (fun q => thinN name (i0 - q)) := by
 induction h with
 | nil β => exact ⟨Nat.le_refl _, by simp⟩
 | @snoc i β β1 z h hz hv ih =>
  obtain ⟨h1, h2⟩ := ih
  refine ⟨by omega, ?_⟩
  have e : ((nextB β1).add (thinVo name (idB β1) (i + 1) z)).g.vols = β1.g.vols ++ [thinVo name (idB β1) (i + 1) z] := rfl
  rw [e, namesV_append, h2, show i0 - i = (i0 - (i + 1)) + 1 by omega, List.range_succ, List.map_append, ← List.append_assoc]
  congr 1
  simp only [List.map_cons, List.map_nil]
  rw [show i0 - (i0 - (i + 1)) = i + 1 by omega]
  rfl
/-- the names that a compound volume hides, by what is appended -/
theorem CmpX.sufx {name : ByteArray} {kind e n : Int} {l : List (ByteArray × Int)} {x : Sg} (h : CmpX name kind e n l x) : ∃ m : List ByteArray, l.map Prod.fst = sufN name m ∧ (m ++ [(⟨#[]⟩ : ByteArray)] ++ [(⟨#[116]⟩ : ByteArray) ++ digB 2, (⟨#[116]⟩ : ByteArray) ++ digB 1]).Nodup := by
 obtain ⟨_, k, c, lg, st, h2, h3, _, _, hst, rfl, _⟩ | ⟨_, k, c, h3, h4, _, rfl, _⟩ | ⟨_, m, c, h1, h3, _, _, rfl, _⟩ | ⟨_, d, c, m, h1, h2, _, _, _, _, rfl, _⟩ := h
 ·refine ⟨(List.range k).map legS ++ (if lg then [⟨#[95, 108, 111, 103]⟩] else []), ?_, ?_⟩
  ·rw [List.map_fst_zip (by cases lg <;> simp [legsN_len])]
   unfold sufN
   rw [List.map_append]
   congr 1
   ·unfold legsN
    rw [List.map_map]
    exact List.map_congr_left (fun i _ => legN_suf name i)
   ·cases lg <;> rfl
  ·rcases (show k = 2 ∨ k = 3 by omega) with rfl | rfl <;> cases lg <;> decide
 ·refine ⟨(List.range k).map legS, ?_, ?_⟩
  ·rw [List.map_fst_zip (by simp [legsN_len])]
   unfold sufN legsN
   rw [List.map_map]
   exact List.map_congr_left (fun i _ => legN_suf name i)
  ·rcases (show k = 3 ∨ k = 4 by omega) with rfl | rfl <;> decide
 ·exact ⟨[⟨#[95, 109, 101, 116, 97]⟩, ⟨#[95, 100, 97, 116, 97]⟩], rfl, by decide⟩
 ·exact ⟨[⟨#[95, 108, 101, 103, 48]⟩, ⟨#[95, 100, 97, 116, 97]⟩, ⟨#[95, 109, 101, 116, 97]⟩], rfl, by decide⟩
theorem thins_sub {i0 i : Nat} (h : i0 ≤ 2) : ((List.range (i0 - i)).map fun q => (⟨#[116]⟩ : ByteArray) ++ digB (i0 - q)).Sublist [(⟨#[116]⟩ : ByteArray) ++ digB 2, (⟨#[116]⟩ : ByteArray) ++ digB 1] := by
 rcases (show i0 = 0 ∨ i0 = 1 ∨ i0 = 2 by omega) with rfl | rfl | rfl
 ·simp
 ·rcases (show i = 0 ∨ 1 ≤ i by omega) with rfl | hi
  ·simp
  ·rw [show 1 - i = 0 by omega]; simp
 ·rcases (show i = 0 ∨ i = 1 ∨ 2 ≤ i by omega) with rfl | rfl | hi
  ·simp [List.range_succ]
  ·simp [List.range_succ]
  ·rw [show 2 - i = 0 by omega]; simp
theorem CompR.names {β β' : Be} {name : ByteArray} {kind : Int} (h : CompR β name kind β') (hn : 0 < name.size) : NewN name β.g.vols β'.g.vols := by
 obtain ⟨n, l, x, h1, h3, hx, hr⟩ := h
 obtain ⟨m, hm, hnd⟩ := hx.sufx
 have hcmp : ∀ (β1 : Be) (ro : Bool) (tags : List ByteArray), HidR β l true β1 → namesV ((nextB β1).add (cmpVo name (idB β1) ro tags x)).g.vols = namesV β.g.vols ++ sufN name (m ++ [(⟨#[]⟩ : ByteArray)]) := fun β1 ro tags hr => by
  have e : ((nextB β1).add (cmpVo name (idB β1) ro tags x)).g.vols = β1.g.vols ++ [cmpVo name (idB β1) ro tags x] := rfl
  rw [e, namesV_append, hr.names, if_pos rfl, hm, List.append_assoc]
  congr 1
  unfold sufN
  rw [List.map_append]
  congr 1
  simp only [List.map_cons, List.map_nil]
  rw [append_nil_ba]
  rfl
 rcases hr with hr | ⟨β1, ro, tags, hr, _, ⟨_, rfl⟩ | ⟨_, i0, i, hi, ht⟩⟩
 ·exact .none (by rw [hr.names]; simp)
 ·exact ⟨⟨_, hcmp β1 ro tags hr, sufN_nodup (List.nodup_append.1 hnd).1, sufN_hd hn⟩⟩
 ·refine ⟨⟨sufN name (m ++ [(⟨#[]⟩ : ByteArray)] ++ (List.range (i0 - i)).map fun q => (⟨#[116]⟩ : ByteArray) ++ digB (i0 - q)), ?_, sufN_nodup (hnd.sublist ((List.Sublist.refl _).append (thins_sub hi))), sufN_hd hn⟩⟩
  have e : (List.range (i0 - i)).map (fun q => thinN name (i0 - q)) = sufN name ((List.range (i0 - i)).map fun q => (⟨#[116]⟩ : ByteArray) ++ digB (i0 - q)) := by
   unfold sufN
   rw [List.map_map]
   exact List.map_congr_left (fun q _ => thinN_suf name (i0 - q))
  rw [ht.names.2, hcmp β1 ro tags hr, List.append_assoc, e]
  congr 1
  unfold sufN
  rw [List.map_append (l₁ := m ++ _)]
theorem GrpS.names {β β' : Be} {name : ByteArray} (h : GrpS β name β') (hn : 0 < name.size) : NewN name β.g.vols β'.g.vols := by
 have hone : ∀ vs : List Vo, namesV vs = namesV β.g.vols ++ [name] → NewN name β.g.vols vs := fun vs e => ⟨⟨[name], e, by simp, by simp⟩⟩
 obtain ⟨n, _, _, h⟩ | ⟨n, d, a, β1, k, β2, l', _, _, h1, hk, h2, rfl⟩ | h | ⟨kind, _, h⟩ := h
 ·exact .none (by rw [h.names]; simp)
 ·refine hone _ ?_
  have hvs : β2.g.vols = β.g.vols ++ [linVo name (idB β) false n a] := by
   rw [h2.g.1]
   show β1.g.vols ++ [_] = _
   rw [h1.g]; rfl
  show namesV (β2.g.vols.dropLast ++ [({ linVo name (idB β) false n a with segs := l' } : Vo)]) = _
  rw [hvs, List.dropLast_concat, namesV_append]
  rfl
 ·obtain ⟨n, k, l, h⟩ | ⟨k, n, l, β1, h2, h3, _, _, h, rfl⟩ := h
  ·exact .none (by rw [h.g])
  ·refine hone _ ?_
   show namesV (β1.g.vols ++ [strVo name (idB β1) k n l]) = _
   rw [namesV_append, h.g]
   rfl
 ·exact h.names hn
theorem nmG_hd (i : Nat) : hd0 (nmG i) = some (97 + i).toUInt8 := rfl
theorem GrpsR.names {i0 i : Nat} {β β' : Be} (h : GrpsR i0 i β β') (hi0 : i0 ≤ 4) (h0 : β.g.vols = []) : i ≤ i0 ∧ (namesV β'.g.vols).Nodup ∧ ∀ s ∈ namesV β'.g.vols, ∃ j, i < j ∧ j ≤ i0 ∧ hd0 s = some (97 + j).toUInt8 := by
 induction h with
 | nil => exact ⟨Nat.le_refl _, by rw [h0]; simp [namesV], by rw [h0]; simp [namesV]⟩
 | @snoc i β β1 β2 h hs ih =>
  obtain ⟨h1, h2, h3⟩ := ih h0
  obtain ⟨ws, e, hw, hh⟩ := (hs.names (by show 0 < 1; decide)).add
  refine ⟨by omega, ?_, fun s hs => ?_⟩
  ·rw [e]
   refine List.nodup_append.2 ⟨h2, hw, fun a ha b hb eab => ?_⟩
   obtain ⟨j, j1, j2, j3⟩ := h3 a ha
   have h4 := hh b hb
   rw [← eab, j3, nmG_hd] at h4
   injection h4 with h4
   have h5 := congrArg UInt8.toNat h4
   simp at h5
   omega
  ·rw [e] at hs
   rcases List.mem_append.1 hs with hs | hs
   ·obtain ⟨j, j1, j2, j3⟩ := h3 s hs
    exact ⟨j, by omega, j2, j3⟩
   ·exact ⟨i + 1, by omega, by omega, by rw [hh s hs, nmG_hd]⟩
theorem GrpR.names {γ : Gr} (h : GrpR γ) : (namesV γ.vols).Nodup := by
 obtain ⟨id, seq, ext, tags, disks, n0, β, hh, _, _, _, _, hext, htags, hd1, hd4, hdk, hn0, hgr, hh2, rfl⟩ := h
 exact (hgr.names hn0 rfl).2.1
end Go.Proofs.YtdkcfgahdcpkkaaDoor
namespace Go.Proofs.YtdkcfgahdcpkkaaDoor
open Go.RowKit
set_option maxRecDepth 100000
section
variable {vs : List Vo} {ds : List Dk} {v : Vo}
theorem first_nodup : ∀ {vs : List Vo} {v : Vo}, (namesV vs).Nodup → v ∈ vs → firstV vs v.name = some v
 | [], v, _, h => by cases h
 | u :: vs, v, hn, h => by
  have hn' : u.name ∉ namesV vs ∧ (namesV vs).Nodup := by simpa [namesV] using hn
  unfold firstV
  by_cases e : u.name = v.name
  ·rw [List.find?_cons_of_pos (by simp [e])]
   rcases List.mem_cons.1 h with h | h
   ·rw [h]
   ·exact absurd (e ▸ List.mem_map_of_mem h : u.name ∈ namesV vs) hn'.1
  ·rw [List.find?_cons_of_neg (by simp [e])]
   rcases List.mem_cons.1 h with h | h
   ·exact absurd (by rw [h]) e
   ·exact first_nodup hn'.2 h
theorem link_nodup (hn : (namesV vs).Nodup) (hv : v ∈ vs) : linkV vs v.name = some (usesV v) := by rw [linkV_first, first_nodup hn hv]; rfl
theorem link_key {x : ByteArray} : linkV vs x ≠ none ↔ ∃ v ∈ vs, v.name = x := by
 constructor
 ·intro h
  cases e : linkV vs x with
  | none => exact absurd e h
  | some l => obtain ⟨v, hv, e, _⟩ := linkV_some e; exact ⟨v, hv, e⟩
 ·rintro ⟨v, hv, e⟩ h
  exact linkV_none.1 h v hv e
open Classical in
theorem mem_belowR {name x : ByteArray} : x ∈ belowR vs name ↔ Rch (linkV vs) name x := by
 unfold belowR
 rw [mem_pickL]
 constructor
 ·exact fun h => of_decide_eq_true h.1
 ·exact fun h => ⟨decide_eq_true h, link_key.1 h.key⟩
open Classical in
theorem mem_atR {name x : ByteArray} : x ∈ atR vs name ↔ (x = name ∨ Rch (linkV vs) name x) ∧ ∃ v ∈ vs, v.name = x := by
 unfold atR
 rw [mem_pickL]
 exact ⟨fun h => ⟨of_decide_eq_true h.1, h.2⟩, fun h => ⟨decide_eq_true h.1, h.2⟩⟩
theorem mem_usersR {name x : ByteArray} : x ∈ usersR vs name ↔ name ∈ (linkV vs x).getD [] ∧ ∃ v ∈ vs, v.name = x := by
 unfold usersR
 rw [mem_pickL]
 exact ⟨fun h => ⟨of_decide_eq_true h.1, h.2⟩, fun h => ⟨decide_eq_true h.1, h.2⟩⟩
theorem mem_diskN {l : List ByteArray} {y : ByteArray} : y ∈ diskN vs l ↔ ∃ x ∈ l, ∃ v, firstV vs x = some v ∧ y ∈ diskV v := by
 unfold diskN
 rw [List.mem_flatten]
 constructor
 ·rintro ⟨m, hm, hy⟩
  obtain ⟨x, hx, rfl⟩ := List.mem_map.1 hm
  cases h : firstV vs x with
  | none => rw [h] at hy; cases hy
  | some v => rw [h] at hy; exact ⟨x, hx, v, h, hy⟩
 ·rintro ⟨x, hx, v, h, hy⟩
  exact ⟨_, List.mem_map.2 ⟨x, hx, rfl⟩, by rw [h]; exact hy⟩
theorem mem_needsR {name y : ByteArray} : y ∈ needsR vs ds name ↔ (∃ x, (x = name ∨ Rch (linkV vs) name x) ∧ ∃ v, firstV vs x = some v ∧ y ∈ diskV v) ∧ ∃ d ∈ ds, d.name = y := by
 unfold needsR
 rw [mem_pickD]
 have e : decide (y ∈ diskN vs (atR vs name)) = true ↔ ∃ x, (x = name ∨ Rch (linkV vs) name x) ∧ ∃ v, firstV vs x = some v ∧ y ∈ diskV v := by
  rw [decide_eq_true_iff, mem_diskN]
  constructor
  ·rintro ⟨x, hx, v, h1, h2⟩
   exact ⟨x, (mem_atR.1 hx).1, v, h1, h2⟩
  ·rintro ⟨x, hx, v, h1, h2⟩
   exact ⟨x, mem_atR.2 ⟨hx, v, (mem_first h1).1, (mem_first h1).2⟩, v, h1, h2⟩
 rw [e]
/-- all below, as the law lists it -/
noncomputable def allR (vs : List Vo) (used : List ByteArray) : List ByteArray := (used.map fun u => u :: belowR vs u).flatten
noncomputable def disksR (vs : List Vo) (ds : List Dk) (used : List ByteArray) : List ByteArray := (used.map fun u => needsR vs ds u).flatten
theorem allR_take {used : List ByteArray} {k : Nat} {u : ByteArray} (h : used[k]? = some u) : allR vs (used.take (k + 1)) = allR vs (used.take k) ++ [u] ++ belowR vs u := by
 obtain ⟨h1, e1⟩ := List.getElem?_eq_some_iff.1 h
 rw [List.take_succ_eq_append_getElem h1, e1]
 simp [allR]
theorem disksR_take {used : List ByteArray} {k : Nat} {u : ByteArray} (h : used[k]? = some u) : disksR vs ds (used.take (k + 1)) = disksR vs ds (used.take k) ++ needsR vs ds u := by
 obtain ⟨h1, e1⟩ := List.getElem?_eq_some_iff.1 h
 rw [List.take_succ_eq_append_getElem h1, e1]
 simp [disksR]
/-- a volume is below another one exactly if that one uses it, or uses one that it is below -/
theorem law_below (hn : (namesV vs).Nodup) (hv : v ∈ vs) {n : ByteArray} (hk : ∃ u ∈ vs, u.name = n) : n ∈ allR vs (usesV v) ↔ n ∈ belowR vs v.name := by
 rw [mem_belowR]
 unfold allR
 rw [List.mem_flatten]
 have hl := link_nodup hn hv
 constructor
 ·rintro ⟨m, hm, hy⟩
  obtain ⟨u, hu, rfl⟩ := List.mem_map.1 hm
  rcases List.mem_cons.1 hy with rfl | hy
  ·exact .one hl hu (link_key.2 hk)
  ·exact .cons hl hu (mem_belowR.1 hy)
 ·intro h
  obtain ⟨l, e, h⟩ := h.head
  rw [hl] at e
  injection e with e
  subst e
  rcases h with h | ⟨u, hu, h⟩
  ·exact ⟨_, List.mem_map.2 ⟨n, h, rfl⟩, by simp⟩
  ·exact ⟨_, List.mem_map.2 ⟨u, hu, rfl⟩, by simp [mem_belowR.2 h]⟩
theorem law_users (hn : (namesV vs).Nodup) (hv : v ∈ vs) {n : ByteArray} : n ∈ usesV v ↔ v.name ∈ usersR vs n := by
 rw [mem_usersR, link_nodup hn hv]
 exact ⟨fun h => ⟨h, v, hv, rfl⟩, fun h => h.1⟩
theorem law_needs (hn : (namesV vs).Nodup) (hv : v ∈ vs) {y : ByteArray} (hk : ∃ d ∈ ds, d.name = y) : y ∈ disksR vs ds (usesV v) ++ diskV v ↔ y ∈ needsR vs ds v.name := by
 rw [mem_needsR, List.mem_append]
 have hl := link_nodup hn hv
 unfold disksR
 rw [List.mem_flatten]
 constructor
 ·rintro (⟨m, hm, hy⟩ | h)
  ·obtain ⟨u, hu, rfl⟩ := List.mem_map.1 hm
   obtain ⟨⟨x, hx, w, h1, h2⟩, _⟩ := mem_needsR.1 hy
   refine ⟨⟨x, .inr ?_, w, h1, h2⟩, hk⟩
   have hkx : linkV vs x ≠ none := link_key.2 ⟨w, (mem_first h1).1, (mem_first h1).2⟩
   rcases hx with rfl | hx
   ·exact .one hl hu hkx
   ·exact .cons hl hu hx
  ·exact ⟨⟨v.name, .inl rfl, v, first_nodup hn hv, h⟩, hk⟩
 ·rintro ⟨⟨x, hx, w, h1, h2⟩, _⟩
  rcases hx with rfl | hx
  ·rw [first_nodup hn hv] at h1
   injection h1 with h1
   subst h1
   exact .inr h2
  ·left
   obtain ⟨l, e, h⟩ := hx.head
   rw [hl] at e
   injection e with e
   subst e
   rcases h with h | ⟨u, hu, h⟩
   ·exact ⟨_, List.mem_map.2 ⟨x, h, rfl⟩, mem_needsR.2 ⟨⟨x, .inl rfl, w, h1, h2⟩, hk⟩⟩
   ·exact ⟨_, List.mem_map.2 ⟨u, hu, rfl⟩, mem_needsR.2 ⟨⟨x, .inr h, w, h1, h2⟩, hk⟩⟩
end
/-- the bounds of the look-ups, out of those of groups -/
theorem usesS_len (s : Sg) : (usesS s).length ≤ s.areas.length + 2 := by
 rw [usesS_eq]
 have := usedA_len s.areas
 simp only [List.length_append]
 split <;> split <;> simp <;> omega
theorem usesL_bd : ∀ {l : List Sg} {m : Nat}, (∀ s ∈ l, s.areas.length ≤ m) → (usesL l).length ≤ l.length * (m + 2)
 | [], m, _ => by simp [usesL]
 | s :: l, m, h => by
  have h1 := usesS_len s
  have h2 := h s (by simp)
  have h3 := usesL_bd (l := l) (m := m) (fun t ht => h t (by simp [ht]))
  have e : usesL (s :: l) = usesS s ++ usesL l := by simp [usesL]
  rw [e, List.length_append, List.length_cons, Nat.succ_mul]
  omega
theorem cntA_bd : ∀ {l : List Sg} {m : Nat}, (∀ s ∈ l, s.areas.length ≤ m) → cntA l ≤ l.length * m
 | [], m, _ => by simp [cntA]
 | s :: l, m, h => by
  have h2 := h s (by simp)
  have h3 := cntA_bd (l := l) (m := m) (fun t ht => h t (by simp [ht]))
  rw [cntA, List.length_cons, Nat.succ_mul]
  omega
theorem usesS_sz {s : Sg} (h : BdS s) : ∀ x ∈ usesS s, x.size ≤ 100 := fun x hx => by
 rw [usesS_eq] at hx
 simp only [List.mem_append] at hx
 rcases hx with (hx | hx) | hx
 ·unfold usedA at hx
  obtain ⟨a, ha, rfl⟩ := List.mem_map.1 hx
  exact h.on a (List.mem_filter.1 ha).1
 ·split at hx
  ·cases hx
  ·simp at hx; rw [hx]; exact h.log
 ·split at hx
  ·cases hx
  ·simp at hx; rw [hx]; exact h.pool
theorem restN_bd (m : Nat) : ∀ {vs : List Vo}, (∀ v ∈ vs, (usesV v).length ≤ m) → restN vs [] ≤ vs.length * m
 | [], _ => by simp [restN]
 | v :: vs, h => by
  have h1 := h v (by simp)
  have h2 := restN_bd m (vs := vs) (fun u hu => h u (by simp [hu]))
  rw [restN, if_neg (by simp), List.length_cons, Nat.succ_mul]
  omega
theorem BdV.uses {v : Vo} (h : BdV v) : (usesV v).length ≤ 24 := by
 have h1 := usesL_bd (l := v.segs) (m := 6) (fun s hs => (h.seg s hs).areas)
 have h2 := h.segs
 show (usesL v.segs).length ≤ 24
 omega
theorem BdG.nd {γ : Gr} (h : BdG γ) : NdB γ := by
 have h1 := h.vols
 have h2 := h.disks.2
 refine ⟨⟨by omega, fun v hv => ?_, fun v hv => ?_, ?_⟩, fun v hv => ?_, fun v hv => ?_, by omega, fun v hv s hs => ?_, fun v hv s hs a ha => ?_, by omega, fun d hd => ?_⟩
 ·have hb := h.vol v hv
  exact ⟨by have := hb.segs; omega, fun s hs => by have := (hb.seg s hs).areas; omega, by have := hb.uses; omega⟩
 ·have := (h.vol v hv).name; omega
 ·have := restN_bd 24 (vs := γ.vols) (fun v hv => (h.vol v hv).uses); omega
 ·have hb := h.vol v hv
  exact ⟨by have := hb.tags; omega, by have := hb.segs; omega, fun s hs => ⟨by have := (hb.seg s hs).areas; omega, by have := (hb.seg s hs).stale; omega⟩⟩
 ·have hb := h.vol v hv
  have := cntA_bd (l := v.segs) (m := 6) (fun s hs => (hb.seg s hs).areas)
  have := hb.segs
  omega
 ·have hb := h.vol v hv
  have hs' : s ∈ usesL v.segs := hs
  unfold usesL at hs'
  obtain ⟨m, hm, hx⟩ := List.mem_flatten.1 hs'
  obtain ⟨t, ht, rfl⟩ := List.mem_map.1 hm
  have := usesS_sz (hb.seg t ht) s hx
  omega
 ·have := ((h.vol v hv).seg s hs).on a ha; omega
 ·have := (h.disk d hd).name; omega
end Go.Proofs.YtdkcfgahdcpkkaaDoor
namespace Go.Proofs.YtdkcfgahdcpkkaaDoor
open Go.RowKit
set_option maxRecDepth 100000
/-- where an appended row lies -/
def Whr (w : World) (v v' : Value) : Prop := v'.ownBlock = v.ownBlock ∨ v'.ownBlock = some w.heap.size
section
variable {w0 w : World} {base : Nat} {v : Value} {l : List ByteArray} {ops : Array Oper} {o : Oper} {a : Act} {Q : Exit → Act → World → Prop} {K : Act → World → Prop} {E : Prop}
theorem wp_cat2 {S : Nat → Prop} {A2 : Option Addr} {c2 : Nat} {m : List ByteArray} (x y : Operand) (ho : o.op = .call { callee := .builtin .append, args := #[x, y], argTypes := #[26, 26] }) (h : TxS w0 base v l w) (hm : TL w S (.slice A2 m.length c2) m) (hl : l.length ≤ 4000000) (hl2 : m.length ≤ 4000000)
  (hx : a.eval x = v) (hy : a.eval y = .slice A2 m.length c2) (hK : ∀ A n c w', n = l.length + m.length → TxS w0 base (.slice A n c) (l ++ m) w' → Only (fun k => v.ownBlock = some k) w w' → Whr w v (.slice A n c) → K (a.put o.dst (.slice A n c)) w') : Oper.wp Tryd.prog o a w K Q := by
 obtain ⟨i0, hi0, hz0, hz1, hz2⟩ := info_parts infoT
 refine wp_append_any w x y 26 ho base 9 i0 _ 1 16 Tryd.underlying26 hi0 hz0 hz1 hz2 rfl (by decide) v l.length (txV l) hx h.row w.heap.size A2 m.length c2 (txV m) hy ?_ (txV_one m) (by unfold maxLen; omega) (by omega) h.lo.2 ?_
 ·refine ⟨by rw [txV_len]; omega, fun h0 => ?_⟩
  obtain ⟨ad, x, e, _, _, hlt, _⟩ := hm.cell h0
  subst e
  refine ⟨ad, rfl, hlt, fun j u hu => ?_⟩
  have hj : j < m.length := by have := (List.getElem?_eq_some_iff.1 hu).1; rwa [txV_len] at this
  obtain ⟨ad', x', e', hx', _, _, hc⟩ := hm.cell hj
  injection e' with e'
  subst e'
  unfold txV at hu
  rw [List.getElem?_map, hx'] at hu
  simp at hu
  rw [hc, hu]
 ·intro v' w' h1 h2 h3
  obtain ⟨A, c, rfl, _⟩ := ownsRow_formT h1
  have hon : Only (fun k => v.ownBlock = some k) w w' := (Only.refl _ w).grown h2 (fun k e => .inl e)
  exact hK A _ c w' rfl ⟨by rw [List.length_append, txV_append]; exact h1, h.bel.trans (hon.below h.bel.size (fun k e => Nat.le_trans h.lo.1 (h.lt e).1)), h.lo.1, Nat.le_trans h.lo.2 hon.size⟩ hon h3
theorem one_tl {g : Nat} {s : ByteArray} (hb : Blk w g 9 #[.string s]) : TL w (fun k => k = g) (.slice (some ⟨g, 0, none⟩) [s].length 1) [s] := by
 refine ⟨_, 1, rfl, Nat.le_refl _, fun _ => ⟨_, rfl, rfl, hb.lt, fun k x hk => ?_⟩⟩
 have hlt := (List.getElem?_eq_some_iff.1 hk).1
 obtain rfl : k = 0 := by simp at hlt; exact hlt
 simp at hk
 subst hk
 show w.cell? _ = _
 rw [Nat.zero_mul, addT_zero, hb.cell]
 rfl
theorem step_cat2 {S : Nat → Prop} {A2 : Option Addr} {c2 : Nat} {m : List ByteArray} (hgd : o.guard = none) (x y : Operand) (ho : o.op = .call { callee := .builtin .append, args := #[x, y], argTypes := #[26, 26] }) (h : TxS w0 base v l w) (hm : TL w S (.slice A2 m.length c2) m) (hl : l.length ≤ 4000000) (hl2 : m.length ≤ 4000000)
  (hx : a.eval x = v) (hy : a.eval y = .slice A2 m.length c2) (hK : ∀ A n c w', n = l.length + m.length → TxS w0 base (.slice A n c) (l ++ m) w' → Only (fun k => v.ownBlock = some k) w w' → Whr w v (.slice A n c) → K (a.put o.dst (.slice A n c)) w') : if Region.wanted o (yielded ops a.tmps) = true then Oper.wp Tryd.prog o a w K Q else E := by
 rw [if_pos (by simp [Region.wanted, hgd])]
 exact wp_cat2 x y ho h hm hl hl2 hx hy hK
theorem step_tx2 {g : Nat} {s : ByteArray} (hgd : o.guard = none) (x y : Operand) (ho : o.op = .call { callee := .builtin .append, args := #[x, y], argTypes := #[26, 26] }) (h : TxS w0 base v l w) (hb : Blk w g 9 #[.string s]) (hl : l.length ≤ 4000000)
  (hx : a.eval x = v) (hy : a.eval y = .slice (some ⟨g, 0, none⟩) 1 1) (hK : ∀ A n c w', n = l.length + 1 → TxS w0 base (.slice A n c) (l ++ [s]) w' → Only (fun k => v.ownBlock = some k) w w' → Whr w v (.slice A n c) → K (a.put o.dst (.slice A n c)) w') : if Region.wanted o (yielded ops a.tmps) = true then Oper.wp Tryd.prog o a w K Q else E :=
 step_cat2 hgd x y ho h (one_tl hb) hl (by simp) hx hy hK
theorem wpList_tx2 {rest : List Oper} {g : Nat} {s : ByteArray} (hgd : o.guard = none) (x y : Operand) (ho : o.op = .call { callee := .builtin .append, args := #[x, y], argTypes := #[26, 26] }) (h : TxS w0 base v l w) (hb : Blk w g 9 #[.string s]) (hl : l.length ≤ 4000000)
  (hx : a.eval x = v) (hy : a.eval y = .slice (some ⟨g, 0, none⟩) 1 1) (hK : ∀ A n c w', n = l.length + 1 → TxS w0 base (.slice A n c) (l ++ [s]) w' → Only (fun k => v.ownBlock = some k) w w' → Whr w v (.slice A n c) → wpList Tryd.prog ops Q rest (a.put o.dst (.slice A n c)) w') : wpList Tryd.prog ops Q (o :: rest) a w :=
 wpList_plain hgd fun _ hk => wp_cat2 x y ho h (one_tl hb) hl (by simp) hx hy (fun A n c w' h1 h2 h3 h4 => hk _ _ (hK A n c w' h1 h2 h3 h4))
end
/-- two lists that lie apart -/
def Apart (v v' : Value) : Prop := ∀ k, v.ownBlock = some k → v'.ownBlock ≠ some k
theorem Apart.left {w0 w : World} {base : Nat} {v v1 v' : Value} {l : List ByteArray} (h : Apart v v') (ht : TxS w0 base v' l w) (hw : Whr w v v1) : Apart v1 v' := fun k hk e => by
 rcases hw with hw | hw
 ·exact h k (hw ▸ hk) e
 ·rw [hw] at hk; injection hk with hk; have := (ht.lt e).2; omega
theorem Apart.right {w0 w : World} {base : Nat} {v v1 v' : Value} {l : List ByteArray} (h : Apart v v') (ht : TxS w0 base v l w) (hw : Whr w v' v1) : Apart v v1 := fun k hk e => by
 rcases hw with hw | hw
 ·exact h k hk (hw ▸ e)
 ·rw [hw] at e; injection e with e; have := (ht.lt hk).2; omega
set_option maxHeartbeats 4000000 in
theorem has_any {w : World} {S : Nat → Prop} {A : Option Addr} {c : Nat} {l : List ByteArray} (s : ByteArray) (h : TL w S (.slice A l.length c) l) (hl : l.length ≤ 9000000) :
  Calls Tryd.prog 20 #[.slice A l.length c, .string s] w (Ret (.bool (decide (s ∈ l))) w) := by
 have HL := Lib.hid h
 clear h
 go_enter Tryd.func20, Tryd.ntmps20
 go_wp2_with fail
 go_loopw [5] (fun v wr => ∃ k : Nat, k ≤ l.length ∧ v = .int .i64 (k : Int) ∧ (∀ j x, j < k → l[j]? = some x → x ≠ s) ∧ Below w.heap.size w wr) (fun v _ => l.length - (intOf v).toNat)
 case atStart => exact ⟨0, Nat.zero_le _, rfl, fun j x h => absurd h (Nat.not_lt_zero _), Below.refl _ _⟩
 case round =>
  obtain ⟨k, hk, rfl, hn, hb⟩ := hrel
  have HN := Lib.hid hn
  have HB := Lib.hid hb
  clear hn hb
  by_cases hlt : k < l.length
  ·have z0 : (k : Int) < (l.length : Int) := by omega
   have z1 : (0 : Int) ≤ (k : Int) := by omega
   obtain ⟨ad, x, rfl, hx, _, had, hc⟩ := (HL.out.up HB.out).cell hlt
   have HX := Lib.hid hx
   clear hx
   by_cases hs : x = s
   ·subst hs
    have q : (x.toList == x.toList) = true := by simp
    have HD := Lib.hid (show x ∈ l from List.mem_of_getElem? HX.out)
    go_wp2_with fail
    go_ret
    exact ⟨by rw [decide_eq_true HD.out]; rfl, HB.out⟩
   ·have q : (x.toList == s.toList) = false := by rw [bytes_beq, decide_eq_false hs]
    have HS := Lib.hid hs
    clear hs
    go_wp2_with fail
    go_roundw
    case rel => exact ⟨k + 1, by omega, by go_num, fun j y hj hy => by
     rcases Nat.lt_or_ge j k with h | h
     ·exact HN.out j y h hy
     ·obtain rfl : j = k := by omega
      rw [HX.out] at hy; injection hy with hy; exact fun e => HS.out (by rw [hy, e]), HB.out⟩
    case measure => simp [intOf]; omega
  ·obtain rfl : k = l.length := by omega
   have HD := Lib.hid (show ¬ s ∈ l from fun h => by
    obtain ⟨j, hj⟩ := List.getElem?_of_mem h
    exact HN.out j s (List.getElem?_eq_some_iff.1 hj).1 hj rfl)
   go_wp2_with fail
   go_ret
   exact ⟨by rw [decide_eq_false HD.out]; rfl, HB.out⟩
end Go.Proofs.YtdkcfgahdcpkkaaDoor
