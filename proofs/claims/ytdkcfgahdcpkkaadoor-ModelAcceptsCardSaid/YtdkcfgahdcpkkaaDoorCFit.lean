/- What the rules that came before say: each rule may be called. -/
import Derived.Test.YtdkcfgahdcpkkaaDoorCSizes
import Derived.Test.YtdkcfgahdcpkkaaDoorCOver2
import Derived.Test.YtdkcfgahdcpkkaaDoorCUse8
set_option linter.all false
namespace Go.Proofs.YtdkcfgahdcpkkaaDoor
open Go.RowKit
set_option maxRecDepth 100000
theorem XL_ {w : World} {S : Nat → Prop} {gc cb lb : Nat} {TC TM : TypeId} {g : Gr} {At Ad Av Ah : Option Addr} {ct cd cv ch : Nat} {vm : Value} (h : Ck w gc g At Ad Av Ah ct cd cv ch vm) (hcb : Blk w cb TC #[.pointer (some ⟨gc, 0, none⟩)]) (hlb : Blk w lb TM #[.func (.func 85) #[] #[.pointer (some ⟨cb, 0, none⟩)]]) (hz : SzG g) {v : Vo} {s : Sg} {A0 A1 Bt Bs : Option Addr} {d0 d1 bt bs : Nat} (har : AL w S (.slice A0 s.areas.length d0) s.areas) (hf : FitZ g s) :
  Calls Tryd.prog 86 #[.agg (voA v (.slice Bt v.tags.length bt) (.slice Bs v.segs.length bs)), .agg (sgA s (.slice A0 s.areas.length d0) (.slice A1 s.stale.length d1)), .pointer (some ⟨lb, 0, none⟩), .pointer (some ⟨cb, 0, none⟩)] w (Ret (.int .i64 (z5_ g s)) w) := by
 by_cases h3 : s.kind = 3
 ·exact YB_ h hcb hlb hz har hf h3
 by_cases h4 : s.kind = 4
 ·exact YA_ h hcb hlb hz har hf h4
 by_cases h5 : s.kind = 5
 ·exact Yz_ h hcb hlb hz har hf h5
 by_cases h7 : s.kind = 7
 ·exact Yy_ h hcb hlb hz har hf h7
 exact YC_ h hcb hlb hz har hf h3 h4 h5 h7
structure Fit6 (g : Gr) : Prop where
 sz : SzG g
 segs : ∀ v ∈ g.vols, v.segs.length ≤ 64
 fit : ∀ v ∈ g.vols, ∀ s ∈ v.segs, FitZ g s
theorem jY_ {w w' : World} (h : Only (fun _ => False) w w') : Bel w w' := h.below (Nat.le_refl _) (fun _ h => h.elim)
theorem jh_ {w : World} {g : Nat} {t : TypeId} {cs : Array Value} (h : Blk w g t cs) (k : Nat) (hk : k < cs.size) (f : FuncId) (p : Value) :
  (store ⟨g, k, none⟩ (.func (Fn.func f) #[] #[p])).run Tryd.prog w = .ok () (w.setCell ⟨g, k, none⟩ (.func (Fn.func f) #[] #[p])) := by
 rw [run_store _ _ _ _ _ rfl, h.cell, h.frozen, Array.getElem?_eq_getElem hk]
 rfl
set_option maxHeartbeats 4000000 in
theorem Yx_ {w : World} {gc : Nat} {g : Gr} {At Ad Av Ah : Option Addr} {ct cd cv ch : Nat} {vm : Value} (h : Ck w gc g At Ad Av Ah ct cd cv ch vm) (hf : Fit6 g) :
  Calls Tryd.prog 38 #[.pointer (some ⟨gc, 0, none⟩)] w (Ret (zU_ (kR_ g)) w) := by
 have hs1 : (w.alloc (.cells #[.pointer (some ⟨gc, 0, none⟩)] 81)).heap.size = w.heap.size + 1 := by simp
 have hb0 := Blk.new (w.alloc (.cells #[.pointer (some ⟨gc, 0, none⟩)] 81)) 128 #[.nilFunc]
 rw [hs1] at hb0
 have c1 := jh_ hb0 0 (by decide) 85 (.pointer (some ⟨w.heap.size, 0, none⟩))
 have hby := Blk.new (w.alloc (.cells #[.pointer (some ⟨gc, 0, none⟩)] 81)) 128 #[.func (.func 85) #[] #[.pointer (some ⟨w.heap.size, 0, none⟩)]]
 rw [hs1] at hby
 have hbx : Blk ((w.alloc (.cells #[.pointer (some ⟨gc, 0, none⟩)] 81)).alloc (.cells #[.func (.func 85) #[] #[.pointer (some ⟨w.heap.size, 0, none⟩)]] 128)) w.heap.size 81 #[.pointer (some ⟨gc, 0, none⟩)] := (Blk.new w _ _).alloc _
 have hw2 : Bel w ((w.alloc (.cells #[.pointer (some ⟨gc, 0, none⟩)] 81)).alloc (.cells #[.func (.func 85) #[] #[.pointer (some ⟨w.heap.size, 0, none⟩)]] 128)) := ((Below.refl _ _).al _).al _
 have HE := hD (qH_ (h.up hw2) (Below.refl _ _) (F := fun _ => False) (fun _ h => h.elim) 86 Tryd.call86 #[.pointer (some ⟨w.heap.size + 1, 0, none⟩), .pointer (some ⟨w.heap.size, 0, none⟩)] (f := fun _ _ _ s => z5_ g s) hf.segs (fun _ _ _ => True) trivial (fun _ _ _ _ h _ _ => h) (fun _ _ _ _ h => h)
  (fun S w' k m v s Bt bt Bs bs A0 A1 d0 d1 ho hv hs _ _ htl hsl har hst => by
   have hb := jY_ ho;exact (XL_ (v := v) (Bt := Bt) (bt := bt) (Bs := Bs) (bs := bs) (A1 := A1) (d1 := d1) ((h.up hw2).up hb) (hbx.below hb hbx.lt) (hby.below hb hby.lt) hf.sz har (hf.fit v (List.mem_of_getElem? hv) s (List.mem_of_getElem? hs))).mono fun e w'' ⟨he, hb⟩ => ⟨he, Only.of_below _ hb, fun _ => trivial⟩))
 have HB := hD hw2
 have HS := hD (show kR_ g = qR_ (fun _ _ _ s => z5_ g s) g from rfl)
 clear h hbx hby hb0 hw2 hf hs1
 go_enter Tryd.func38, Tryd.ntmps38
 go_wp2_with fail
 refine HE.out.mono ?_
 rintro e w5 ⟨he, ho5, _⟩
 subst he
 have HB5 := hD (HB.out.next (jY_ ho5))
 clear ho5
 unfold zU_
 go_wp2_with fail
 go_ret2
 exact ⟨by rw [HS.out]; rfl, HB5.out⟩
structure InB (g : Gr) : Prop where
 zg : Szg g
 dn : ∀ d ∈ g.disks, d.name.size ≤ 1000000
 vn : ∀ v ∈ g.vols, v.name.size ≤ 1000000
 stale : ∀ v ∈ g.vols, ∀ s ∈ v.segs, s.stale.length ≤ 1000000
theorem qC_ {α : Type} {f : Nat → α → Int} {nm : α → ByteArray} : ∀ (l : List α) (k0 : Nat), (zM_ f nm k0 l).2 = 0 → ∀ j y, l[j]? = some y → f (k0 + j) y = 0
 | [], _, _, j, y, h => by simp at h
 | x :: l, k0, hz, j, y, h => by
  unfold zM_ at hz;by_cases hf : f k0 x = 0
  ·rw [if_pos hf] at hz
   cases j with
   | zero => simp at h; subst h; exact hf
   | succ j =>
    have := qC_ l (k0 + 1) hz j y (by simpa using h);rwa [show k0 + 1 + j = k0 + (j + 1) by omega] at this
  ·rw [if_neg hf] at hz
   exact absurd hz hf
theorem yg_ {α : Type} {f : Nat → α → Int} {nm : α → ByteArray} {l : List α} (h : (zM_ f nm 0 l).2 = 0) {j : Nat} {y : α} (hy : l[j]? = some y) : f j y = 0 := by
 have := qC_ l 0 h j y hy
 rwa [Nat.zero_add] at this
theorem qW_ {l : List ByteArray} (h : yj_ l = 0) : l.length ≤ 8 := by
 unfold yj_ at h
 by_cases h8 : 8 < l.length
 ·rw [if_pos h8] at h; cases h
 ·omega
structure R1 (g : Gr) : Prop where
 name : visB g.name = true
 seq : 0 ≤ g.seq ∧ g.seq ≤ 1048575
 ext : 1 ≤ g.extent ∧ g.extent ≤ 1024
 next : 0 ≤ g.next ∧ g.next ≤ 1073741824
 disks : g.disks.length ≤ 8
 vols : g.vols.length ≤ 32
 hist : g.hist.length ≤ 32
 tags : yj_ g.tags = 0
 hists : g.hist.all yH_ = true
theorem yI_ {g : Gr} (h : yT_ g = 0) : R1 g := by
 unfold yT_ at h
 by_cases h1 : visB g.name = false
 ·rw [if_pos h1] at h; cases h
 rw [if_neg h1] at h
 by_cases h2 : g.seq < 0 ∨ 1048575 < g.seq ∨ g.extent < 1 ∨ 1024 < g.extent ∨ g.next < 0 ∨ 1073741824 < g.next
 ·rw [if_pos h2] at h; cases h
 rw [if_neg h2] at h
 by_cases h3 : 8 < g.disks.length ∨ 32 < g.vols.length ∨ 32 < g.hist.length
 ·rw [if_pos h3] at h; cases h
 rw [if_neg h3] at h
 by_cases h4 : yj_ g.tags = 0
 ·rw [if_pos h4] at h
  by_cases h5 : g.hist.all yH_ = true
  ·exact ⟨by simpa using h1, by omega, by omega, by omega, by omega, by omega, by omega, h4, h5⟩
  ·rw [if_neg h5] at h; cases h
 ·rw [if_neg h4] at h
  exact absurd h h4
structure R2 (g : Gr) (k : Nat) (d : Dk) : Prop where
 name : visB d.name = true
 once : x0_ g k d = false
 first : 0 ≤ d.first ∧ d.first ≤ 65536
 ext : 0 ≤ d.ext ∧ d.ext ≤ 4096
 fit : d.first + d.ext * g.extent ≤ 65536
 tags : yj_ d.tags = 0
theorem Xl_ {g : Gr} {k : Nat} {d : Dk} (h : xC_ g k d = 0) : R2 g k d := by
 unfold xC_ at h
 by_cases h1 : visB d.name = false
 ·rw [if_pos h1] at h; cases h
 rw [if_neg h1] at h
 by_cases h2 : x0_ g k d = true
 ·rw [if_pos h2] at h; cases h
 rw [if_neg h2] at h
 by_cases h3 : d.first < 0 ∨ 65536 < d.first ∨ d.ext < 0 ∨ 4096 < d.ext ∨ 65536 < d.first + d.ext * g.extent
 ·rw [if_pos h3] at h; cases h
 rw [if_neg h3] at h
 have h4 : ¬ 65536 < d.first + d.ext * g.extent := fun hh => h3 (.inr (.inr (.inr (.inr hh))))
 exact ⟨by simpa using h1, by simpa using h2, by omega, by omega, by omega, h⟩
theorem yJ_ {g : Gr} (h : (yl_ g).2 = 0) {k : Nat} {d : Dk} (hd : g.disks[k]? = some d) : R2 g k d := Xl_ (yg_ h hd)
theorem kO_ {g : Gr} {k : Nat} {d : Dk} (h : x0_ g k d = false) {j : Nat} {x : Dk} (hj : j < k) (hx : g.disks[j]? = some x) : x.name ≠ d.name ∧ x.id ≠ d.id := by
 unfold x0_ at h
 rw [List.any_eq_false] at h
 have := h x (List.mem_of_getElem? (i := j) (by rw [List.getElem?_take_of_lt hj]; exact hx))
 simpa using this
theorem Qg_ {g : Gr} (h : (yl_ g).2 = 0) : ∀ d ∈ g.disks, ∀ d' ∈ g.disks, d.name = d'.name → d = d' := fun d hd d' hd' e => by
 obtain ⟨j, hj⟩ := List.getElem?_of_mem hd
 obtain ⟨j', hj'⟩ := List.getElem?_of_mem hd'
 rcases Nat.lt_trichotomy j j' with hl | hl | hl
 ·exact absurd e (kO_ (yJ_ h hj').once hl hj).1
 ·subst hl; rw [hj] at hj'; injection hj'
 ·exact absurd e.symm (kO_ (yJ_ h hj).once hl hj').1
structure R3 (g : Gr) (k : Nat) (v : Vo) : Prop where
 name : (if v.hid then hidB v.name else visB v.name) = true
 once : qT_ g k v = false
 segs : 1 ≤ v.segs.length ∧ v.segs.length ≤ 64
 tags : yj_ v.tags = 0
theorem XD_ {g : Gr} {k : Nat} {v : Vo} (h : volE g k v = 0) : R3 g k v := by
 unfold volE at h
 by_cases h1 : (if v.hid then hidB v.name else visB v.name) = false
 ·rw [if_pos h1] at h; cases h
 rw [if_neg h1] at h
 by_cases h2 : qT_ g k v = true
 ·rw [if_pos h2] at h; cases h
 rw [if_neg h2] at h
 by_cases h3 : v.segs.length < 1 ∨ 64 < v.segs.length
 ·rw [if_pos h3] at h; cases h
 rw [if_neg h3] at h
 exact ⟨by simpa using h1, by simpa using h2, by omega, h⟩
theorem jM_ {g : Gr} (h : (yw_ g).2 = 0) {k : Nat} {v : Vo} (hv : g.vols[k]? = some v) : R3 g k v := XD_ (yg_ h hv)
structure R4 (extent : Int) (s : Sg) (x : Sh) : Prop where
 shape : zp_ s.kind = some x
 len : 1 ≤ s.len ∧ s.len ≤ 32768
 areas : x.least ≤ s.areas.length ∧ (s.areas.length : Int) ≤ x.greatest
 area : s.areas.all (areaOk x) = true
 chunk : chunkedB extent s x = true
 log : x.log = true ∨ s.log = ⟨#[]⟩
 pool : x.pool = true ∨ s.pool = ⟨#[]⟩
 stale : markedB s x = true
 dev : withinI s.dev 1 65535 x.pool = true
 mode : withinI s.mode 1 2 x.mode = true
 done : withinI s.done 0 s.len x.done = true
 h2 : s.kind = 2 → s.len.tmod s.areas.length = 0
 h4 : s.kind = 4 → s.len.tmod (s.areas.length - 1) = 0
theorem kD_ {extent : Int} {s : Sg} {start : Int} (h : zm_ extent s start = true) : s.start = start ∧ ∃ x, R4 extent s x := by
 unfold zm_ at h
 cases hq : zp_ s.kind with
 | none => rw [hq] at h; cases h
 | some x =>
  rw [hq] at h;simp only [Bool.and_eq_true, decide_eq_true_eq, Bool.or_eq_true, Bool.not_eq_true', decide_eq_false_iff_not] at h;obtain ⟨⟨⟨⟨⟨⟨⟨⟨⟨⟨⟨⟨⟨⟨h1, h2⟩, h3⟩, h4⟩, h5⟩, h6⟩, h7⟩, h8⟩, h9⟩, h10⟩, h11⟩, h12⟩, h13⟩, h14⟩, h15⟩ := h;exact ⟨h1, x, hq, ⟨h2, h3⟩, ⟨h4, h5⟩, h6, h7, h8, h9, h10, h11, h12, h13, fun e => h14.resolve_left (fun hn => hn e), fun e => h15.resolve_left (fun hn => hn e)⟩
theorem qZ_ {extent : Int} {one : Bool} : ∀ (l : List Sg) (st : Int), ym_ extent one st l = 0 → ∀ s ∈ l, (∃ x, R4 extent s x) ∧ (one = true ∨ z6_ s.kind = true)
 | [], _, _, s, h => by cases h
 | x :: l, st, hz, s, h => by
  unfold ym_ at hz;by_cases h1 : zm_ extent x st = false
  ·rw [if_pos h1] at hz; cases hz
  rw [if_neg h1] at hz;by_cases h2 : one = false ∧ z6_ x.kind = false
  ·rw [if_pos h2] at hz; cases hz
  rw [if_neg h2] at hz;rcases List.mem_cons.1 h with rfl | h
  ·refine ⟨(kD_ (start := st) (by simpa using h1)).2, ?_⟩
   cases one with
   | true => exact .inl rfl
   | false => exact .inr (by simpa using h2)
  ·exact qZ_ l _ hz s h
theorem zR_ {g : Gr} (h : (zF_ g).2 = 0) {v : Vo} (hv : v ∈ g.vols) {s : Sg} (hs : s ∈ v.segs) : ∃ x, R4 g.extent s x := by
 obtain ⟨k, hk⟩ := List.getElem?_of_mem hv
 exact (qZ_ _ _ (yg_ h hk) s hs).1
theorem yr_ {k : Int} {x : Sh} (h : zp_ k = some x) : (k = 1 ∧ x = ⟨1, 1, false, true, 0, false, false, false, false, false⟩) ∨ (k = 2 ∧ x = ⟨2, 6, false, true, 1, false, false, false, false, false⟩) ∨ (k = 3 ∧ x = ⟨2, 6, true, false, 1024, true, false, true, false, false⟩) ∨ (k = 4 ∧ x = ⟨3, 6, true, false, 1, true, false, false, false, false⟩) ∨ (k = 5 ∧ x = ⟨2, 2, true, false, 64, false, false, false, false, false⟩) ∨ (k = 6 ∧ x = ⟨0, 0, false, false, 0, false, true, false, false, false⟩) ∨ (k = 7 ∧ x = ⟨3, 3, true, false, 64, false, false, false, true, false⟩) ∨ (k = 8 ∧ x = ⟨2, 2, false, true, 0, false, false, false, false, true⟩) ∨ ((k = 9 ∨ k = 10) ∧ x = ⟨0, 0, false, true, 0, false, false, false, false, false⟩) := by
 unfold zp_ at h
 by_cases h1 : k = 1
 ·rw [if_pos h1] at h; injection h with h; exact .inl ⟨h1, h.symm⟩
 rw [if_neg h1] at h
 by_cases h2 : k = 2
 ·rw [if_pos h2] at h; injection h with h; exact .inr (.inl ⟨h2, h.symm⟩)
 rw [if_neg h2] at h
 by_cases h3 : k = 3
 ·rw [if_pos h3] at h; injection h with h; exact .inr (.inr (.inl ⟨h3, h.symm⟩))
 rw [if_neg h3] at h
 by_cases h4 : k = 4
 ·rw [if_pos h4] at h; injection h with h; exact .inr (.inr (.inr (.inl ⟨h4, h.symm⟩)))
 rw [if_neg h4] at h
 by_cases h5 : k = 5
 ·rw [if_pos h5] at h; injection h with h; exact .inr (.inr (.inr (.inr (.inl ⟨h5, h.symm⟩))))
 rw [if_neg h5] at h
 by_cases h6 : k = 6
 ·rw [if_pos h6] at h; injection h with h; exact .inr (.inr (.inr (.inr (.inr (.inl ⟨h6, h.symm⟩)))))
 rw [if_neg h6] at h
 by_cases h7 : k = 7
 ·rw [if_pos h7] at h; injection h with h; exact .inr (.inr (.inr (.inr (.inr (.inr (.inl ⟨h7, h.symm⟩))))))
 rw [if_neg h7] at h
 by_cases h8 : k = 8
 ·rw [if_pos h8] at h; injection h with h; exact .inr (.inr (.inr (.inr (.inr (.inr (.inr (.inl ⟨h8, h.symm⟩)))))))
 rw [if_neg h8] at h
 by_cases h9 : k = 9 ∨ k = 10
 ·rw [if_pos h9] at h; injection h with h; exact .inr (.inr (.inr (.inr (.inr (.inr (.inr (.inr ⟨h9, h.symm⟩)))))))
 rw [if_neg h9] at h
 cases h
structure R5 (g : Gr) (v : Vo) (s : Sg) : Prop where
 exist : zv_ g s = true
 inside : s.areas.all (zN_ g s) = true
 named : zt_ v s = true
 thin : s.kind = 6 → x5_ (yb_ g s.pool) = 5
 leaf : (zq_ s false).any (zz_ g) = false
theorem XQ_ {g : Gr} {v : Vo} {s : Sg} (h : refE g v s = 0) : R5 g v s := by
 unfold refE at h
 by_cases h1 : zv_ g s = false
 ·rw [if_pos h1] at h; cases h
 rw [if_neg h1] at h
 by_cases h2 : s.areas.all (zN_ g s) = false
 ·rw [if_pos h2] at h; cases h
 rw [if_neg h2] at h
 by_cases h3 : zt_ v s = false
 ·rw [if_pos h3] at h; cases h
 rw [if_neg h3] at h
 by_cases h4 : s.kind = 6 ∧ x5_ (yb_ g s.pool) ≠ 5
 ·rw [if_pos h4] at h; cases h
 rw [if_neg h4] at h
 by_cases h5 : (zq_ s false).any (zz_ g) = true
 ·rw [if_pos h5] at h; cases h
 exact ⟨by simpa using h1, by simpa using h2, by simpa using h3, fun e => Classical.byContradiction fun hn => h4 ⟨e, hn⟩, by simpa using h5⟩
theorem qq_ {g : Gr} (h : (x6_ (refE g) g).2 = 0) {v : Vo} (hv : v ∈ g.vols) {s : Sg} (hs : s ∈ v.segs) : R5 g v s := by
 obtain ⟨k, hk⟩ := List.getElem?_of_mem hv
 obtain ⟨m, hm⟩ := List.getElem?_of_mem hs
 exact XQ_ (yg_ (yg_ h hk) hm)
theorem Xi_ {g : Gr} {n : ByteArray} {v : Vo} (h : yb_ g n = some v) : v ∈ g.vols ∧ v.name = n := ⟨List.mem_of_find?_eq_some h, by have := List.find?_some h; simpa [isVo] using this⟩
theorem qD_ {g : Gr} {n : ByteArray} {d : Dk} (h : yt_ g n = some d) : d ∈ g.disks ∧ d.name = n := ⟨List.mem_of_find?_eq_some h, by have := List.find?_some h; simpa [isDk] using this⟩
theorem ja_ {g : Gr} {s : Sg} (h : zv_ g s = true) {n : ByteArray} (hn : n ∈ zq_ s true) : ∃ v ∈ g.vols, v.name = n := by
 unfold zv_ at h
 rw [Bool.and_eq_true, List.all_eq_true, List.all_eq_true] at h
 have := h.2 n hn
 cases hq : yb_ g n with
 | none => rw [hq] at this; cases this
 | some v => exact ⟨v, Xi_ hq⟩
theorem Jp_ {extent : Int} {s : Sg} {x : Sh} (h : R4 extent s x) : FitS s := by
 have ha := h.areas
 refine ⟨h.len, ?_, fun e => ?_, fun e => ?_⟩
 all_goals rcases yr_ h.shape with ⟨h1, rfl⟩ | ⟨h1, rfl⟩ | ⟨h1, rfl⟩ | ⟨h1, rfl⟩ | ⟨h1, rfl⟩ | ⟨h1, rfl⟩ | ⟨h1, rfl⟩ | ⟨h1, rfl⟩ | ⟨h1, rfl⟩
 all_goals simp only at ha
 all_goals omega
theorem qd_ {extent : Int} {s : Sg} {x : Sh} (h : R4 extent s x) : s.areas.length ≤ 6 := by
 have ha := h.areas
 rcases yr_ h.shape with ⟨h1, rfl⟩ | ⟨h1, rfl⟩ | ⟨h1, rfl⟩ | ⟨h1, rfl⟩ | ⟨h1, rfl⟩ | ⟨h1, rfl⟩ | ⟨h1, rfl⟩ | ⟨h1, rfl⟩ | ⟨h1, rfl⟩
 all_goals simp only at ha
 all_goals omega
theorem Jo_ {g : Gr} {s : Sg} {x : Sh} (h1 : R1 g) (h : R4 g.extent s x) : FitZ g s := by
 have ha := h.areas
 have hc := h.chunk
 have hl := qd_ h
 refine ⟨h.len, h1.ext, by omega, fun e => ?_, fun e => ?_, fun e => ?_, fun e => ?_⟩
 all_goals rcases yr_ h.shape with ⟨h1, rfl⟩ | ⟨h1, rfl⟩ | ⟨h1, rfl⟩ | ⟨h1, rfl⟩ | ⟨h1, rfl⟩ | ⟨h1, rfl⟩ | ⟨h1, rfl⟩ | ⟨h1, rfl⟩ | ⟨h1, rfl⟩
 all_goals simp only at ha
 all_goals try omega
 unfold chunkedB at hc
 simp at hc
 omega
theorem Qr_ {g : Gr} (hb : InB g) (h1 : R1 g) (h2 : (yl_ g).2 = 0) (h3 : (yw_ g).2 = 0) (h4 : (zF_ g).2 = 0) : SzG g := by
 have d1 := h1.disks
 have d2 := h1.vols
 refine ⟨by omega, fun d hd => ?_, by omega, fun v hv => ?_⟩
 ·obtain ⟨k, hk⟩ := List.getElem?_of_mem hd
  have := qW_ (yJ_ h2 hk).tags;omega
 ·obtain ⟨k, hk⟩ := List.getElem?_of_mem hv
  have h5 := jM_ h3 hk;have := qW_ h5.tags;refine ⟨by omega, by have := h5.segs; omega, fun s hs => ?_⟩;obtain ⟨x, hx⟩ := zR_ h4 hv hs;have := qd_ hx;exact ⟨by omega, hb.stale v hv s hs⟩
theorem qp_ {g : Gr} (h3 : (yw_ g).2 = 0) : ∀ v ∈ g.vols, v.segs.length ≤ 64 := fun v hv => by
 obtain ⟨k, hk⟩ := List.getElem?_of_mem hv
 exact (jM_ h3 hk).segs.2
theorem Ju_ {g : Gr} (hb : InB g) (h1 : R1 g) (h2 : (yl_ g).2 = 0) (h3 : (yw_ g).2 = 0) (h4 : (zF_ g).2 = 0) : Fit5 g :=
 ⟨Qr_ hb h1 h2 h3 h4, fun d hd => by
  obtain ⟨k, hk⟩ := List.getElem?_of_mem hd;exact (yJ_ h2 hk).ext, qp_ h3, hb.vn, fun v hv s hs => by
  obtain ⟨x, hx⟩ := zR_ h4 hv hs;exact Jp_ hx⟩
theorem Jt_ {g : Gr} (hb : InB g) (h1 : R1 g) (h2 : (yl_ g).2 = 0) (h3 : (yw_ g).2 = 0) (h4 : (zF_ g).2 = 0) : Fit6 g :=
 ⟨Qr_ hb h1 h2 h3 h4, qp_ h3, fun v hv s hs => by
  obtain ⟨x, hx⟩ := zR_ h4 hv hs;exact Jo_ h1 hx⟩
theorem Qe_ {extent : Int} {s : Sg} {x : Sh} (h : R4 extent s x) : 1 ≤ zZ_ s := by
 unfold zZ_
 have hl := h.len
 by_cases h2 : s.kind = 2 ∧ 0 < s.areas.length
 ·rw [if_pos h2]
  have hm := h.h2 h2.1;have hp : (0 : Int) < s.areas.length := by have := h2.2; omega
  rw [Int.tdiv_eq_ediv_of_nonneg (by omega)];rw [Int.tmod_eq_emod_of_nonneg (by omega)] at hm;have he := Int.emod_add_mul_ediv s.len s.areas.length;rw [hm, Int.zero_add] at he;by_cases hq0 : 0 < s.len / (s.areas.length : Int)
  ·omega
  ·exfalso
   have hq : s.len / (s.areas.length : Int) ≤ 0 := by omega
   have := Int.mul_le_mul_of_nonneg_left hq (Int.le_of_lt hp);rw [he] at this;omega
 ·rw [if_neg h2]
  exact hl.1
theorem Jq_ {g : Gr} {v : Vo} {s : Sg} {x : Sh} (h4 : R4 g.extent s x) (h5 : R5 g v s) : FitO g s := by
 refine ⟨h4.len, by have := qd_ h4; omega, fun a ha hv => ?_⟩
 have h1 := h5.exist
 unfold zv_ at h1
 rw [Bool.and_eq_true, List.all_eq_true] at h1
 have h2 := h1.1 a ha
 rw [hv, Bool.false_or] at h2
 have h3 := h5.inside
 rw [List.all_eq_true] at h3
 have h6 := h3 a ha
 unfold zN_ at h6
 rw [hv, Bool.false_or] at h6
 cases hq : yt_ g a.on with
 | none => rw [hq] at h2; cases h2
 | some d =>
  rw [hq] at h6;simp only [Bool.and_eq_true, decide_eq_true_eq] at h6;exact ⟨d, (qD_ hq).1, (qD_ hq).2, h6.1.1, Qe_ h4, by omega⟩
theorem YH_ {s : Sg} (h : s.kind = 6) : s.pool ∈ zq_ s true := by
 unfold zq_
 rw [if_pos (⟨rfl, h⟩ : true = true ∧ s.kind = 6)]
 simp
theorem Js_ {g : Gr} (hb : InB g) (h1 : R1 g) (h2 : (yl_ g).2 = 0) (h3 : (yw_ g).2 = 0) (h4 : (zF_ g).2 = 0) (h5 : (x6_ (refE g) g).2 = 0) : Fit7 g :=
 ⟨Qg_ h2, fun d hd => by
  obtain ⟨k, hk⟩ := List.getElem?_of_mem hd;exact (yJ_ h2 hk).ext, hb.dn, h1.disks, h1.vols, qp_ h3, fun v hv s hs => by
  obtain ⟨x, hx⟩ := zR_ h4 hv hs;exact Jq_ hx (qq_ h5 hv hs), fun v hv s hs => by
  obtain ⟨x, hx⟩ := zR_ h4 hv hs;by_cases hk : s.kind = 6
  ·obtain ⟨u, hu, e⟩ := ja_ (qq_ h5 hv hs).exist (YH_ hk)
   have hd := hx.dev;rcases yr_ hx.shape with ⟨e1, _⟩ | ⟨e1, _⟩ | ⟨e1, _⟩ | ⟨e1, _⟩ | ⟨e1, _⟩ | ⟨e1, rfl⟩ | ⟨e1, _⟩ | ⟨e1, _⟩ | ⟨e1, _⟩
   all_goals try omega
   unfold withinI at hd;simp at hd;refine ⟨by rw [← e]; exact hb.vn u hu, ?_⟩;exact WalkArith.wf_i64 (by omega)
  ·have hp : s.pool = ⟨#[]⟩ ∧ s.dev = 0 := by
    have hd := hx.dev;have hpp := hx.pool;rcases yr_ hx.shape with ⟨e1, rfl⟩ | ⟨e1, rfl⟩ | ⟨e1, rfl⟩ | ⟨e1, rfl⟩ | ⟨e1, rfl⟩ | ⟨e1, _⟩ | ⟨e1, rfl⟩ | ⟨e1, rfl⟩ | ⟨e1, rfl⟩
    all_goals try exact absurd e1 hk
    all_goals
     unfold withinI at hd;simp at hd hpp;exact ⟨hpp, hd⟩
   rw [hp.1, hp.2];exact ⟨by decide, by decide⟩⟩
theorem Jr_ {g : Gr} (hb : InB g) (h1 : R1 g) (h3 : (yw_ g).2 = 0) (h4 : (zF_ g).2 = 0) (h5 : (x6_ (refE g) g).2 = 0) : Fit8 g :=
 ⟨h1.vols, qp_ h3, fun v hv s hs => by
  obtain ⟨x, hx⟩ := zR_ h4 hv hs;have := qd_ hx;omega, fun v hv s hs n hn => by
  obtain ⟨u, hu, e⟩ := ja_ (qq_ h5 hv hs).exist hn;rw [← e];exact hb.vn u hu, hb.vn⟩
def Xp_ (g : Gr) : ByteArray × Int := z9_ [(⟨#[]⟩, yT_ g), yl_ g, yw_ g, zF_ g, x6_ (refE g) g, kR_ g, ys_ g, Yc_ g]
theorem Z5_ {w : World} {g : Gr} {A0 A1 A2 A3 : Option Addr} {c0 c1 c2 c3 : Nat} (hg : GL w g A0 A1 A2 A3 c0 c1 c2 c3) (hb : InB g) :
  Calls Tryd.prog 10 #[.agg (grA g (.slice A0 g.tags.length c0) (.slice A1 g.disks.length c1) (.slice A2 g.vols.length c2) (.slice A3 g.hist.length c3))] w (Ret (zU_ (Xp_ g)) w) :=
 kh_ hg
  (fun wx gc vm hc hm => k5_ hc hb.zg)
  (fun h0 wx gc vm hc hm => ke_ hc hb.zg (yI_ h0).ext)
  (fun h0 h1 wx gc vm hc hm => kK_ hc hb.zg)
  (fun h0 h1 h2 wx gc vm hc hm => xY_ hc hm (yI_ h0).ext (qp_ h2) (fun v hv s hs => by have := hb.stale v hv s hs; omega))
  (fun h0 h1 h2 h3 wx gc vm hc hm => xe_ hc (Ju_ hb (yI_ h0) h1 h2 h3))
  (fun h0 h1 h2 h3 h4 wx gc vm hc hm => Yx_ hc (Jt_ hb (yI_ h0) h1 h2 h3))
  (fun h0 h1 h2 h3 h4 h5 wx gc vm hc hm => jX_ hc (Js_ hb (yI_ h0) h1 h2 h3 h4))
  (fun h0 h1 h2 h3 h4 h5 h6 wx gc vm hc hm => Ye_ hc (Jr_ hb (yI_ h0) h2 h3 h4))
end Go.Proofs.YtdkcfgahdcpkkaaDoor
