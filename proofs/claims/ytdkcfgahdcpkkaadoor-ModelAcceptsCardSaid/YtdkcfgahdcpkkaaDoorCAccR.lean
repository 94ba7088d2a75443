/- Groups that are made are valid. -/
import Derived.Test.YtdkcfgahdcpkkaaDoorCAccQ
set_option linter.all false
namespace Go.Proofs.YtdkcfgahdcpkkaaDoor
open Go.RowKit
set_option maxRecDepth 100000
/-! What stays. -/
theorem ThinsR.seq {name : ByteArray} {i0 i : Nat} {β β' : Be} (h : ThinsR name i0 i β β') : β'.g.seq = β.g.seq := by
 induction h with
 | nil β => rfl
 | snoc h hz hv ih => exact ih
theorem HidR.seq {l : List (ByteArray × Int)} {β β' : Be} {ok : Bool} (h : HidR β l ok β') : β'.g.seq = β.g.seq := by
 obtain ⟨vs, m, e, _⟩ := h.g
 rw [e]
theorem GrpS.seq {β β' : Be} {name : ByteArray} (h : GrpS β name β') : β'.g.seq = β.g.seq := by
 obtain ⟨n, _, _, h⟩ | ⟨n, d, a, β1, k, β2, l', _, _, h1, _, h2, rfl⟩ | h | ⟨kind, _, h⟩ := h
 ·obtain ⟨l, e, _⟩ := h.g
  rw [e]
 ·show β2.g.seq = _
  rw [h2.g.1];show β1.g.seq = _
  rw [h1.g]; rfl
 ·obtain ⟨n, k, l, h, _⟩ | ⟨k, n, l, β1, _, _, _, _, h, rfl⟩ := h
  ·rw [h.g]
  ·show β1.g.seq = _
   rw [h.g]
 ·obtain ⟨n, l, x, h1, h3, hx, hr⟩ := h
  rcases hr with hr | ⟨β1, ro, tags, hr, _, ⟨_, rfl⟩ | ⟨_, i0, i, hi, ht⟩⟩
  ·exact hr.seq
  ·exact hr.seq
  ·exact ht.seq.trans hr.seq
theorem GrpsR.stay {i0 i : Nat} {β β' : Be} (h : GrpsR i0 i β β') : β'.g.seq = β.g.seq ∧ HeadG β β' := by
 induction h with
 | nil => exact ⟨rfl, rfl, rfl⟩
 | snoc h hs ih => exact ⟨(GrpS.seq hs).trans ih.1, ih.2.trans (GrpS.headg hs)⟩
theorem YG_ {j k : Nat} (hj : j < 4) (hk : k < 4) (h : pvN j = pvN k) : j = k := by
 rcases (show j = 0 ∨ j = 1 ∨ j = 2 ∨ j = 3 by omega) with rfl | rfl | rfl | rfl <;> rcases (show k = 0 ∨ k = 1 ∨ k = 2 ∨ k = 3 by omega) with rfl | rfl | rfl | rfl
 all_goals first
  | rfl
  | exact absurd h (by decide)
structure MadeG (γ : Gr) : Prop where
 name : γ.name = ⟨#[118, 103]⟩
 seq : 0 ≤ γ.seq ∧ γ.seq < 50
 ext : exP γ.extent
 next : γ.next ≤ 100
 tags : γ.tags.Sublist tagL
 nd : 1 ≤ γ.disks.length ∧ γ.disks.length ≤ 4
 dk : ∀ k d, γ.disks[k]? = some d → DkR k d
 hist : ∃ h, h ≤ 2 ∧ γ.hist = ya_ h 0
 iw : ∃ nx, Iw ⟨γ, nx⟩
 nm : (namesV γ.vols).Nodup
 vl : γ.vols.length ≤ 30
theorem GrpR.made {γ : Gr} (h : GrpR γ) : MadeG γ := by
 have hnm := h.names
 have hbd := h.bd
 obtain ⟨id, seq, ext, tags, disks, n0, β, hh, id0, id1, s0, s1, hext, htags, hd1, hd4, hdk, hn0, hgr, hh2, rfl⟩ := h
 have hx : 1 ≤ ext ∧ ext ≤ 16 := by rcases hext with rfl | rfl | rfl | rfl | rfl <;> omega
 have hdn : DkN disks := fun d d' x x' h1 h2 e => by
  have l1 := (List.getElem?_eq_some_iff.1 h1).1;have l2 := (List.getElem?_eq_some_iff.1 h2).1;have e1 := (hdk d x h1).1;have e2 := (hdk d' x' h2).1;exact YG_ (by omega) (by omega) (by rw [← e1, ← e2, e])
 have h0 : Iw ⟨G0 id seq ext tags disks, xn_ disks.length⟩ := by
  refine ⟨⟨[], rfl, List.Pairwise.nil, fun k hk => by cases hk⟩, Int.le_refl _, ⟨PlOk.nil, ⟨⟨hd1, hd4⟩, qe_ _, fun d hd => ?_, fun i z d hz hd => ?_, hx⟩, hdn⟩, fun v hv => (by cases hv), rfl, fun k v hk => by simp [G0] at hk⟩
  ·obtain ⟨k, hk⟩ := List.getElem?_of_mem hd
   rcases (hdk k d hk).2.2.2.2.1 with e | e | e | e | e <;> omega
  ·have hz' : (List.replicate disks.length (0 : Int))[i]? = some z := hz
   have := (List.mem_replicate.1 (List.mem_of_getElem? hz')).2;rcases (hdk i d hd).2.2.2.2.1 with e | e | e | e | e <;> omega
 have hi := (hgr.iw hn0 h0).1
 have hk := hgr.keep
 have hs := hgr.stay
 have hf := (hgr.far hx).2.next
 have e0 : (G0 id seq ext tags disks).next = 0 := rfl
 dsimp only at hf
 rw [e0] at hf
 refine ⟨hs.2.1, ?_, ?_, ?_, ?_, ?_, ?_, ⟨hh, hh2, rfl⟩, ⟨β.next, ⟨hi.ids, hi.n0, hi.pb.of rfl rfl rfl, hi.sh, hi.us, hi.ea⟩⟩, hnm, hbd.2.2.1⟩
 ·have e : β.g.seq = seq := hs.1
  show 0 ≤ β.g.seq ∧ β.g.seq < 50
  omega
 ·have e : β.g.extent = ext := hk.2
  show exP β.g.extent
  rw [e]; exact hext
 ·show β.g.next ≤ 100
  omega
 ·have e : β.g.tags = tags := hs.2.2
  show β.g.tags.Sublist tagL
  rw [e]; exact htags
 ·have e : β.g.disks = disks := hk.1
  show 1 ≤ β.g.disks.length ∧ β.g.disks.length ≤ 4
  rw [e]; exact ⟨hd1, hd4⟩
 ·have e : β.g.disks = disks := hk.1
  show ∀ k d, β.g.disks[k]? = some d → DkR k d
  rw [e]; exact hdk
section
variable {γ : Gr}
/-! Rules 1 to 4. -/
theorem qn_ {l : List ByteArray} (h : l.Sublist tagL) : yj_ l = 0 := by
 unfold tagL at h
 have h4 : ∀ {P : List ByteArray → Prop} {a : ByteArray} {t : List ByteArray}, (∀ l, l.Sublist t → P l ∧ P (a :: l)) → ∀ l, l.Sublist (a :: t) → P l := fun f l h => by
  cases h with
  | cons _ h => exact (f _ h).1
  | cons_cons _ h => exact (f _ h).2
 have key : ∀ l : List ByteArray, l.Sublist [⟨#[99, 111, 108, 100]⟩, ⟨#[102, 97, 115, 116]⟩, ⟨#[115, 105, 116, 101, 61, 49]⟩, ⟨#[115, 105, 116, 101, 61, 50]⟩] → yj_ l = 0 := by
  refine h4 (P := fun l => yj_ l = 0) ?_;refine h4 ?_;refine h4 ?_;refine h4 ?_;intro l h;obtain rfl := List.sublist_nil.1 h;repeat' apply And.intro
  all_goals kernel_rfl
 exact key l h
theorem Y9_ (h : ∃ h, h ≤ 2 ∧ γ.hist = ya_ h 0) : γ.hist.length ≤ 2 ∧ γ.hist.all yH_ = true := by
 obtain ⟨h, h2, e⟩ := h
 rw [e]
 rcases (show h = 0 ∨ h = 1 ∨ h = 2 by omega) with rfl | rfl | rfl
 ·exact ⟨by decide, by kernel_rfl⟩
 ·exact ⟨by decide, by kernel_rfl⟩
 ·exact ⟨by decide, by kernel_rfl⟩
theorem MadeG.ex (h : MadeG γ) : 1 ≤ γ.extent ∧ γ.extent ≤ 16 := by rcases h.ext with e | e | e | e | e <;> omega
theorem MadeG.n0 (h : MadeG γ) : 0 ≤ γ.next := by obtain ⟨nx, hi⟩ := h.iw; exact hi.n0
theorem MadeG.head (h : MadeG γ) : yT_ γ = 0 := by
 have h1 := h.ex
 have h2 := h.seq
 have h3 := h.next
 have h4 := h.n0
 have h5 := h.nd
 have h6 := h.vl
 obtain ⟨h7, h8⟩ := Y9_ h.hist
 unfold yT_
 rw [if_neg (by rw [h.name]; exact fun e => Bool.noConfusion (e.symm.trans (show visB ⟨#[118, 103]⟩ = true by kernel_rfl))), if_neg (by omega), if_neg (by omega), if_pos (qn_ h.tags), if_pos h8]
theorem z3_ {α : Type} {f : Nat → α → Int} {nm : α → ByteArray} {l : List α} (h : ∀ j y, l[j]? = some y → f j y = 0) : zM_ f nm 0 l = (⟨#[]⟩, 0) := by
 have : ∀ (l : List α) (k : Nat), (∀ j y, l[j]? = some y → f (k + j) y = 0) → zM_ f nm k l = (⟨#[]⟩, 0) := by
  intro l;induction l with
  | nil => intro k _; rfl
  | cons x l ih =>
   intro k h;unfold zM_;have h0 : f k x = 0 := h 0 x rfl;rw [if_pos h0];exact ih (k + 1) (fun j y hj => by rw [show k + 1 + j = k + (j + 1) by omega]; exact h (j + 1) y (by simpa using hj))
 exact this l 0 (fun j y hj => by rw [Nat.zero_add]; exact h j y hj)
theorem vis_pv : ∀ k, k < 4 → visB (pvN k) = true := four (by kernel_rfl) (by kernel_rfl) (by kernel_rfl) (by kernel_rfl)
theorem MadeG.disks_ (h : MadeG γ) : yl_ γ = (⟨#[]⟩, 0) := by
 refine z3_ fun k d hd => ?_
 have hl := (List.getElem?_eq_some_iff.1 hd).1
 have hk4 : k < 4 := by have := h.nd; omega
 obtain ⟨e1, e2, e3, e4, e5, e6⟩ := h.dk k d hd
 have ht : x0_ γ k d = false := by
  unfold x0_;rw [List.any_eq_false];intro x hx;obtain ⟨j, hj⟩ := List.getElem?_of_mem hx;have hjk : j < k := by have := (List.getElem?_eq_some_iff.1 hj).1; rw [List.length_take] at this; omega
  rw [List.getElem?_take_of_lt hjk] at hj;obtain ⟨f1, f2, _⟩ := h.dk j x hj;simp only [Bool.or_eq_true, decide_eq_true_eq, not_or];refine ⟨fun e => ?_, by rw [f2, e2]; omega⟩;rw [f1, e1] at e;have := YG_ (by omega) hk4 e;omega
 unfold xC_
 rw [if_neg (by rw [e1, vis_pv k hk4]; simp), if_neg (by rw [ht]; exact Bool.false_ne_true), if_neg ?_, qn_ e6]
 rcases e5 with e | e | e | e | e <;> rcases h.ext with f | f | f | f | f <;> rw [e, f] <;> omega
theorem CmpX.form {nm : ByteArray} {kind e n : Int} {l : List (ByteArray × Int)} {x : Sg} (h : CmpX nm kind e n l x) (hn : 1 ≤ n ∧ n ≤ 3) (he : exP e) : zm_ e x 0 = true := by
 have h3 : zp_ 3 = some ⟨2, 6, true, false, 1024, true, false, true, false, false⟩ := rfl
 have h4 : zp_ 4 = some ⟨3, 6, true, false, 1, true, false, false, false, false⟩ := rfl
 have h5 : zp_ 5 = some ⟨2, 2, true, false, 64, false, false, false, false, false⟩ := rfl
 have h7 : zp_ 7 = some ⟨3, 3, true, false, 64, false, false, false, true, false⟩ := rfl
 have ha : ∀ (y : Sh) (l : List ByteArray), y.volumes = true → (zr_ l).all (areaOk y) = true := fun y l hy => by
  rw [List.all_eq_true];intro a ha;unfold zr_ at ha;obtain ⟨s, _, rfl⟩ := List.mem_map.1 ha;simp [areaOk, hy]
 obtain ⟨rfl, k, c, lg, st, k2, k3, c1, c4, hst, rfl, rfl⟩ | ⟨rfl, k, c, k3, k4, hc, rfl, rfl⟩ | ⟨rfl, m, c, m1, m3, c1, c8, rfl, rfl⟩ | ⟨rfl, d, c, m, d1, d2, c1, c4, m1, m2, rfl, rfl⟩ := h
 ·have hm : markedB ⟨0, n, 3, zr_ (zJ_ nm k), c, st, if lg then logN nm else ⟨#[]⟩, ⟨#[]⟩, 0, 0, 0⟩ ⟨2, 6, true, false, 1024, true, false, true, false, false⟩ = true := by
   unfold markedB;dsimp only
   rcases hst with rfl | ⟨z, z0, z1, rfl⟩
   ·rfl
   ·have hlen : z < ((zr_ (zJ_ nm k)).length : Int) + if (if lg then logN nm else ⟨#[]⟩) = ⟨#[]⟩ then 0 else 1 := by
     rw [areasN_len, zj_];split <;> omega
    simp only [staleFrom, staleAt, z0, hlen];rfl
  simp only [zm_, h3, ha ⟨2, 6, true, false, 1024, true, false, true, false, false⟩ _ rfl, hm, areasN_len, zj_];simp [chunkedB, withinI];omega
 ·have hm : markedB ⟨0, n * (k - 1), 4, zr_ (zJ_ nm k), c, [], ⟨#[]⟩, ⟨#[]⟩, 0, 0, 0⟩ ⟨3, 6, true, false, 1, true, false, false, false, false⟩ = true := rfl
  have hc2 : chunkedB e ⟨0, n * (k - 1), 4, zr_ (zJ_ nm k), c, [], ⟨#[]⟩, ⟨#[]⟩, 0, 0, 0⟩ ⟨3, 6, true, false, 1, true, false, false, false, false⟩ = true := by
   unfold chunkedB;dsimp only
   rcases hc with rfl | rfl
   ·simp
   ·rcases he with rfl | rfl | rfl | rfl | rfl <;> kernel_rfl
  simp only [zm_, h4, ha ⟨3, 6, true, false, 1, true, false, false, false, false⟩ _ rfl, hm, hc2, areasN_len, zj_];rcases (show k = 3 ∨ k = 4 by omega) with rfl | rfl
  ·rcases (show n = 1 ∨ n = 2 ∨ n = 3 by omega) with rfl | rfl | rfl <;> rfl
  ·rcases (show n = 1 ∨ n = 2 ∨ n = 3 by omega) with rfl | rfl | rfl <;> rfl
 ·simp only [zm_, h5, ha ⟨2, 2, true, false, 64, false, false, false, false, false⟩ _ rfl]
  simp [chunkedB, withinI, markedB, staleFrom, zr_];omega
 ·simp only [zm_, h7, ha ⟨3, 3, true, false, 64, false, false, false, true, false⟩ _ rfl]
  simp [chunkedB, withinI, markedB, staleFrom, zr_];omega
theorem Yp_ {e z : Int} {nm : ByteArray} {i : Nat} (hi : 1 ≤ i ∧ i ≤ 2) (hz : 1 ≤ z ∧ z ≤ 4) : zm_ e ⟨0, z, 6, [], 0, [], ⟨#[]⟩, nm, i, 0, 0⟩ 0 = true := by
 have h6 : zp_ 6 = some ⟨0, 0, false, false, 0, false, true, false, false, false⟩ := rfl
 simp only [zm_, h6]
 simp [chunkedB, withinI, markedB, staleFrom]
 omega
theorem ShV.local {vs : List Vo} {e : Int} {v : Vo} (h : ShV vs e v) (he : exP e) : (if v.hid then hidB v.name else visB v.name) = true ∧ (1 ≤ v.segs.length ∧ v.segs.length ≤ 64) ∧ yj_ v.tags = 0 ∧ ym_ e (decide (v.segs.length ≤ 1)) 0 v.segs = 0 := by
 have h0 : yj_ [] = 0 := rfl
 cases h with
 | sim hn hl h3 => exact ⟨hn, by dsimp only; omega, h0, jS_ _ _ hl.form⟩
 | cmp hn hx h1 ht hu =>
  refine ⟨(yu_ hn).vis, ⟨Nat.le_refl _, by show 1 ≤ 64; omega⟩, qn_ ht, ?_⟩;show ym_ e true 0 [_] = 0
  simp [ym_, hx.form h1 he]
 | @thin nm id z i hn hi hz hu =>
  refine ⟨?_, ⟨Nat.le_refl _, by show 1 ≤ 64; omega⟩, h0, ?_⟩
  ·show visB (yV_ _ _) = true
   rcases (show i = 1 ∨ i = 2 by omega) with rfl | rfl
   ·exact (yu_ hn).thin1
   ·exact (yu_ hn).thin2
  ·show ym_ e true 0 [_] = 0
   simp [ym_, Yp_ hi hz]
theorem xw_ {α : Type} {l : List α} (h : l.Nodup) {i j : Nat} {x y : α} (hi : l[i]? = some x) (hj : l[j]? = some y) (hne : i < j) : x ≠ y := by
 obtain ⟨h1, rfl⟩ := List.getElem?_eq_some_iff.1 hi
 obtain ⟨h2, rfl⟩ := List.getElem?_eq_some_iff.1 hj
 exact List.pairwise_iff_getElem.1 h i j h1 h2 hne
theorem MadeG.vols_ (h : MadeG γ) : yw_ γ = (⟨#[]⟩, 0) := by
 obtain ⟨nx, hi⟩ := h.iw
 refine z3_ fun k v hv => ?_
 obtain ⟨h1, h2, h3, _⟩ := (hi.sh v (List.mem_of_getElem? hv)).local h.ext
 have hid := hi.ids.nodup (by have := h.next; show γ.next ≤ 1000000; omega)
 have ht : qT_ γ k v = false := by
  unfold qT_;rw [List.any_eq_false];intro x hx;obtain ⟨j, hj⟩ := List.getElem?_of_mem hx;have hjk : j < k := by have := (List.getElem?_eq_some_iff.1 hj).1; rw [List.length_take] at this; omega
  rw [List.getElem?_take_of_lt hjk] at hj;simp only [Bool.or_eq_true, decide_eq_true_eq, not_or];exact ⟨xw_ h.nm (show (namesV γ.vols)[j]? = some x.name by simp [namesV, hj]) (show (namesV γ.vols)[k]? = some v.name by simp [namesV, hv]) hjk, xw_ hid (show (γ.vols.map (·.id))[j]? = some x.id by simp [hj]) (show (γ.vols.map (·.id))[k]? = some v.id by simp [hv]) hjk⟩
 unfold volE
 rw [if_neg (by rw [h1]; exact fun e => Bool.noConfusion e), if_neg (by rw [ht]; exact Bool.false_ne_true), if_neg (by omega), h3]
theorem MadeG.segs_ (h : MadeG γ) : zF_ γ = (⟨#[]⟩, 0) := by
 obtain ⟨nx, hi⟩ := h.iw
 exact z3_ fun k v hv => ((hi.sh v (List.mem_of_getElem? hv)).local h.ext).2.2.2
/-! Rule 5. -/
theorem MadeG.find (h : MadeG γ) {u : Vo} (hu : u ∈ γ.vols) : yb_ γ u.name = some u := xl_ h.nm hu
theorem ZW_ {n : ByteArray} (h : n ∈ namesV γ.vols) : (yb_ γ n).isSome = true := by
 obtain ⟨u, hu, rfl⟩ := List.mem_map.1 h
 unfold yb_
 rw [List.find?_isSome]
 exact ⟨u, hu, by simp [isVo]⟩
theorem MadeG.area (h : MadeG γ) {v : Vo} {s : Sg} {a : Ar} (hv : v ∈ γ.vols) (hs : s ∈ v.segs) (ha : a ∈ s.areas) (hvol : a.vol = false) : ∃ d, yt_ γ a.on = some d ∧ 0 ≤ a.start ∧ a.start + zZ_ s ≤ d.ext ∧ 1 ≤ zZ_ s := by
 obtain ⟨nx, hi⟩ := h.iw
 have hp : plOf s a ∈ plsG γ.vols := by
  refine List.mem_flatMap.2 ⟨v, hv, List.mem_flatMap.2 ⟨s, hs, List.mem_map.2 ⟨a, List.mem_filter.2 ⟨ha, by rw [hvol]; rfl⟩, rfl⟩⟩⟩
 obtain ⟨h1, h2, d, dk, z, h3, h4, h5, h6⟩ := hi.pb.pl.at_ _ hp
 have hz := hi.pb.ok.nz d z dk h4 h3
 have hm := List.mem_of_getElem? h3
 have hf : (yt_ γ a.on).isSome = true := by
  unfold yt_;rw [List.find?_isSome];exact ⟨dk, hm, by show isDk a.on dk = true; unfold isDk; rw [decide_eq_true_eq]; exact h5.symm⟩
 obtain ⟨dk', hq⟩ := Option.isSome_iff_exists.1 hf
 obtain ⟨m1, m2⟩ := qD_ hq
 obtain ⟨d', hd'⟩ := List.getElem?_of_mem m1
 have e : d' = d := hi.pb.dn d' d dk' dk hd' h3 (m2.trans h5)
 subst e
 have e2 : dk' = dk := by
  have h3' : γ.disks[d']? = some dk := h3;rw [hd'] at h3'; injection h3'
 subst e2
 have h6' : a.start + zZ_ s ≤ z := h6
 exact ⟨dk', hq, h2, by omega, h1⟩
theorem Yf_ {s : Sg} (h : s.kind = 6 → s.pool ≠ ⟨#[]⟩) {n : ByteArray} (hn : n ∈ zq_ s true) : n ∈ usesS s := by
 unfold zq_ at hn
 unfold usesS
 rw [List.mem_append, List.mem_append] at hn
 rw [List.mem_append, List.mem_append]
 rcases hn with (hn | hn) | hn
 ·exact .inl hn
 ·exact .inr (.inl hn)
 ·by_cases hk : true = true ∧ s.kind = 6
  ·rw [if_pos hk] at hn
   refine .inr (.inr ?_);rw [if_neg (h hk.2)];exact hn
  ·rw [if_neg hk] at hn; cases hn
theorem nmG_ne {nm : ByteArray} (h : TopN nm) : nm ≠ ⟨#[]⟩ := fun e => by
 obtain ⟨j, _, _, rfl⟩ := h
 have := congrArg ByteArray.size e
 have e1 : (nmG j).size = 1 := rfl
 rw [e1] at this
 cases this
theorem ShV.seg {vs : List Vo} {e : Int} {v : Vo} (h : ShV vs e v) {s : Sg} (hs : s ∈ v.segs) :
  ((s.kind = 1 ∨ s.kind = 2 ∨ s.kind = 8 ∨ s.kind = 9 ∨ s.kind = 10) ∧ zq_ s false = []) ∨
  (∃ nm kind n l, v.name = nm ∧ v.hid = false ∧ TopN nm ∧ CmpX nm kind e n l s ∧ (1 ≤ n ∧ n ≤ 3) ∧ ∀ z ∈ l, ∃ (id : Int) (a : Ar), zP_ z.1 id true z.2 a ∈ vs) ∨
  (∃ i, s.kind = 6 ∧ zq_ s false = [] ∧ v.hid = false ∧ v.segs = [s] ∧ v.name = yV_ s.pool i ∧ s.dev = (i : Int) ∧ TopN s.pool ∧ ∃ u ∈ vs, u.name = s.pool ∧ yz_ u = 5 ∧ u.hid = false) := by
 cases h with
 | sim hn hl h3 =>
  obtain ⟨h1, h2, h4, _⟩ := hl.leaf s hs;exact .inl ⟨h1, jN_ h2 h4⟩
 | cmp hn hx h1 ht hu =>
  have hs' : s ∈ [_] := hs;simp at hs'; subst hs';exact .inr (.inl ⟨_, _, _, _, rfl, rfl, hn, hx, h1, hu⟩)
 | thin hn hi hz hu =>
  have hs' : s ∈ [_] := hs;simp at hs'; subst hs';exact .inr (.inr ⟨_, rfl, rfl, rfl, rfl, rfl, rfl, hn, hu⟩)
theorem MadeG.lin (h : MadeG γ) {nm : ByteArray} {n : Int} (hu : ∃ (id : Int) (a : Ar), zP_ nm id true n a ∈ γ.vols) (hn : 1 ≤ n ∧ n ≤ 1000) : x5_ (yb_ γ nm) = 1 ∧ lenO γ nm = n := by
 obtain ⟨id, a, hm⟩ := hu
 have hf : yb_ γ nm = some (zP_ nm id true n a) := h.find hm
 refine ⟨by rw [hf]; rfl, ?_⟩
 unfold lenO
 rw [hf]
 show lenV [linSeg n a] = n
 simp [lenV, linSeg]
 omega
theorem ZE_ {nm : ByteArray} (hN : Nms nm) (v : Vo) (hv : v.name = nm) : ∀ (k j : Nat), j + k ≤ 4 → zX_ v j (zr_ ((List.range k).map fun i => legN nm (j + i))) = true := by
 intro k
 induction k with
 | zero => intro j _; rfl
 | succ k ih =>
  intro j hj
  have e1 : (List.range (k + 1)).map (fun i => legN nm (j + i)) = legN nm j :: (List.range k).map (fun i => legN nm (j + 1 + i)) := by
   rw [List.range_succ_eq_map, List.map_cons, List.map_map];congr 1
   refine List.map_congr_left fun i _ => ?_;show legN nm (j + (i + 1)) = _
   congr 1
   omega
  rw [e1];show (zf_ (legN nm j) (legR v.name j) && zX_ v (j + 1) (zr_ _)) = true
  rw [Bool.and_eq_true];exact ⟨by rw [hv, hN.rleg j (by omega)]; simp [zf_], ih (j + 1) (by omega)⟩
theorem CmpX.named {nm : ByteArray} {kind e n : Int} {l : List (ByteArray × Int)} {x : Sg} (h : CmpX nm kind e n l x) (hN : Nms nm) {v : Vo} (hv : v.name = nm) : zt_ v x = true := by
 have hl : ∀ k, k ≤ 4 → zX_ v 0 (zr_ (zJ_ nm k)) = true := fun k hk => by
  have := ZE_ hN v hv k 0 (by omega);simpa [zJ_] using this
 obtain ⟨rfl, k, c, lg, st, k2, k3, c1, c4, hst, rfl, rfl⟩ | ⟨rfl, k, c, k3, k4, hc, rfl, rfl⟩ | ⟨rfl, m, c, m1, m3, c1, c8, rfl, rfl⟩ | ⟨rfl, d, c, m, d1, d2, c1, c4, m1, m2, rfl, rfl⟩ := h
 ·unfold zt_
  rw [if_pos (.inl rfl), hl k (by omega), Bool.true_and];cases lg
  ·rfl
  ·simp [hv, hN.rlog, zf_]
 ·unfold zt_
  rw [if_pos (.inr rfl), hl k (by omega)];rfl
 ·unfold zt_
  rw [if_neg (by simp), if_pos rfl];show (zf_ (metaN nm) (zy_ v.name 3) && zf_ (dataN nm) (zy_ v.name 2)) = true
  rw [hv, hN.rmeta, hN.rdata];simp [zf_]
 ·unfold zt_
  rw [if_neg (by simp), if_neg (by simp), if_pos rfl];show (zf_ (qQ_ nm) (legR v.name 0) && zf_ (dataN nm) (zy_ v.name 2) && zf_ (metaN nm) (zy_ v.name 3)) = true
  have h0 := hN.rleg 0 (by omega);have h0' : legR nm 0 = (legN nm 0, 0) := h0;rw [hv, hN.rmeta, hN.rdata, h0', hN.leg0];simp [zf_]
theorem MadeG.ref (h : MadeG γ) {v : Vo} {s : Sg} (hv : v ∈ γ.vols) (hs : s ∈ v.segs) : refE γ v s = 0 := by
 obtain ⟨nx, hi⟩ := h.iw
 have hsh := (hi.sh v hv).seg hs
 have hpl : s.kind = 6 → s.pool ≠ ⟨#[]⟩ := fun h6 => by
  rcases hsh with ⟨h1, _⟩ | ⟨nm, kind, n, l, _, _, _, hx, _⟩ | ⟨i, _, _, _, _, _, _, hn, _⟩
  ·omega
  ·exfalso
   have := hx.used.2.2;obtain ⟨rfl, _⟩ | ⟨rfl, _⟩ | ⟨rfl, _⟩ | ⟨rfl, _⟩ := hx <;> omega
  ·exact nmG_ne hn
 have hex : zv_ γ s = true := by
  unfold zv_;rw [Bool.and_eq_true, List.all_eq_true, List.all_eq_true];refine ⟨fun a ha => ?_, fun n hn => ?_⟩
  ·cases hvol : a.vol with
   | true => rfl
   | false =>
    obtain ⟨d, hd, _⟩ := h.area hv hs ha hvol;rw [hd]; rfl
  ·obtain ⟨k, hk⟩ := List.getElem?_of_mem hv
   have hu : n ∈ zY_ v := by
    unfold zY_ zE_;exact List.mem_flatten.2 ⟨_, List.mem_map.2 ⟨s, hs, rfl⟩, Yf_ hpl hn⟩
   have := hi.ea k v hk n hu;refine ZW_ ?_;obtain ⟨u, hu, e⟩ := List.mem_map.1 this;exact List.mem_map.2 ⟨u, List.mem_of_mem_take hu, e⟩
 have hin : s.areas.all (zN_ γ s) = true := by
  rw [List.all_eq_true];intro a ha;unfold zN_;cases hvol : a.vol with
  | true => rfl
  | false =>
   obtain ⟨d, hd, h1, h2, h3⟩ := h.area hv hs ha hvol;rw [hd];simp;omega
 have hnm : zt_ v s = true := by
  rcases hsh with ⟨h1, _⟩ | ⟨nm, kind, n, l, h1, _, hn, hx, _⟩ | ⟨i, h6, _⟩
  ·unfold zt_; rw [if_neg (by omega), if_neg (by omega), if_neg (by omega)]
  ·exact hx.named (yu_ hn) h1
  ·unfold zt_; rw [if_neg (by omega), if_neg (by omega), if_neg (by omega)]
 have hth : ¬ (s.kind = 6 ∧ x5_ (yb_ γ s.pool) ≠ 5) := fun ⟨h6, hne⟩ => by
  rcases hsh with ⟨h1, _⟩ | ⟨nm, kind, n, l, _, _, _, hx, _⟩ | ⟨i, _, _, _, _, _, _, hn, u, hu, e1, e2, _⟩
  ·omega
  ·have := hx.used.2.2
   obtain ⟨rfl, _⟩ | ⟨rfl, _⟩ | ⟨rfl, _⟩ | ⟨rfl, _⟩ := hx <;> omega
  ·apply hne
   rw [← e1, h.find hu];exact e2
 have hlf : (zq_ s false).any (zz_ γ) = false := by
  rcases hsh with ⟨_, h1⟩ | ⟨nm, kind, n, l, _, _, hn, hx, hn1, hm⟩ | ⟨i, _, h1, _⟩
  ·rw [h1]; rfl
  ·rw [hx.used.1, List.any_eq_false]
   intro x hxm;obtain ⟨z, hz, rfl⟩ := List.mem_map.1 hxm;have := (h.lin (hm z hz) (hx.parts (yu_ hn) hn1 h.ex z hz).2).1;unfold zz_;rw [this];decide
  ·rw [h1]; rfl
 unfold refE
 rw [if_neg (by rw [hex]; exact Bool.noConfusion), if_neg (by rw [hin]; exact Bool.noConfusion), if_neg (by rw [hnm]; exact Bool.noConfusion), if_neg hth, if_neg (by rw [hlf]; exact Bool.noConfusion)]
theorem MadeG.refs (h : MadeG γ) : x6_ (refE γ) γ = (⟨#[]⟩, 0) := by
 refine z3_ fun k v hv => ?_
 show (zM_ (fun _ s => refE γ v s) (fun _ => v.name) 0 v.segs).2 = 0
 rw [z3_ (fun m s hs => h.ref (List.mem_of_getElem? hv) (List.mem_of_getElem? hs))]
theorem qI_ {f : Nat → Nat → Vo → Sg → Int} (h : ∀ k m v s, γ.vols[k]? = some v → v.segs[m]? = some s → f k m v s = 0) : qR_ f γ = (⟨#[]⟩, 0) := by
 refine z3_ fun k v hv => ?_
 unfold qz_
 rw [z3_ (fun m s hs => h k m v s hv hs)]
/-! Rule 6. -/
theorem X6_ {n e c : Int} (hn : 1 ≤ n ∧ n ≤ 3) (he : exP e) (hc : 1 ≤ c ∧ c ≤ 4) : 1 + yS_ (yS_ (n * e) c) 64 ≤ logL n e * e := by
 rcases (show n = 1 ∨ n = 2 ∨ n = 3 by omega) with rfl | rfl | rfl <;> rcases he with rfl | rfl | rfl | rfl | rfl <;> rcases (show c = 1 ∨ c = 2 ∨ c = 3 ∨ c = 4 by omega) with rfl | rfl | rfl | rfl <;> decide
theorem XV_ {n e : Int} (he : exP e) : n * e + 16 ≤ (n + (15 + e) / e) * e := by
 rcases he with rfl | rfl | rfl | rfl | rfl <;> omega
theorem MadeG.sized (h : MadeG γ) {v : Vo} {s : Sg} (hv : v ∈ γ.vols) (hs : s ∈ v.segs) : yD_ γ s = true := by
 obtain ⟨nx, hi⟩ := h.iw
 rcases (hi.sh v hv).seg hs with ⟨h1, _⟩ | ⟨nm, kind, n, l, _, _, hn, hx, hn1, hm⟩ | ⟨i, h6, _⟩
 ·unfold yD_; rw [if_neg (by omega), if_neg (by omega), if_neg (by omega), if_neg (by omega)]
 ·have hN := yu_ hn
  have hlen : ∀ z ∈ l, lenO γ z.1 = z.2 := fun z hz => (h.lin (hm z hz) (hx.parts hN hn1 h.ex z hz).2).2;obtain ⟨rfl, k, c, lg, st, k2, k3, c1, c4, hst, rfl, rfl⟩ | ⟨rfl, k, c, k3, k4, hc, rfl, rfl⟩ | ⟨rfl, m, c, m1, m3, c1, c8, rfl, rfl⟩ | ⟨rfl, d, c, m, d1, d2, c1, c4, m1, m2, rfl, rfl⟩ := hx
  ·unfold yD_
   rw [if_pos rfl, Bool.and_eq_true, List.all_eq_true];refine ⟨fun a ha => ?_, ?_⟩
   ·obtain ⟨i, hi, e⟩ := x7_ (yo_ ha)
    rw [decide_eq_true_eq]
    have : (legN nm i, n) ∈ (zJ_ nm k ++ if lg then [logN nm] else []).zip (List.replicate k n ++ if lg then [logL n γ.extent] else []) := by
     refine List.mem_iff_getElem?.2 ⟨i, ?_⟩;rw [List.getElem?_zip_eq_some];refine ⟨?_, ?_⟩
     ·rw [List.getElem?_append_left (by rw [zj_]; exact hi)]
      simp [zJ_, hi]
     ·rw [List.getElem?_append_left (by simp; exact hi)]
      simp [hi]
    rw [e];exact hlen _ this
   ·cases lg
    ·rfl
    ·have : (logN nm, logL n γ.extent) ∈ (zJ_ nm k ++ [logN nm]).zip (List.replicate k n ++ [logL n γ.extent]) := by
      rw [List.zip_append (by simp [zj_])];exact List.mem_append_right _ (by simp)
     have hl := hlen _ this;dsimp only at hl
     have := X6_ hn1 h.ext ⟨c1, c4⟩;simp only [if_true, hl];simp [this]
  ·have hk : ∀ i, i < k → lenO γ (legN nm i) = n + (15 + γ.extent) / γ.extent := fun i hi => by
    refine hlen (legN nm i, _) ?_;refine List.mem_iff_getElem?.2 ⟨i, ?_⟩;rw [List.getElem?_zip_eq_some];exact ⟨by simp [zJ_, hi], by simp [hi]⟩
   have h0 : onAt ⟨0, n * (k - 1), 4, zr_ (zJ_ nm k), c, [], ⟨#[]⟩, ⟨#[]⟩, 0, 0, 0⟩ 0 = legN nm 0 := by
    rcases (show k = 3 ∨ k = 4 by omega) with rfl | rfl <;> rfl
   unfold yD_;rw [if_neg (by simp), if_pos rfl, h0, hk 0 (by omega), Bool.and_eq_true, List.all_eq_true];refine ⟨fun a ha => ?_, ?_⟩
   ·obtain ⟨i, hi, e⟩ := x7_ (yo_ ha)
    rw [decide_eq_true_eq, e];exact hk i hi
   ·rw [decide_eq_true_eq]
    dsimp only
    rw [areasN_len, zj_];have e1 : (n * ((k : Int) - 1)).tdiv ((k : Int) - 1) = n := Int.mul_tdiv_cancel n (by omega);rw [e1];exact XV_ h.ext
  ·have := hlen (dataN nm, n) (by simp)
   unfold yD_;rw [if_neg (by simp), if_neg (by simp), if_pos rfl, decide_eq_true_eq];exact this
  ·have := hlen (qQ_ nm, n) (by simp)
   unfold yD_;rw [if_neg (by simp), if_neg (by simp), if_neg (by simp), if_pos rfl, decide_eq_true_eq];exact this
 ·unfold yD_; rw [if_neg (by omega), if_neg (by omega), if_neg (by omega), if_neg (by omega)]
theorem MadeG.sizes (h : MadeG γ) : kR_ γ = (⟨#[]⟩, 0) :=
 qI_ fun k m v s hv hs => by unfold z5_; rw [h.sized (List.mem_of_getElem? hv) (List.mem_of_getElem? hs)]; rfl
/-! Rule 7. -/
theorem jm_ {s : Sg} : ∀ (a : List Ar) (l : List Pl), kl_ (l ++ (a.filter (fun a => !a.vol)).map (plOf s)) → overA s l a = false
 | [], l, _ => rfl
 | x :: a, l, h => by
  unfold overA;cases hv : x.vol with
  | true =>
   rw [if_pos rfl];refine jm_ a l ?_;simpa [hv] using h
  | false =>
   rw [if_neg Bool.false_ne_true, Bool.or_eq_false_iff];have h' : kl_ (l ++ [plOf s x] ++ (a.filter (fun a => !a.vol)).map (plOf s)) := by simpa [hv] using h
   refine ⟨?_, jm_ a _ h'⟩;have h2 : kl_ (l ++ [plOf s x]) := (List.pairwise_append.1 h').1;unfold hitB;rw [List.any_eq_false];intro q hq;have h3 := (List.pairwise_append.1 h2).2.2 q hq (plOf s x) (by simp);simpa using h3
theorem Q8_ {k m : Nat} {v : Vo} {s : Sg} (hv : γ.vols[k]? = some v) (hs : v.segs[m]? = some s) : ∃ r, YL_ γ = xQ_ γ k m ++ plsS s ++ r := by
 obtain ⟨h1, e1⟩ := List.getElem?_eq_some_iff.1 hv
 obtain ⟨h2, e2⟩ := List.getElem?_eq_some_iff.1 hs
 refine ⟨plsV (v.segs.drop (m + 1)) ++ (γ.vols.drop (k + 1)).flatMap (fun v => plsV v.segs), ?_⟩
 have e3 : γ.vols = γ.vols.take k ++ v :: γ.vols.drop (k + 1) := by rw [← e1, ← List.drop_eq_getElem_cons h1, List.take_append_drop]
 have e4 : v.segs = v.segs.take m ++ s :: v.segs.drop (m + 1) := by rw [← e2, ← List.drop_eq_getElem_cons h2, List.take_append_drop]
 unfold YL_ xQ_
 rw [yf_ hv]
 have e5 : γ.vols.flatMap (fun v => plsV v.segs) = (γ.vols.take k).flatMap (fun v => plsV v.segs) ++ (plsV v.segs ++ (γ.vols.drop (k + 1)).flatMap (fun v => plsV v.segs)) := by
  conv => lhs; rw [e3]
  rw [List.flatMap_append, List.flatMap_cons]
 have e6 : plsV v.segs = plsV (v.segs.take m) ++ (plsS s ++ plsV (v.segs.drop (m + 1))) := by
  conv => lhs; rw [e4]
  unfold plsV;rw [List.flatMap_append, List.flatMap_cons]
 rw [e5, e6]
 simp only [List.append_assoc]
theorem MadeG.over (h : MadeG γ) : XX_ γ = (⟨#[]⟩, 0) := by
 obtain ⟨nx, hi⟩ := h.iw
 refine qI_ fun k m v s hv hs => ?_
 obtain ⟨r, hr⟩ := Q8_ hv hs
 have hn : kl_ (YL_ γ) := hi.pb.pl.apart
 rw [hr] at hn
 have := jm_ s.areas (xQ_ γ k m) (List.pairwise_append.1 hn).1
 unfold XY_
 rw [this]; rfl
theorem ZH_ {k m : Nat} {v : Vo} (hv : γ.vols[k]? = some v) {p : ByteArray × Int} (hp : p ∈ yv_ γ k m) : (∃ j u, j < k ∧ γ.vols[j]? = some u ∧ ∃ s ∈ u.segs, s.kind = 6 ∧ p = (s.pool, s.dev)) ∨ ∃ s ∈ v.segs.take m, s.kind = 6 ∧ p = (s.pool, s.dev) := by
 have hth : ∀ {l : List Sg}, p ∈ x1_ l → ∃ s ∈ l, s.kind = 6 ∧ p = (s.pool, s.dev) := fun {l} h => by
  obtain ⟨s, hs, h⟩ := List.mem_flatMap.1 h;unfold x2_ at h;by_cases h6 : s.kind = 6
  ·rw [if_pos h6] at h
   exact ⟨s, hs, h6, by simpa using h⟩
  ·rw [if_neg h6] at h; cases h
 unfold yv_ at hp
 rw [yf_ hv] at hp
 rcases List.mem_append.1 hp with hp | hp
 ·obtain ⟨u, hu, h⟩ := List.mem_flatMap.1 hp
  obtain ⟨j, hj⟩ := List.getElem?_of_mem hu;have hjk : j < k := by have := (List.getElem?_eq_some_iff.1 hj).1; rw [List.length_take] at this; omega
  rw [List.getElem?_take_of_lt hjk] at hj;exact .inl ⟨j, u, hjk, hj, hth h⟩
 ·exact .inr (hth hp)
theorem MadeG.thin (h : MadeG γ) {v : Vo} {s : Sg} (hv : v ∈ γ.vols) (hs : s ∈ v.segs) (h6 : s.kind = 6) : ∃ i : Nat, v.segs = [s] ∧ v.name = yV_ s.pool i ∧ s.dev = (i : Int) ∧ v.hid = false ∧ ∃ u ∈ γ.vols, u.name = s.pool ∧ yz_ u = 5 ∧ u.hid = false := by
 obtain ⟨nx, hi⟩ := h.iw
 rcases (hi.sh v hv).seg hs with ⟨h1, _⟩ | ⟨nm, kind, n, l, _, _, hn, hx, hn1, hm⟩ | ⟨i, _, _, hh, h1, h2, h3, _, h4⟩
 ·omega
 ·exfalso
  have := hx.used.2.2;obtain ⟨rfl, _⟩ | ⟨rfl, _⟩ | ⟨rfl, _⟩ | ⟨rfl, _⟩ := hx <;> omega
 ·exact ⟨i, h1, h2, h3, hh, h4⟩
theorem MadeG.thins (h : MadeG γ) : XI_ γ = (⟨#[]⟩, 0) := by
 refine qI_ fun k m v s hv hs => ?_
 unfold XJ_
 refine if_neg fun ⟨h6, hmet⟩ => ?_
 obtain ⟨i, e1, e2, e3, _⟩ := h.thin (List.mem_of_getElem? hv) (List.mem_of_getElem? hs) h6
 unfold metB at hmet
 rw [List.any_eq_true] at hmet
 obtain ⟨p, hp, he⟩ := hmet
 simp only [Bool.and_eq_true, decide_eq_true_eq] at he
 rcases ZH_ hv hp with ⟨j, u, hjk, hu, t, ht, ht6, rfl⟩ | ⟨t, ht, _, _⟩
 ·obtain ⟨i', f1, f2, f3, _⟩ := h.thin (List.mem_of_getElem? hu) ht ht6
  have hii : i' = i := by have := he.2; rw [e3] at this; dsimp only at this; rw [f3] at this; omega
  have hnm : u.name = v.name := by rw [f2, e2, hii]; have := he.1; dsimp only at this; rw [this]
  exact xw_ h.nm (show (namesV γ.vols)[j]? = some u.name by simp [namesV, hu]) (show (namesV γ.vols)[k]? = some v.name by simp [namesV, hv]) hjk hnm
 ·have hm0 : m = 0 := by
   have := (List.getElem?_eq_some_iff.1 hs).1;rw [e1] at this;simpa using this
  subst hm0;cases ht
theorem MadeG.overlaps (h : MadeG γ) : ys_ γ = (⟨#[]⟩, 0) := by unfold ys_; rw [h.over, if_pos rfl, h.thins]
/-! Rule 8. -/
theorem jC_ {l : List ByteArray} {x : ByteArray} (h : x ∉ l) : cntN l x = 0 := by
 unfold cntN
 rw [List.filter_eq_nil_iff.2 (fun y hy e => h (by rw [decide_eq_true_eq] at e; exact e ▸ hy))]
 rfl
theorem Zc_ : ∀ {l : List ByteArray} {x : ByteArray}, l.Nodup → x ∈ l → cntN l x = 1
 | [], x, _, h => by cases h
 | y :: l, x, hn, h => by
  unfold List.Nodup at hn;rw [List.pairwise_cons] at hn;unfold cntN;rw [List.filter_cons];by_cases e : y = x
  ·rw [if_pos (by simpa using e)]
   subst e;have := jC_ (l := l) (x := y) (fun hm => hn.1 y hm rfl);unfold cntN at this;rw [List.length_cons, this]
  ·rw [if_neg (by simpa using e)]
   rcases List.mem_cons.1 h with h | h
   ·exact absurd h.symm e
   ·exact Zc_ (l := l) hn.2 h
theorem cntN_append (a b : List ByteArray) (x : ByteArray) : cntN (a ++ b) x = cntN a x + cntN b x := by unfold cntN; rw [List.filter_append, List.length_append]
theorem kg_ {x : ByteArray} : ∀ (ss : List Sg), (∀ s ∈ ss, s.kind = 6 → s.pool ≠ x) → cntN (ss.flatMap fun s => zq_ s true) x = cntN (ss.flatMap fun s => zq_ s false) x
 | [], _ => rfl
 | s :: ss, h => by
  rw [List.flatMap_cons, List.flatMap_cons, cntN_append, cntN_append, kg_ ss (fun t ht => h t (by simp [ht]))];congr 1
  have e : zq_ s true = zq_ s false ++ (if s.kind = 6 then [s.pool] else []) := by
   unfold zq_;by_cases h6 : s.kind = 6 <;> simp [h6]
  rw [e, cntN_append];by_cases h6 : s.kind = 6
  ·rw [if_pos h6, jC_ (l := [s.pool]) (by simpa using Ne.symm (h s (by simp) h6)), Nat.add_zero]
  ·rw [if_neg h6]; rfl
theorem jb_ {x : ByteArray} : ∀ (vs : List Vo), (∀ v ∈ vs, ∀ s ∈ v.segs, s.kind = 6 → s.pool ≠ x) → cntN (vs.flatMap fun v => qg_ v true) x = cntN (vs.flatMap fun v => qg_ v false) x
 | [], _ => rfl
 | v :: vs, h => by
  rw [List.flatMap_cons, List.flatMap_cons, cntN_append, cntN_append, jb_ vs (fun t ht => h t (by simp [ht]))];congr 1
  exact kg_ v.segs (h v (by simp))
theorem MadeG.uses (h : MadeG γ) : Yc_ γ = (⟨#[]⟩, 0) := by
 obtain ⟨nx, hi⟩ := h.iw
 have hus : qk_ γ false = hidF γ.vols := hi.us
 have hsub : (hidF γ.vols).Sublist (namesV γ.vols) := by unfold hidF namesV; exact List.filter_sublist.map _
 have hnd : (hidF γ.vols).Nodup := h.nm.sublist hsub
 refine z3_ fun k v hv => ?_
 have hvm := List.mem_of_getElem? hv
 unfold useE
 cases hh : v.hid with
 | true =>
  rw [if_pos rfl, if_pos]
  have : cntN (qk_ γ true) v.name = cntN (qk_ γ false) v.name := jb_ _ (fun u hu s hs h6 e => by
   obtain ⟨i, _, _, _, _, t, ht, e1, _, e3⟩ := h.thin hu hs h6;have := h.find ht;rw [e1, e, h.find hvm] at this;injection this with this;rw [← this, hh] at e3;cases e3)
  rw [this, hus];exact Zc_ hnd (List.mem_map.2 ⟨v, List.mem_filter.2 ⟨hvm, hh⟩, rfl⟩)
 | false =>
  rw [if_neg Bool.false_ne_true, if_pos];rw [hus];refine jC_ fun hm => ?_;obtain ⟨u, hu, e⟩ := List.mem_map.1 hm;obtain ⟨hu1, hu2⟩ := List.mem_filter.1 hu;have := h.find hu1;rw [e, h.find hvm] at this;injection this with this;rw [← this, hh] at hu2;cases hu2
theorem MadeG.check (h : MadeG γ) : Xp_ γ = (⟨#[]⟩, 0) := by
 unfold Xp_
 simp only [z9_, h.head, h.disks_, h.vols_, h.segs_, h.refs, h.sizes, h.overlaps, h.uses, if_true]
end
end Go.Proofs.YtdkcfgahdcpkkaaDoor
