/- The reference's Select, Normal, Sum (printed by genRng3.py). -/
import Derived.Test.YtdkcfgahdcpkkaaDoorBRng2
set_option linter.all false
namespace Go.Proofs.YtdkcfgahdcpkkaaDoor
open Go.RowKit
set_option maxRecDepth 100000
theorem QC_ : (Tryd.prog.info? 42).map (fun i => (i.zero, i.size, i.bytes)) = some (some (.agg #[.int .i64 0, .int .i64 0]), 2, 16) := by kernel_rfl
def rgV (l : List Rg) : List Value := l.flatMap fun r => [Value.int .i64 r.start, Value.int .i64 r.len]
theorem xK_ : ∀ l : List Rg, (rgV l).length = l.length * 2
 | [] => rfl
 | r :: l => by
  have := xK_ l;unfold rgV at this ⊢;rw [List.flatMap_cons, List.length_append, this, List.length_cons];simp;omega
theorem rgV_append (a b : List Rg) : rgV (a ++ b) = rgV a ++ rgV b := by simp [rgV]
theorem qn_ (l : List Rg) : ∀ u ∈ rgV l, u.oneCell' = true := fun u hu => by
 unfold rgV at hu
 obtain ⟨r, _, h⟩ := List.mem_flatMap.1 hu
 simp at h
 rcases h with rfl | rfl <;> rfl
theorem j2_ : ∀ (l : List Rg) (k : Nat) (r : Rg), l[k]? = some r → (rgV l)[k * 2]? = some (.int .i64 r.start) ∧ (rgV l)[k * 2 + 1]? = some (.int .i64 r.len)
 | [], k, r, h => by simp at h
 | x :: l, 0, r, h => by
  simp at h;subst h;exact ⟨rfl, rfl⟩
 | x :: l, k + 1, r, h => by
  have := j2_ l k r (by simpa using h);have e : rgV (x :: l) = .int .i64 x.start :: .int .i64 x.len :: rgV l := rfl;rw [e, show (k + 1) * 2 = k * 2 + 1 + 1 by omega, show k * 2 + 1 + 1 + 1 = k * 2 + 1 + 1 + 1 from rfl];simpa using this
theorem Q9_ (q : List Rg) (r : Rg) (z : Int) : (rgV (q ++ [r])).set (q.length * 2 + 1) (.int .i64 z) = rgV (q ++ [⟨r.start, z⟩]) := by
 rw [rgV_append, rgV_append, ← xK_ q, List.set_append_right _ _ (by omega)]
 congr 1
 rw [Nat.add_sub_cancel_left]
 rfl
theorem k2_ {w : World} {S : Nat → Prop} {A : Option Addr} {c : Nat} {l : List Rg} (h : RL w S (.slice A l.length c) l) : Reads w w.heap.size 2 A l.length (rgV l) := by
 refine ⟨xK_ l, fun h0 => ?_⟩
 obtain ⟨ad, x, e, _, _, hlt, _⟩ := h.at_ (k := 0) h0
 refine ⟨ad, e, hlt, fun j u hu => ?_⟩
 have hj : j < l.length * 2 := by have := (List.getElem?_eq_some_iff.1 hu).1; rwa [xK_] at this
 have hk : j / 2 < l.length := by omega
 obtain ⟨ad', x', e', hx', _, _, hc⟩ := h.at_ hk
 rw [e] at e'
 injection e' with e'
 subst e'
 have h2 := j2_ l (j / 2) x' hx'
 rcases (show j = j / 2 * 2 ∨ j = j / 2 * 2 + 1 by omega) with hj2 | hj2
 ·rw [hj2] at hu ⊢
  rw [h2.1] at hu;injection hu with hu;rw [hc.c0, hu]
 ·rw [hj2] at hu ⊢
  rw [h2.2] at hu;injection hu with hu;rw [← Addr.add_add];rw [show ((ad.add (j / 2 * 2)).add 1) = ⟨(ad.add (j / 2 * 2)).block, (ad.add (j / 2 * 2)).off + 1, none⟩ from rfl, hc.c1, hu]
theorem qm_ {w : World} {base n : Nat} {v : Value} {l : List Rg} (h : w.ownsRow base 42 2 v n (rgV l)) (hn : n = l.length) {S : Nat → Prop} (hS : ∀ k, base ≤ k → S k) : RL w S v l := by
 subst hn
 rcases id h.2 with ⟨rfl, h0⟩ | ⟨g, cap, cur, rfl, _, _, hc, _⟩
 ·have : l = [] := List.eq_nil_of_length_eq_zero h0
  subst this;exact LR.nil
 ·refine ⟨_, cap, rfl, hc, fun _ => ⟨_, rfl, hS _ (World.ownsRow.lt h g rfl).1, (World.ownsRow.lt h g rfl).2, fun k x hx => ?_⟩⟩
  have hk := (List.getElem?_eq_some_iff.1 hx).1;have h2 := j2_ l k x hx;rw [addT_zero];exact ⟨by rw [World.ownsRow.cellAt h _ (by omega)]; exact h2.1, by show w.cell? ⟨g, k * 2 + 1, none⟩ = _; rw [World.ownsRow.cellAt h _ (by omega)]; exact h2.2⟩
theorem xD_ (x y : Int) : addG [] x y = [⟨x, y - x⟩] := rfl
theorem jR_ {q : List Rg} {r : Rg} {x y : Int} (h : r.start + r.len = x) : addG (q ++ [r]) x y = q ++ [⟨r.start, r.len + (y - x)⟩] := by
 unfold addG
 rw [List.getLast?_concat]
 simp only
 rw [if_pos h, List.dropLast_concat]
theorem x9_ {q : List Rg} {r : Rg} {x y : Int} (h : r.start + r.len ≠ x) : addG (q ++ [r]) x y = q ++ [r] ++ [⟨x, y - x⟩] := by
 unfold addG
 rw [List.getLast?_concat]
 simp only
 rw [if_neg h]
theorem Zi_ {α : Type} {l : List α} {k : Nat} {x : α} (h : l[k]? = some x) : l.drop k = x :: l.drop (k + 1) := by
 obtain ⟨h1, e1⟩ := List.getElem?_eq_some_iff.1 h
 rw [List.drop_eq_getElem_cons h1, e1]
theorem Q8_ {k : Int} {a b o : List Rg} {e : List Int} {i : Nat} {x y : Int} (hx : e[i]? = some x) (hy : e[i + 1]? = some y) : selO k a b o (e.drop i) = selO k a b (if qL_ k (hasR a x) (hasR b x) then o else addG o x y) (e.drop (i + 1)) := by
 rw [Zi_ hx, Zi_ hy]
 rfl
theorem XQ_ {k : Int} {a b o : List Rg} {e : List Int} {i : Nat} (h : e.length ≤ i + 1) : selO k a b o (e.drop i) = o := by
 rcases hq : e.drop i with _ | ⟨x, _ | ⟨y, r⟩⟩
 ·rfl
 ·rfl
 ·have := congrArg List.length hq
  rw [List.length_drop] at this;simp at this;omega
def InE (e : List Int) (o : List Rg) : Prop := ∀ r ∈ o, r.start ∈ e ∧ r.start + r.len ∈ e
theorem InE.add {e : List Int} {o : List Rg} {x y : Int} (h : InE e o) (hx : x ∈ e) (hy : y ∈ e) : InE e (addG o x y) := by
 rcases List.eq_nil_or_concat o with rfl | ⟨q, r, rfl⟩
 ·intro r hr
  rw [xD_] at hr;simp at hr;subst hr;exact ⟨hx, by show x + (y - x) ∈ e; rw [show x + (y - x) = y by omega]; exact hy⟩
 ·rw [List.concat_eq_append] at h ⊢
  by_cases hxx : r.start + r.len = x
  ·rw [jR_ hxx]
   intro r' hr';rcases List.mem_append.1 hr' with h1 | h1
   ·exact h r' (by simp [h1])
   ·simp at h1
    subst h1;exact ⟨(h r (by simp)).1, by show r.start + (r.len + (y - x)) ∈ e; rw [show r.start + (r.len + (y - x)) = y by omega]; exact hy⟩
  ·rw [x9_ hxx]
   intro r' hr';rcases List.mem_append.1 hr' with h1 | h1
   ·exact h r' h1
   ·simp at h1
    subst h1;exact ⟨hx, by show x + (y - x) ∈ e; rw [show x + (y - x) = y by omega]; exact hy⟩
theorem Qp_ (o : List Rg) (x y : Int) : (addG o x y).length ≤ o.length + 1 := by
 rcases List.eq_nil_or_concat o with rfl | ⟨q, r, rfl⟩
 ·rw [xD_]; simp
 ·rw [List.concat_eq_append]
  by_cases hxx : r.start + r.len = x
  ·rw [jR_ hxx]; simp
  ·rw [x9_ hxx]; simp
theorem jn_ {w : World} {base size n c : Nat} {T : TypeId} {A : Option Addr} {xs : List Value} (h : w.ownsRow base T size (.slice A n c) n xs) (hn : 0 < n) : ∃ g, A = some ⟨g, 0, none⟩ := by
 rcases h.2 with ⟨_, h3⟩ | ⟨g, cap, cur, hv, _⟩
 ·omega
 ·injection hv with e1 e2 e3
  exact ⟨g, e1⟩
def QH_ (l : List Rg) (w : World) (e : Ending) (w' : World) : Prop := ∃ A c, e = .returned (.slice A l.length c) ∧ RL w' (fun g => w.heap.size ≤ g) (.slice A l.length c) l ∧ Bel w w'
set_option maxHeartbeats 16000000 in
theorem qW_ {w : World} {S S' : Nat → Prop} {A A' : Option Addr} {c c' : Nat} {a b : List Rg} (ha : RL w S (.slice A a.length c) a) (hb : RL w S' (.slice A' b.length c') b) (hla : a.length ≤ 10000) (hlb : b.length ≤ 10000) (hba : ∀ r ∈ a ++ b, BdR r) {kd : Int} (hkd : kd = 0 ∨ kd = 1 ∨ kd = 2) :
  Calls Tryd.prog 13 #[.slice A a.length c, .slice A' b.length c', .int .i64 kd] w (QH_ (selR a b kd) w) := by
 obtain ⟨i0, hi0, hz0, hz1, hz2⟩ := info_parts QC_
 have HA := hD ha
 have HB := hD hb
 have HBD := hD hba
 have HKD := hD hkd
 clear ha hb hba hkd
 go_enter Tryd.func13, Tryd.ntmps13
 go_wp2_with (first
  | (at_builtin; (refine ze_ _ rfl (.const (.slice none 0 0)) (.tmp 13) 40 rfl w.heap.size 42 i0 _ 2 16 Tryd.underlying40 hi0 hz0 hz1 hz2 rfl (by decide) (.slice none 0 0) 0 [] (by simp [Act.eval]) (World.ownsRow_nil _ _ _ _) _ A a.length c (rgV a) (by simp [Act.eval]) (k2_ HA.out) (qn_ _) (by unfold maxLen; omega) (by omega) (Nat.le_refl _) ?_); intro v5 w5 h5 hg5 _; have HB5 := hD (zo_ (Below.refl w.heap.size w) (World.ownsRow_nil _ w.heap.size 42 2) hg5 (Nat.le_refl _)); have H5 := hD (show w5.ownsRow w.heap.size 42 2 v5 a.length (rgV a) by (have := h5; rwa [Nat.zero_add, List.nil_append] at this)); clear h5 hg5; skip)
  | (at_builtin; (refine ze_ _ rfl (.tmp 14) (.tmp 15) 40 rfl w.heap.size 42 i0 _ 2 16 Tryd.underlying40 hi0 hz0 hz1 hz2 rfl (by decide) v5 a.length (rgV a) (by simp [Act.eval]) H5.out _ A' b.length c' (rgV b) (by simp [Act.eval]) (k2_ (RL.up HB.out HB5.out)) (qn_ _) (by unfold maxLen; omega) (by omega) HB5.out.size ?_); intro v6 w6 h6 hg6 _; have HB6 := hD (zo_ HB5.out H5.out hg6 HB5.out.size); have H6 := hD (show w6.ownsRow w.heap.size 42 2 v6 (a.length + b.length) (rgV (a ++ b)) by (rw [rgV_append]; exact h6)); obtain ⟨A6, c6, e6, _⟩ := zQ_ h6; subst e6; clear h6 hg6; skip))
 obtain ⟨m, hm⟩ : ∃ m, a.length + b.length = m := ⟨_, rfl⟩
 have HM := hD hm
 have hml : m ≤ 20000 := by omega
 rw [hm] at H6 ⊢
 have hab : (a ++ b).length = m := by rw [List.length_append]; exact hm
 have HE := hD (show Calls Tryd.prog 43 #[.slice A6 m c6] w6 (Zv_ (fun _ => False) (z8_ (a ++ b)) w6) by
  have h1 := qm_ H6.out hab.symm (S := fun q => w.heap.size ≤ q) (fun _ h => h);rw [← hab] at h1 ⊢;exact Qd_ h1 (by omega) HBD.out)
 have hle : (z8_ (a ++ b)).length ≤ 40000 := by
  have := xy_ (a ++ b) [];unfold z8_;simp only [List.length_nil] at this;omega
 have HEB := hD (show ∀ z ∈ z8_ (a ++ b), -549755813888 ≤ z ∧ z ≤ 549755813888 from fun z hz => kP_ HBD.out hz)
 obtain ⟨e, he⟩ : ∃ e, z8_ (a ++ b) = e := ⟨_, rfl⟩
 have HEE := hD (show selR a b kd = selO kd a b [] e by unfold selR; rw [he])
 rw [he] at HE hle HEB
 clear hm hab he
 go_wp2_with fail
 refine HE.out.mono ?_
 rintro e7 w7 ⟨A7, c7, rfl, hi7, hb7⟩
 have HI7 := hD hi7
 have HB7 := hD (HB6.out.next hb7)
 have hsz6 := HB6.out.size
 have hsz7 := hb7.size
 have HA7 := hD (RL.up HA.out HB7.out)
 have HBB7 := hD (RL.up HB.out HB7.out)
 clear hi7 hb7 HE
 go_wp2_with fail
 go_loopw [7, 9] (fun vo i wx => ∃ (k : Nat) (o : List Rg) (A8 : Option Addr) (c8 : Nat), i = .int .i64 (k : Int) ∧ vo = .slice A8 o.length c8 ∧ o.length ≤ k ∧ k ≤ e.length ∧ wx.ownsRow w7.heap.size 42 2 (.slice A8 o.length c8) o.length (rgV o) ∧ selO kd a b [] e = selO kd a b o (e.drop k) ∧ InE e o ∧ Bel w7 wx) (fun _ i _ => e.length - (intOf i).toNat)
 case atStart => exact ⟨0, [], none, 0, rfl, rfl, Nat.zero_le _, Nat.zero_le _, World.ownsRow_nil _ _ _ _, rfl, (fun r hr => by cases hr), Below.refl _ _⟩
 case round =>
  obtain ⟨k, o, A8, c8, rfl, rfl, hok, hke, ho, hsel, hin, hb⟩ := hrel;have HO := hD ho;have HS := hD hsel;have HIN := hD hin;have HBW := hD hb;obtain ⟨wo, hwo⟩ : ∃ wo, wo = wr := ⟨_, rfl⟩;subst hwo;clear ho hsel hin hb;by_cases hlt : k + 1 < e.length
  ·have z0 : (k : Int) + 1 < (e.length : Int) := by omega
   have z1 : (0 : Int) ≤ (k : Int) := by omega
   have z2 : (k : Int) < (e.length : Int) := by omega
   obtain ⟨ad, x, rfl, hx, _, had, b0⟩ := HI7.out.cell (k := k) (by omega);obtain ⟨ad', y, ea, hy, _, had', b1⟩ := HI7.out.cell (k := k + 1) hlt;injection ea with ea;subst ea;have HXB := hD (HEB.out x (List.mem_of_getElem? hx));have HYB := hD (HEB.out y (List.mem_of_getElem? hy));have HSN := hD (HS.out.trans (Q8_ hx hy));have HXM := hD (List.mem_of_getElem? hx);have HYM := hD (List.mem_of_getElem? hy);obtain ⟨bx, hbx⟩ : ∃ bx, hasR a x = bx := ⟨_, rfl⟩;obtain ⟨bY, hbY⟩ : ∃ bY, hasR b x = bY := ⟨_, rfl⟩
   have HHA := hD (show ∀ n : CalmW wo, Calls Tryd.prog 44 #[.slice A a.length c, .int .i64 x] n.w (Ret (.bool bx) n.w) from fun n => by
    have h1 := HXB.out;rw [← hbx];exact Zh_ (RL.up (RL.up HA7.out HBW.out) n.ok) (by omega) (by omega))
   have HHB := hD (show ∀ n : CalmW wo, Calls Tryd.prog 44 #[.slice A' b.length c', .int .i64 x] n.w (Ret (.bool bY) n.w) from fun n => by
    have h1 := HXB.out;rw [← hbY];exact Zh_ (RL.up (RL.up HBB7.out HBW.out) n.ok) (by omega) (by omega))
   rw [hbx, hbY] at HSN;have HC0 := hD (show ∀ X, Bel w7 X → X.cell? (ad.add k) = some (.int .i64 x) from fun X hX => (hX.cell (zq_ b0)).trans b0);have HC1 := hD (show ∀ X, Bel w7 X → X.cell? (ad.add (k + 1)) = some (.int .i64 y) from fun X hX => (hX.cell (zq_ b1)).trans b1);have e0 := CalmW.cell (HC0.out _ HBW.out);clear hx hy hbx hbY b0 b1;go_upto_region 6 with fail
   refine zd_ (by kernel_rfl) (by kernel_rfl) ?_;repeat (go_big_quiet_step ((go_at_call 44; first | with_reducible exact Calls.calm (HHA.out _) | with_reducible exact Calls.calm (HHB.out _))))
   refine wpQuiet_nil ?_;rintro _ ⟨n5, rfl⟩;have HB9 := hD n5.ok;clear e0 HHA HHB;generalize n5.w = w9 at *;obtain ⟨sk, hsk⟩ : ∃ sk, qL_ kd bx bY = sk := ⟨_, rfl⟩;have HSK := hD hsk;rw [hsk] at HSN;clear hsk;go_upto_region 7 with fail
   go_cut [69] (fun v wx => v = .bool sk ∧ Bel wo wx)
   case first =>
    rcases HKD.out with rfl | rfl | rfl <;> cases bx <;> cases bY
    all_goals
     go_wp2_with fail
     go_meet
     case rel => exact ⟨by rw [← HSK.out]; rfl, HB9.out⟩
   case rest =>
    obtain ⟨rfl, hbx⟩ := hcut;have HBX := hD (HBW.out.trans (hbx.mono HBW.out.size));have HOC := hD (zb_ HO.out (Only.of_below (fun _ => False) hbx) (fun _ _ h => h));have HSX := hD (show ∀ X, Bel w7 X → (X.cell? (ad.add k) = some (.int .i64 x) ∧ X.cell? ⟨ad.block, ad.off + (k + 1), none⟩ = some (.int .i64 y) ∧ X.cell? (ad.add (k + 1)) = some (.int .i64 y)) from fun X hX => ⟨HC0.out X hX, HC1.out X hX, HC1.out X hX⟩);have hxb := HXB.out;have hyb := HYB.out;have wk1 : IntKind.i64.wrap ((k : Int) + 1) = (k : Int) + 1 := IntWalk.i64_in _ (by omega);have z3 : (0 : Int) ≤ (k : Int) + 1 := by omega
    have tk1 : ((k : Int) + 1).toNat = k + 1 := by omega
    have wxy : IntKind.i64.wrap (y - x) = y - x := IntWalk.i64_in _ (by omega);clear hbx;cases sk with
    | true =>
     go_wp2_with fail
     go_roundw
     case rel => exact ⟨k + 1, o, A8, c8, by go_num, rfl, by omega, by omega, HOC.out, HSN.out, HIN.out, HBX.out⟩
     case measure => simp [intOf]; omega
    | false =>
     rcases List.eq_nil_or_concat o with hnil | ⟨q, r, hqr⟩
     ·subst hnil
      go_upto_region 9 with fail
      refine zd_ (by kernel_rfl) (by kernel_rfl) ?_;repeat (go_big_quiet_step (fail))
      refine wpQuiet_nil ?_;rintro _ ⟨n5, rfl⟩;have HB10 := hD (HBX.out.trans (n5.ok.mono HBX.out.size));have HO10 := hD (zb_ HOC.out (Only.of_below (fun _ => False) n5.ok) (fun _ _ h => h));generalize n5.w = w10 at *;go_upto_region 11 with fail
      have hd0 : Bel w10 w10.drew := (Below.refl _ _).drew;have hlo : w7.heap.size ≤ w10.heap.size := (HB10.out).size;refine wp_region_held_drew (S := fun w' : World => (w'.cell? (ad.add k) = some (.int .i64 x) ∧ w'.cell? ⟨ad.block, ad.off + (k + 1), none⟩ = some (.int .i64 y) ∧ w'.cell? (ad.add (k + 1)) = some (.int .i64 y))) (by kernel_rfl) (HSX.out _ ((HB10.out).trans (hd0.mono (HB10.out).size))) (fun _ => ?_);refine tkB [0, 1, 2, 3, 4, 5, 6, 7, 8, 9, 10, 11, 12, 13, 14, 15] ?_
      iterate 16
       refine tk (oi := ⟨some _, _, _, _, _, _⟩) (v := ?_) rfl (by kernel_rfl) (by kernel_rfl) (by kernel_rfl) (fun _ _ _ _ _ h => h) rfl (Or.inl ⟨by rfl, ?_⟩) (by assumption) ?_;rotate_left 1
       ·(intro w hSw; (try dsimp only at hSw); go_simp; try with_reducible rfl)
       simp only [Act.put, tS]
      refine tkE ?_;refine wpAnyH_all (rs := [16]) (by kernel_rfl) (by simp) (fun i hi => ?_);obtain rfl : i = 16 := by simpa using hi
      refine wpOp_step (o := ⟨some 129, _, _, _, _, _⟩) rfl (fun K1 hK1 => ?_);go_simp;have HB11 := hD ((HB10.out).trans ((hd0.al (.cells #[.int .i64 x, .int .i64 (y - x)] 42)).mono (HB10.out).size));have H11 := hD ((HO10.out.drew).alloc (.cells #[.int .i64 x, .int .i64 (y - x)] 42));have HG11 := hD (Blk.new w10.drew 42 #[.int .i64 x, .int .i64 (y - x)]);refine hK1 _ _ ⟨HSX.out _ HB11.out, ?_⟩;try simp only [Act.put, upd, Nat.reduceAdd, Nat.reduceBEq, tS]
      refine wpAnyH_all (rs := [17]) (by kernel_rfl) (by simp) (fun i hi => ?_);obtain rfl : i = 17 := by simpa using hi
      refine wpOp_step (o := ⟨some 130, _, _, _, _, _⟩) rfl (fun K2 hK2 => ?_);refine zc_ (o := ⟨some 130, _, _, _, _, _⟩) _ rfl (.tmp 113) (.tmp 129) 40 rfl w7.heap.size 42 i0 _ 2 16 Tryd.underlying40 hi0 hz0 hz1 hz2 rfl (by decide) (.slice A8 0 c8) 0 (rgV []) rfl H11.out _ (some ⟨w10.drew.heap.size, 0, none⟩) 1 1 (rgV [⟨x, y - x⟩]) rfl (zZ_ HG11.out rfl) (qn_ _) (by unfold maxLen; omega) (by omega) HB11.out.size ?_;intro v12 w12 h12 hg12 _;have HB12 := hD (show Bel w7 w12 from zo_ HB11.out H11.out hg12 HB11.out.size);have H12 := hD (show w12.ownsRow w7.heap.size 42 2 v12 (0 + 1) (rgV (addG [] x y)) by rw [show addG [] x y = [] ++ [(⟨x, y - x⟩ : Rg)] from xD_ x y, rgV_append]; exact h12);have HC12 := hD (show (w12.cell? (ad.add k) = some (.int .i64 x) ∧ w12.cell? ⟨ad.block, ad.off + (k + 1), none⟩ = some (.int .i64 y) ∧ w12.cell? (ad.add (k + 1)) = some (.int .i64 y)) from HSX.out _ HB12.out);clear h12 hg12;refine hK2 _ _ ⟨HC12.out, ?_⟩;try simp only [Act.put, upd, Nat.reduceAdd, Nat.reduceBEq, tS]
      refine wpAnyH_all (rs := [18]) (by kernel_rfl) (by simp) (fun i hi => ?_);obtain rfl : i = 18 := by simpa using hi
      refine wpOp_step (o := ⟨some 7, _, _, _, _, _⟩) rfl (fun K3 hK3 => ?_);go_simp;refine hK3 _ _ ⟨HC12.out, ?_⟩;try simp only [Act.put, upd, Nat.reduceAdd, Nat.reduceBEq, tS]
      refine wpAnyH_done (by kernel_rfl) ?_ _;obtain ⟨A12, c12, e12, _⟩ := zQ_ H12.out;subst e12;have HLN := hD (show (addG [] x y).length = 0 + 1 by rw [show addG [] x y = [] ++ [(⟨x, y - x⟩ : Rg)] from xD_ x y]; simp);go_wp2_with fail
      go_roundw
      case rel => exact ⟨k + 1, addG [] x y, A12, c12, by go_num, by rw [HLN.out], by rw [HLN.out]; omega, by omega, by rw [HLN.out]; exact H12.out, HSN.out, HIN.out.add HXM.out HYM.out, HB12.out⟩
      case measure => simp [intOf]; omega
     ·rw [List.concat_eq_append] at hqr
      subst hqr;have hqk : q.length + 1 ≤ k := by simpa using hok
      obtain ⟨p, hp⟩ : ∃ p, q.length = p := ⟨_, rfl⟩;have HP := hD hp;have HLQ := hD (show (q ++ [r]).length = p + 1 by rw [List.length_append, hp]; rfl);rw [HLQ.out] at HOC ⊢;rw [hp] at hqk;obtain ⟨g, hg⟩ := jn_ HOC.out (Nat.succ_pos _);subst hg;have hra := j2_ (q ++ [r]) p r (by rw [← hp]; simp);have hrl := xK_ (q ++ [r]);rw [HLQ.out] at hrl;have HG0 := hD (show wc.cell? ⟨g, p * 2, none⟩ = some (.int .i64 r.start) by rw [World.ownsRow.cellAt HOC.out _ (by omega)]; exact hra.1);have HG1 := hD (show wc.cell? ⟨g, p * 2 + 1, none⟩ = some (.int .i64 r.len) by rw [World.ownsRow.cellAt HOC.out _ (by omega)]; exact hra.2);have hrs := HEB.out _ (HIN.out r (by simp)).1;have hre := HEB.out _ (HIN.out r (by simp)).2;have wre : IntKind.i64.wrap (r.start + r.len) = r.start + r.len := IntWalk.i64_in _ (by omega);have wrl : IntKind.i64.wrap (r.len + (y - x)) = r.len + (y - x) := IntWalk.i64_in _ (by omega);have wp1 : IntKind.i64.wrap ((p : Int) + 1 - 1) = (p : Int) := by rw [show (p : Int) + 1 - 1 = (p : Int) by omega]; exact IntWalk.i64_in _ (by omega)
      have e0 := CalmW.cell HG0.out;have e1 := CalmW.cell HG1.out;have e2 := CalmW.cell (HC0.out _ HBX.out);clear hp hra hrl hok;go_upto_region 9 with fail
      by_cases hxx : r.start + r.len = x
      ·have q1 : (r.start + r.len == x) = true := by rw [hxx]; simp
       have HAD := hD (show addG (q ++ [r]) x y = q ++ [⟨r.start, r.len + (y - x)⟩] from jR_ hxx);clear hxx;refine zd_ (by kernel_rfl) (by kernel_rfl) ?_;repeat (go_big_quiet_step (fail))
       refine wpQuiet_nil ?_;rintro _ ⟨n5, rfl⟩;have HB10 := hD (HBX.out.trans (n5.ok.mono HBX.out.size));have HO10 := hD (zb_ HOC.out (Only.of_below (fun _ => False) n5.ok) (fun _ _ h => h));clear e0 e1 e2;generalize n5.w = w10 at *;have k0 := HC0.out _ (HB10.out);have k1 := HC1.out _ (HB10.out);have k2 : w10.cell? ⟨ad.block, ad.off + (k + 1), none⟩ = some (.int .i64 y) := k1
       have k3 : w10.cell? ⟨g, p * 2 + 1, none⟩ = some (.int .i64 r.len) := by
        have hrl := xK_ (q ++ [r]);have hra := j2_ (q ++ [r]) p r (by rw [← HP.out]; simp);rw [HLQ.out] at hrl;rw [World.ownsRow.cellAt HO10.out _ (by omega)];exact hra.2
       have k4 := World.ownsRow.frozenAt HO10.out (p * 2 + 1);have wpp : IntKind.i64.wrap (p : Int) = (p : Int) := IntWalk.i64_in _ (by omega);have z4 : (0 : Int) ≤ (p : Int) := by omega
       have z5 : (p : Int) < (p : Int) + 1 := by omega
       have k0' : w10.drew.cell? (ad.add k) = some (.int .i64 x) := k0;have k1' : w10.drew.cell? (ad.add (k + 1)) = some (.int .i64 y) := k1;have k2' : w10.drew.cell? ⟨ad.block, ad.off + (k + 1), none⟩ = some (.int .i64 y) := k1;have k3' : w10.drew.cell? ⟨g, p * 2 + 1, none⟩ = some (.int .i64 r.len) := k3;have k4' : w10.drew.frozen? ⟨g, p * 2 + 1, none⟩ = false := k4;have HLN := hD (show (addG (q ++ [r]) x y).length = p + 1 by rw [HAD.out, List.length_append, HP.out]; rfl)
       have HST := hD (show (w10.setCell ⟨g, p * 2 + 1, none⟩ (.int .i64 (r.len + (y - x)))).drew.ownsRow w7.heap.size 42 2 (.slice (some ⟨g, 0, none⟩) (p + 1) c8) (p + 1) (rgV (addG (q ++ [r]) x y)) by
        rw [HAD.out, ← Q9_, HP.out];exact (World.ownsRow.stored HO10.out (p * 2 + 1) (.int .i64 (r.len + (y - x)))).1.drew)
       have HBS := hD (show Bel w7 (w10.setCell ⟨g, p * 2 + 1, none⟩ (.int .i64 (r.len + (y - x)))).drew from (HB10.out.setCell (p := ⟨g, p * 2 + 1, none⟩) (World.ownsRow.lt HO10.out g rfl).1 _).drew);clear k0 k1 k2 k3 k4;go_upto_region 10 with fail
       go_region_law (fail)
       all_goals
        go_wp2_with fail
        go_roundw
        case rel => exact ⟨k + 1, addG (q ++ [r]) x y, some ⟨g, 0, none⟩, c8, by go_num, by rw [HLN.out], by rw [HLN.out]; omega, by omega, by rw [HLN.out]; exact HST.out, HSN.out, HIN.out.add HXM.out HYM.out, HBS.out⟩
        case measure => simp [intOf]; omega
      ·have q1 : (r.start + r.len == x) = false := beq_eq_false_iff_ne.2 hxx
       have HAD := hD (show addG (q ++ [r]) x y = q ++ [r] ++ [(⟨x, y - x⟩ : Rg)] from x9_ hxx);clear hxx;refine zd_ (by kernel_rfl) (by kernel_rfl) ?_;repeat (go_big_quiet_step (fail))
       refine wpQuiet_nil ?_;rintro _ ⟨n5, rfl⟩;have HB10 := hD (HBX.out.trans (n5.ok.mono HBX.out.size));have HO10 := hD (zb_ HOC.out (Only.of_below (fun _ => False) n5.ok) (fun _ _ h => h));clear e0 e1 e2;generalize n5.w = w10 at *;go_upto_region 11 with fail
       have hd0 : Bel w10 w10.drew := (Below.refl _ _).drew;have hlo : w7.heap.size ≤ w10.heap.size := (HB10.out).size;refine wp_region_held_drew (S := fun w' : World => (w'.cell? (ad.add k) = some (.int .i64 x) ∧ w'.cell? ⟨ad.block, ad.off + (k + 1), none⟩ = some (.int .i64 y) ∧ w'.cell? (ad.add (k + 1)) = some (.int .i64 y))) (by kernel_rfl) (HSX.out _ ((HB10.out).trans (hd0.mono (HB10.out).size))) (fun _ => ?_);refine tkB [0, 1, 2, 3, 4, 5, 6, 7, 8, 9, 10, 11, 12, 13, 14, 15] ?_
       iterate 16
        refine tk (oi := ⟨some _, _, _, _, _, _⟩) (v := ?_) rfl (by kernel_rfl) (by kernel_rfl) (by kernel_rfl) (fun _ _ _ _ _ h => h) rfl (Or.inl ⟨by rfl, ?_⟩) (by assumption) ?_;rotate_left 1
        ·(intro w hSw; (try dsimp only at hSw); go_simp; try with_reducible rfl)
        simp only [Act.put, tS]
       refine tkE ?_;refine wpAnyH_all (rs := [16]) (by kernel_rfl) (by simp) (fun i hi => ?_);obtain rfl : i = 16 := by simpa using hi
       refine wpOp_step (o := ⟨some 129, _, _, _, _, _⟩) rfl (fun K1 hK1 => ?_);go_simp;have HB11 := hD ((HB10.out).trans ((hd0.al (.cells #[.int .i64 x, .int .i64 (y - x)] 42)).mono (HB10.out).size));have H11 := hD ((HO10.out.drew).alloc (.cells #[.int .i64 x, .int .i64 (y - x)] 42));have HG11 := hD (Blk.new w10.drew 42 #[.int .i64 x, .int .i64 (y - x)]);refine hK1 _ _ ⟨HSX.out _ HB11.out, ?_⟩;try simp only [Act.put, upd, Nat.reduceAdd, Nat.reduceBEq, tS]
       refine wpAnyH_all (rs := [17]) (by kernel_rfl) (by simp) (fun i hi => ?_);obtain rfl : i = 17 := by simpa using hi
       refine wpOp_step (o := ⟨some 130, _, _, _, _, _⟩) rfl (fun K2 hK2 => ?_);refine zc_ (o := ⟨some 130, _, _, _, _, _⟩) _ rfl (.tmp 113) (.tmp 129) 40 rfl w7.heap.size 42 i0 _ 2 16 Tryd.underlying40 hi0 hz0 hz1 hz2 rfl (by decide) (.slice (some ⟨g, 0, none⟩) (p + 1) c8) (p + 1) (rgV (q ++ [r])) rfl H11.out _ (some ⟨w10.drew.heap.size, 0, none⟩) 1 1 (rgV [⟨x, y - x⟩]) rfl (zZ_ HG11.out rfl) (qn_ _) (by unfold maxLen; omega) (by omega) HB11.out.size ?_;intro v12 w12 h12 hg12 _;have HB12 := hD (show Bel w7 w12 from zo_ HB11.out H11.out hg12 HB11.out.size);have H12 := hD (show w12.ownsRow w7.heap.size 42 2 v12 ((p + 1) + 1) (rgV (addG (q ++ [r]) x y)) by rw [HAD.out, rgV_append]; exact h12);have HC12 := hD (show (w12.cell? (ad.add k) = some (.int .i64 x) ∧ w12.cell? ⟨ad.block, ad.off + (k + 1), none⟩ = some (.int .i64 y) ∧ w12.cell? (ad.add (k + 1)) = some (.int .i64 y)) from HSX.out _ HB12.out);clear h12 hg12;refine hK2 _ _ ⟨HC12.out, ?_⟩;try simp only [Act.put, upd, Nat.reduceAdd, Nat.reduceBEq, tS]
       refine wpAnyH_all (rs := [18]) (by kernel_rfl) (by simp) (fun i hi => ?_);obtain rfl : i = 18 := by simpa using hi
       refine wpOp_step (o := ⟨some 7, _, _, _, _, _⟩) rfl (fun K3 hK3 => ?_);go_simp;refine hK3 _ _ ⟨HC12.out, ?_⟩;try simp only [Act.put, upd, Nat.reduceAdd, Nat.reduceBEq, tS]
       refine wpAnyH_done (by kernel_rfl) ?_ _;obtain ⟨A12, c12, e12, _⟩ := zQ_ H12.out;subst e12;have HLN := hD (show (addG (q ++ [r]) x y).length = (p + 1) + 1 by rw [HAD.out, List.length_append, HLQ.out]; rfl);go_wp2_with fail
       go_roundw
       case rel => exact ⟨k + 1, addG (q ++ [r]) x y, A12, c12, by go_num, by rw [HLN.out], by rw [HLN.out]; omega, by omega, by rw [HLN.out]; exact H12.out, HSN.out, HIN.out.add HXM.out HYM.out, HB12.out⟩
       case measure => simp [intOf]; omega
  ·have z0 : ¬ (k : Int) + 1 < (e.length : Int) := by omega
   have HSE := hD (show selR a b kd = o by rw [HEE.out, HS.out, XQ_ (by omega)]);have HRL := hD (qm_ HO.out rfl (S := fun q => w.heap.size ≤ q) (fun q hq => by omega));go_wp2_with fail
   go_ret
   exact ⟨A8, c8, by rw [HSE.out]; rfl, by rw [HSE.out]; exact HRL.out, HB7.out.next HBW.out⟩
end Go.Proofs.YtdkcfgahdcpkkaaDoor
