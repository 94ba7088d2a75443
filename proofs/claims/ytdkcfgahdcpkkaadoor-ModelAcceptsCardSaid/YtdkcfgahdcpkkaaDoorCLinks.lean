/- links and what is below: the walk (printed by genLinks.py). -/
import Derived.Test.YtdkcfgahdcpkkaaDoorCDisks
import Derived.Deep.QuietTactic
import Derived.BigQuiet
import Derived.Test.YtdkcfgahdcpkkaaDoorCUses
import Derived.Test.YtdkcfgahdcpkkaaDoorCOverP
import Derived.Test.YtdkcfgahdcpkkaaDoorCCloneV
import Derived.Test.YtdkcfgahdcpkkaaDoorCFlags
import Derived.Deep.LoopGhost
set_option linter.all false
namespace Go.Proofs.YtdkcfgahdcpkkaaDoor
open Go.RowKit
set_option maxRecDepth 100000
theorem nine99 {W : World} {g : Nat} {T : TypeId} {v0 v1 v2 v3 v4 v5 v6 v7 v8 : Value} (h : Blk W g T #[v0, v1, v2, v3, v4, v5, v6, v7, v8]) : W.cell? ⟨g, 0, none⟩ = some v0 ∧ W.cell? ⟨g, 1, none⟩ = some v1 ∧ W.cell? ⟨g, 2, none⟩ = some v2 ∧ W.cell? ⟨g, 3, none⟩ = some v3 ∧ W.cell? ⟨g, 4, none⟩ = some v4 ∧ W.cell? ⟨g, 5, none⟩ = some v5 ∧ W.cell? ⟨g, 6, none⟩ = some v6 ∧ W.cell? ⟨g, 7, none⟩ = some v7 ∧ W.cell? ⟨g, 8, none⟩ = some v8 :=
 ⟨by rw [h.cell 0]; rfl, by rw [h.cell 1]; rfl, by rw [h.cell 2]; rfl, by rw [h.cell 3]; rfl, by rw [h.cell 4]; rfl, by rw [h.cell 5]; rfl, by rw [h.cell 6]; rfl, by rw [h.cell 7]; rfl, by rw [h.cell 8]; rfl⟩
open Go.RowKit Go.Maps
set_option maxRecDepth 100000
theorem k7_ : ∀ l : List ByteArray, (l.map encT).flatten = txV l
 | [] => rfl
 | a :: l => by rw [List.map_cons, List.flatten_cons, k7_ l]; rfl
theorem Q1_ {W : World} {g : Nat} {T : TypeId} {v0 v1 v2 v3 v4 v5 : Value} (h : Blk W g T #[v0, v1, v2, v3, v4, v5]) : W.cell? ⟨g, 0, none⟩ = some v0 ∧ W.cell? ⟨g, 1, none⟩ = some v1 ∧ W.cell? ⟨g, 2, none⟩ = some v2 ∧ W.cell? ⟨g, 3, none⟩ = some v3 ∧ W.cell? ⟨g, 4, none⟩ = some v4 ∧ W.cell? ⟨g, 5, none⟩ = some v5 :=
 ⟨by rw [h.cell 0]; rfl, by rw [h.cell 1]; rfl, by rw [h.cell 2]; rfl, by rw [h.cell 3]; rfl, by rw [h.cell 4]; rfl, by rw [h.cell 5]; rfl⟩
def OwnT (l : List ByteArray) (w : World) (e : Ending) (w' : World) : Prop := ∃ v, e = .returned v ∧ w'.ownsRow w.heap.size 9 1 v l.length (txV l) ∧ Bel w w'
set_option maxHeartbeats 2000000 in
theorem Z1_ {w : World} {S : Nat → Prop} {A : Option Addr} {c : Nat} {l : List ByteArray} (h : TL w S (.slice A l.length c) l) (hl : l.length ≤ 1000000) :
  Calls Tryd.prog 96 #[.slice A l.length c] w (OwnT l w) := by
 have hrd := Qt_ h
 cases A with
 | none =>
  have hn : l = [] := by
   obtain ⟨A', c', e, _, hh⟩ := h;injection e with e1 e2 e3;cases l with
   | nil => rfl
   | cons a l =>
    obtain ⟨ad, ea, _⟩ := hh (by simp);rw [ea] at e1;cases e1
  subst hn;have hnil : ∀ w' : World, (binOp .eql 26 (.slice none 0 c) (.slice none 0 0)).run Tryd.prog w' = .ok (.bool true) w' := fun w' => Lib.run_eql_slice_nil w' 26 9 none 0 c 0 0 Tryd.underlying26;clear h hrd;show Calls Tryd.prog _ #[.slice none 0 c] w _
  go_enter Tryd.func96, Tryd.ntmps96
  go_wp2_with fail
  go_ret
  exact ⟨_, rfl, World.ownsRow_nil _ _ _ _, Below.refl _ _⟩
 | some ad =>
  have HR := hD hrd;clear h hrd;have hnil : ∀ w' : World, (binOp .eql 26 (.slice (some ad) l.length c) (.slice none 0 0)).run Tryd.prog w' = .ok (.bool false) w' := fun w' => Lib.run_eql_slice_nil w' 26 9 (some ad) l.length c 0 0 Tryd.underlying26;obtain ⟨i0, hi0, hz0, hz1, hz2⟩ := info_parts qA_;go_enter Tryd.func96, Tryd.ntmps96
  have HRA := hD (show Reads (w.alloc (.cells #[] 9)) w.heap.size 1 (some ad) l.length (l.map encT).flatten from HR.out.only (F := fun _ => False) ((Only.refl _ _).alloc _) (Nat.le_refl _) (fun _ h => h.elim));go_wp2_with (at_builtin; refine zd_ _ rfl _ _ 26 rfl w.heap.size 9 i0 _ 1 16 Tryd.underlying26 hi0 hz0 hz1 hz2 rfl (by decide) _ 0 [] rfl (xv_ w _ _) w.heap.size (some ad) l.length c (l.map encT).flatten rfl HRA.out (oneT l) (by unfold maxLen; omega) (by omega) (by simp) ?_; intro v' w1 hown' hgrow _)
  go_ret
  have e : (l.map encT).flatten = txV l := by
   exact k7_ l
  rw [Nat.zero_add, List.nil_append] at hown';exact ⟨_, rfl, e ▸ hown', ((Below.refl _ _).al _).grown hgrow (by simp) (fun k hk => Nat.le_of_eq (Option.some.inj hk))⟩
set_option maxHeartbeats 4000000 in
theorem y3_ {w : World} {S : Nat → Prop} {A : Option Addr} {c : Nat} {l : List ByteArray} (s : ByteArray) (h : TL w S (.slice A l.length c) l) (hl : l.length ≤ 4000000) :
  Calls Tryd.prog 60 #[.slice A l.length c, .string s] w (Ret (.bool (decide (s ∈ l))) w) := by
 have HI : Calls Tryd.prog 98 #[.slice A l.length c, .string s] w (fun e w' => ∃ z : Int, e = .returned (.int .i64 z) ∧ decide (0 ≤ z) = decide (s ∈ l) ∧ Bel w w') := by
  have HL := hD h;clear h;go_enter Tryd.func98, Tryd.ntmps98
  go_wp2_with fail
  go_loopw [8] (fun v wr => ∃ k : Nat, k ≤ l.length ∧ v = .int .i64 (k : Int) ∧ (∀ j x, j < k → l[j]? = some x → x ≠ s) ∧ Bel w wr) (fun v _ => l.length - (intOf v).toNat)
  case atStart => exact ⟨0, Nat.zero_le _, rfl, fun j x h => absurd h (Nat.not_lt_zero _), Below.refl _ _⟩
  case round =>
   obtain ⟨k, hk, rfl, hn, hb⟩ := hrel;have HN := hD hn;have HB := hD hb;clear hn hb;by_cases hlt : k < l.length
   ·have z0 : (k : Int) < (l.length : Int) := by omega
    have z1 : (0 : Int) ≤ (k : Int) := by omega
    obtain ⟨ad, x, rfl, hx, _, had, hc⟩ := (HL.out.up HB.out).cell hlt;have HX := hD hx;clear hx;by_cases hs : s = x
    ·subst hs
     have q : (s.toList == s.toList) = true := by simp
     have HD := hD (show s ∈ l from List.mem_of_getElem? HX.out);go_wp2_with fail
     go_ret
     exact ⟨k, rfl, by rw [decide_eq_true HD.out, decide_eq_true (by omega)], HB.out⟩
    ·have q : (s.toList == x.toList) = false := by rw [yi_, decide_eq_false hs]
     have HS := hD hs;clear hs;go_wp2_with fail
     go_roundw
     case rel => exact ⟨k + 1, by omega, by go_num, fun j y hj hy => by
      rcases Nat.lt_or_ge j k with h | h
      ·exact HN.out j y h hy
      ·obtain rfl : j = k := by omega
       rw [HX.out] at hy; injection hy with hy; exact fun e => HS.out (by rw [hy, e]), HB.out⟩
     case measure => simp [intOf]; omega
   ·obtain rfl : k = l.length := by omega
    have HD := hD (show ¬ s ∈ l from fun h => by
     obtain ⟨j, hj⟩ := List.getElem?_of_mem h;exact HN.out j s (List.getElem?_eq_some_iff.1 hj).1 hj rfl)
    go_wp2_with fail
    go_ret
    exact ⟨-1, rfl, by rw [decide_eq_false HD.out]; rfl, HB.out⟩
 have HH := hD HI
 clear HI h
 go_enter Tryd.func60, Tryd.ntmps60
 go_wp2_with fail
 refine HH.out.mono ?_
 rintro e w1 ⟨z, rfl, hz, hb⟩
 have HZ := hD hz
 have HB := hD hb
 clear hz hb
 go_wp2_with fail
 go_ret
 exact ⟨by rw [← HZ.out]; rfl, HB.out⟩
theorem skey : Keyed Tryd.prog 9 := string_keyed Tryd.underlying9
theorem yP_ (w : World) : (zeroValue 26).run Tryd.prog w = .ok (.slice none 0 0) w := by kernel_rfl
theorem Z9_ (w : World) : (zeroValue 4).run Tryd.prog w = .ok (.bool false) w := by kernel_rfl
def LKm (w : World) (S : Nat → Prop) (b n : Nat) (vs : List Vo) : Prop :=
 ∃ M, VMp Tryd.prog skf 9 w b n M ∧ ∀ x, (zo_ vs x = none ∧ M x = none) ∨ ∃ l A c, zo_ vs x = some l ∧ M x = some (.slice A l.length c) ∧ TL w S (.slice A l.length c) l
section
variable {w w' : World} {S S' : Nat → Prop} {b n : Nat} {vs : List Vo}
theorem LKm.lt (h : LKm w S b n vs) : b < w.heap.size := by obtain ⟨M, h, _⟩ := h; exact h.lt
theorem LKm.only {F : Nat → Prop} (h : LKm w S b n vs) (ho : Only F w w') (hb : ¬ F b) (hF : ∀ k, S k → ¬ F k) (hS : ∀ k, S k → S' k) : LKm w' S' b n vs := by
 obtain ⟨M, hm, h2⟩ := h
 exact ⟨M, hm.only ho hb, fun x => (h2 x).imp id fun ⟨l, A, c, e1, e2, h3⟩ => ⟨l, A, c, e1, e2, TL.keep h3 (Kept.of_only ho hF) hS⟩⟩
theorem LKm.up (h : LKm w S b n vs) (hb : Bel w w') : LKm w' S b n vs := h.only (Only.of_below (fun _ => False) hb) (fun h => h) (fun _ _ h => h) (fun _ h => h)
theorem LKm.at_ (h : LKm w S b n vs) (x : ByteArray) : ∃ M A c, VMp Tryd.prog skf 9 w b n M ∧ (M x).getD (.slice none 0 0) = .slice A ((zo_ vs x).getD []).length c ∧ (M x).isSome = (zo_ vs x).isSome ∧ TL w S (.slice A ((zo_ vs x).getD []).length c) ((zo_ vs x).getD []) := by
 obtain ⟨M, hm, h2⟩ := h
 rcases h2 x with ⟨e1, e2⟩ | ⟨l, A, c, e1, e2, h3⟩
 ·exact ⟨M, none, 0, hm, by rw [e2, e1]; rfl, by rw [e2, e1]; rfl, by rw [e1]; exact LR.nil⟩
 ·exact ⟨M, A, c, hm, by rw [e2, e1]; rfl, by rw [e2, e1]; rfl, by rw [e1]; exact h3⟩
theorem LKm.skip {v : Vo} {k : Nat} (h : LKm w S b n (vs.take k)) (hx : vs[k]? = some v) (hl : zo_ (vs.take k) v.name ≠ none) : LKm w S b n (vs.take (k + 1)) := by
 obtain ⟨M, hm, h2⟩ := h
 obtain ⟨h1, e1⟩ := List.getElem?_eq_some_iff.1 hx
 have he : ∀ x, zo_ (vs.take (k + 1)) x = zo_ (vs.take k) x := fun x => by
  rw [List.take_succ_eq_append_getElem h1, e1, q3_];cases hq : zo_ (vs.take k) x with
  | some l => rfl
  | none =>
   dsimp only
   rw [if_neg (fun e => hl (by rw [e]; exact hq))]
 exact ⟨M, hm, fun x => by rw [he]; exact h2 x⟩
theorem LKm.add {v : Vo} {k : Nat} {M : ByteArray → Option Value} {A : Option Addr} {c : Nat} {w1 : World} (hx : vs[k]? = some v) (hl : zo_ (vs.take k) v.name = none) (h2 : ∀ x, (zo_ (vs.take k) x = none ∧ M x = none) ∨ ∃ l A c, zo_ (vs.take k) x = some l ∧ M x = some (.slice A l.length c) ∧ TL w1 S (.slice A l.length c) l)
  (hm : VMp Tryd.prog skf 9 w' b (n + 1) (setM M v.name (.slice A (zY_ v).length c))) (ht : TL w1 S (.slice A (zY_ v).length c) (zY_ v)) (hg : w1.grownBy w' (some b)) (hS : ¬ S b) : LKm w' S b (n + 1) (vs.take (k + 1)) := by
 have hon : Only (· = b) w1 w' := (Only.refl (· = b) w1).grown hg (fun k e => .inl (by injection e with e; exact e.symm))
 have hk : Kept S w1 w' := Kept.of_only hon fun k hk e => hS (by have e' : k = b := e; exact e' ▸ hk)
 obtain ⟨h1, e1⟩ := List.getElem?_eq_some_iff.1 hx
 refine ⟨_, hm, fun x => ?_⟩
 have he : zo_ (vs.take (k + 1)) x = match zo_ (vs.take k) x with | some l => some l | none => if v.name = x then some (zY_ v) else none := by
  rw [List.take_succ_eq_append_getElem h1, e1, q3_];cases zo_ (vs.take k) x <;> rfl
 rw [he]
 unfold setM
 by_cases e : x = v.name
 ·subst e
  rw [hl, if_pos rfl];dsimp only
  rw [if_pos rfl];exact .inr ⟨_, A, c, rfl, rfl, TL.keep ht hk (fun _ h => h)⟩
 ·rw [if_neg e]
  rcases h2 x with ⟨a1, a2⟩ | ⟨l, A', c', a1, a2, a3⟩
  ·rw [a1]
   dsimp only
   rw [if_neg (fun h => e h.symm)];exact .inl ⟨rfl, a2⟩
  ·rw [a1]
   exact .inr ⟨l, A', c', rfl, a2, TL.keep a3 hk (fun _ h => h)⟩
end
structure LkB (vs : List Vo) : Prop where
 len : vs.length ≤ 1000000
 use : ∀ v ∈ vs, UsB v
 name : ∀ v ∈ vs, v.name.size ≤ 1000000
 rest : yx_ vs [] ≤ 1000000
def Qo_ (vs : List Vo) (w : World) (e : Ending) (w' : World) : Prop :=
 ∃ b n, e = .returned (.map (some b)) ∧ LKm w' (fun k => w.heap.size ≤ k ∧ k ≠ b) b n vs ∧ w.heap.size ≤ b ∧ n ≤ vs.length ∧ Bel w w'
set_option maxHeartbeats 16000000 in
theorem qs_ {w : World} {S : Nat → Prop} {γ : Gr} {A0 A1 A2 A3 : Option Addr} {c0 c1 c2 c3 : Nat} (hv : VL w S (.slice A2 γ.vols.length c2) γ.vols) (hB : LkB γ.vols) :
  Calls Tryd.prog 61 #[.agg (grA γ (.slice A0 γ.tags.length c0) (.slice A1 γ.disks.length c1) (.slice A2 γ.vols.length c2) (.slice A3 γ.hist.length c3))] w (Qo_ γ.vols w) := by
 have HV := hD hv
 have HBN := hD hB
 have hlen := hB.len
 have hmm := @run_makeMap Tryd.prog
 have hbx := Blk.new w 31 (grX γ A0 c0 A1 c1 A2 c2 A3 c3)
 have c7 := (hbx.alloc (.map #[] 0)).cell 7
 have HM0 := hD (VMp.made (w.alloc (.cells (grX γ A0 c0 A1 c1 A2 c2 A3 c3) 31)) Tryd.prog skf 9)
 rw [show (w.alloc (.cells (grX γ A0 c0 A1 c1 A2 c2 A3 c3) 31)).heap.size = w.heap.size + 1 by simp] at HM0
 have HBW := hD (show Bel w ((w.alloc (.cells (grX γ A0 c0 A1 c1 A2 c2 A3 c3) 31)).alloc (.map #[] 0)) from ((Below.refl _ _).al _).al _)
 clear hv hB hbx
 unfold grA
 go_enter Tryd.func61, Tryd.ntmps61
 go_wp2_with fail
 clear c7
 generalize ((w.alloc (.cells (grX γ A0 c0 A1 c1 A2 c2 A3 c3) 31)).alloc (.map #[] 0)) = w2 at HM0 HBW ⊢
 go_loopw [12] (fun i wx => ∃ (k n : Nat), k ≤ γ.vols.length ∧ i = .int .i64 (k : Int) ∧ n ≤ k ∧ LKm wx (fun q => w.heap.size ≤ q ∧ q ≠ w.heap.size + 1) (w.heap.size + 1) n (γ.vols.take k) ∧ Bel w wx) (fun i _ => γ.vols.length - (intOf i).toNat)
 case atStart => exact ⟨0, 0, Nat.zero_le _, rfl, Nat.le_refl _, ⟨_, HM0.out, fun x => .inl ⟨rfl, rfl⟩⟩, HBW.out⟩
 case round =>
  obtain ⟨k, n, hk, rfl, hnk, hm, hb⟩ := hrel;have HM := hD hm;have HB := hD hb;clear hm hb;by_cases hlt : k < γ.vols.length
  ·have z0 : (k : Int) < (γ.vols.length : Int) := by omega
   have z1 : (0 : Int) ≤ (k : Int) := by omega
   obtain ⟨ad, v, rfl, hx, _, had, v0, v1, hvc, htl, hsl⟩ := HV.out.at_ hlt;obtain ⟨Bt, bt, rfl⟩ := htl.form;obtain ⟨Bs, bs, rfl⟩ := hsl.form;have had2 : (ad.add (k * 6)).block < w.heap.size := by rw [zl_]; exact had
   obtain ⟨f0, f1, f2, f3, f4, f5⟩ := hvc.keep (Kept.of_below (S := fun _ => True) HB.out) trivial had2;have HX := hD hx;have HSL := hD hsl;have HUB := hD (HBN.out.use v (List.mem_of_getElem? hx));have hnm := HBN.out.name v (List.mem_of_getElem? hx);have HVB := hD (Blk.new wr 53 (voX v Bt bt Bs bs));have HMA := hD (HM.out.up ((Below.refl _ _).al (.cells (voX v Bt bt Bs bs) 53)));have HBA := hD (HB.out.al (.cells (voX v Bt bt Bs bs) 53));clear hx hvc htl hsl;obtain ⟨M, A, c, hM1, hM2, hM3, hM4⟩ := HMA.out.at_ v.name;have HM1 := hD hM1;have HM2 := hD hM2;have HM3 := hD hM3;clear hM1 hM2 hM3 hM4;cases hq : zo_ (γ.vols.take k) v.name with
   | some l =>
    have HQ := hD hq;have HM4 := hD (show (M v.name).isSome = true from by rw [HM3.out, HQ.out]; rfl);clear hq;go_wp2_with (at_lookup; refine zs_ rfl _ _ rfl skey Tryd.underlying105 (yP_ _) HM1.out v.name _ _ true rfl rfl (WideMaps.keyOf_string_mk Tryd.underlying9 (by unfold maxLen; omega)) HM2.out HM4.out ?_)
    go_roundw
    case rel => exact ⟨k + 1, n, by omega, by go_num, by omega, HMA.out.skip HX.out (by rw [HQ.out]; simp), HBA.out⟩
    case measure => simp [intOf]; omega
   | none =>
    have HQ := hD hq;have HM4 := hD (show (M v.name).isSome = false from by rw [HM3.out, HQ.out]; rfl);have g0 := HVB.out.cell 0;have g1 := HVB.out.cell 1;have g2 := HVB.out.cell 2;have g3 := HVB.out.cell 3;have g4 := HVB.out.cell 4;have g5 := HVB.out.cell 5;clear hq;go_upto_region 7 with (at_lookup; refine zs_ rfl _ _ rfl skey Tryd.underlying105 (yP_ _) HM1.out v.name _ _ false rfl rfl (WideMaps.keyOf_string_mk Tryd.underlying9 (by unfold maxLen; omega)) HM2.out HM4.out ?_)
    clear f0 f1 f2 f3 f4 f5 g0 g1 g2 g3 g4 g5;have hvd := HVB.out.drew;have hSd : (wr.alloc (.cells (voX v Bt bt Bs bs) 53)).drew.cell? ⟨wr.heap.size, 0, none⟩ = some (.string v.name) ∧ (wr.alloc (.cells (voX v Bt bt Bs bs) 53)).drew.cell? ⟨wr.heap.size, 1, none⟩ = some (.int .u64 v.id) ∧ (wr.alloc (.cells (voX v Bt bt Bs bs) 53)).drew.cell? ⟨wr.heap.size, 2, none⟩ = some (.bool v.hid) ∧ (wr.alloc (.cells (voX v Bt bt Bs bs) 53)).drew.cell? ⟨wr.heap.size, 3, none⟩ = some (.bool v.ro) ∧ (wr.alloc (.cells (voX v Bt bt Bs bs) 53)).drew.cell? ⟨wr.heap.size, 4, none⟩ = some (.slice Bt v.tags.length bt) ∧ (wr.alloc (.cells (voX v Bt bt Bs bs) 53)).drew.cell? ⟨wr.heap.size, 5, none⟩ = some (.slice Bs v.segs.length bs) := Q1_ hvd;refine wp_region_held_drew (S := fun w' : World => w'.cell? ⟨wr.heap.size, 0, none⟩ = some (.string v.name) ∧ w'.cell? ⟨wr.heap.size, 1, none⟩ = some (.int .u64 v.id) ∧ w'.cell? ⟨wr.heap.size, 2, none⟩ = some (.bool v.hid) ∧ w'.cell? ⟨wr.heap.size, 3, none⟩ = some (.bool v.ro) ∧ w'.cell? ⟨wr.heap.size, 4, none⟩ = some (.slice Bt v.tags.length bt) ∧ w'.cell? ⟨wr.heap.size, 5, none⟩ = some (.slice Bs v.segs.length bs)) (by kernel_rfl) hSd (fun hHeld => ?_);refine tkB [0, 1, 2, 3] ?_
    iterate 4
     refine tk (oi := ⟨some _, _, _, _, _, _⟩) (v := ?_) rfl (by kernel_rfl) (by kernel_rfl) (by kernel_rfl) (fun _ _ _ _ _ h => h) rfl (Or.inl ⟨by rfl, ?_⟩) (by assumption) ?_;rotate_left 1
     ·(intro w hSw; (try dsimp only at hSw); go_simp; try with_reducible rfl)
     simp only [Act.put, tS]
    refine tkE ?_;refine wpAnyH_all (rs := [4]) (by kernel_rfl) (by simp) (fun i hi => ?_);obtain rfl : i = 4 := by simpa using hi
    refine wpOp_step (o := ⟨some 29, _, _, _, _, _⟩) rfl (fun K' hK' => ?_);go_simp;go_at_call 99
    refine (XE_ (SL.up HSL.out (HBA.out.next (Below.refl _ _).drew)) HUB.out).mono ?_;rintro e w5 ⟨A5, c5, rfl, ht5, hb5⟩;have hv5 : w5.cell? ⟨wr.heap.size, 0, none⟩ = some (.string v.name) ∧ w5.cell? ⟨wr.heap.size, 1, none⟩ = some (.int .u64 v.id) ∧ w5.cell? ⟨wr.heap.size, 2, none⟩ = some (.bool v.hid) ∧ w5.cell? ⟨wr.heap.size, 3, none⟩ = some (.bool v.ro) ∧ w5.cell? ⟨wr.heap.size, 4, none⟩ = some (.slice Bt v.tags.length bt) ∧ w5.cell? ⟨wr.heap.size, 5, none⟩ = some (.slice Bs v.segs.length bs) := Q1_ (hvd.below hb5 hvd.lt);have hbb5 := hb5;have hne5 : wr.heap.size ≠ w.heap.size + 1 := fun e => by have h1 := HM.out.lt; omega
    have HB5 := hD ((HBA.out.next (Below.refl _ _).drew).next hb5);obtain ⟨M5, hM5, hQ5⟩ := (HMA.out.up (Below.refl _ _).drew).up hb5;have HM5 := hD hM5;have HQ5 := hD hQ5;have hsz5 := (HBA.out.next (Below.refl _ _).drew).size;have HT5 := hD (TL.keep ht5 Kept.same (S' := fun q => w.heap.size ≤ q ∧ q ≠ w.heap.size + 1) (fun q hq => ⟨by omega, by have h1 := HM.out.lt; have h2 : wr.heap.size + 1 = (wr.alloc (.cells (voX v Bt bt Bs bs) 53)).heap.size := (by simp); have h3 : (wr.alloc (.cells (voX v Bt bt Bs bs) 53)).drew.heap.size = (wr.alloc (.cells (voX v Bt bt Bs bs) 53)).heap.size := rfl; omega⟩));clear ht5 hb5 hM5 hQ5 hvd hSd hHeld;refine hK' _ _ ⟨hv5, ?_⟩;try simp only [Act.put, upd, Nat.reduceAdd, Nat.reduceBEq, tS]
    refine wpAnyH_all (rs := [5]) (by kernel_rfl) (by simp) (fun i hi => ?_);obtain rfl : i = 5 := by simpa using hi
    refine wpOp_step (o := ⟨none, _, _, _, _, _⟩) rfl (fun K2 hK2 => ?_);refine jR_ (o := ⟨none, _, _, _, _, _⟩) rfl _ _ _ rfl skey Tryd.underlying105 xM_ xL_ HM5.out (by unfold maxLen; omega) v.name _ _ rfl rfl rfl (WideMaps.keyOf_string_mk Tryd.underlying9 (by unfold maxLen; omega)) ?_;intro w6 hm6 hg6;have HL6 := hD (LKm.add HX.out HQ.out HQ5.out hm6 HT5.out hg6 (fun h => h.2 rfl));have hon6 : Only (· = w.heap.size + 1) w5 w6 := (Only.refl (· = w.heap.size + 1) w5).grown hg6 (fun q e => .inl (by injection e with e; exact e.symm));have HB6 := hD (HB5.out.trans (hon6.below HB5.out.size (fun q e => by have e' : q = w.heap.size + 1 := e; omega)));refine hK2 _ _ ⟨Q1_ ((HVB.out.drew.below hbb5 HVB.out.drew.lt).only hon6 (fun e => hne5 e)), ?_⟩;refine wpAnyH_done (by kernel_rfl) ?_ _;go_wp2_with fail
    go_roundw
    case rel => exact ⟨k + 1, n + 1, by omega, by go_num, by omega, HL6.out, HB6.out⟩
    case measure => simp [intOf]; omega
  ·obtain rfl : k = γ.vols.length := by omega
   have HT := hD (show γ.vols.take γ.vols.length = γ.vols from List.take_length);go_wp2_with fail
   go_ret
   exact ⟨_, n, rfl, HT.out ▸ HM.out, by omega, hnk, HB.out⟩
end Go.Proofs.YtdkcfgahdcpkkaaDoor
