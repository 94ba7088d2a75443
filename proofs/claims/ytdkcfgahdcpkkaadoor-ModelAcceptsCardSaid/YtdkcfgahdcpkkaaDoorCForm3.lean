/- The form of a segment (printed by genForm3.py). -/
import Derived.Test.YtdkcfgahdcpkkaaDoorCForm2
set_option linter.all false
namespace Go.Proofs.YtdkcfgahdcpkkaaDoor
open Go.RowKit
set_option maxRecDepth 100000
structure FX (w wx : World) (SC XC : Array Value) : Prop where
 below : Bel w wx
 seg : Blk wx w.heap.size 58 SC
 sh : Blk wx (w.heap.size + 1) 114 XC
theorem FX.up {w wx wy : World} {SC XC : Array Value} (h : FX w wx SC XC) (hb : Bel wx wy) : FX w wy SC XC :=
 ⟨h.below.next hb, h.seg.below hb h.seg.lt, h.sh.below hb h.sh.lt⟩
theorem FX.made (w : World) (SC XC : Array Value) : FX w ((w.alloc (.cells SC 58)).alloc (.cells XC 114)).drew SC XC := by
 have hby := Blk.new (w.alloc (.cells SC 58)) 114 XC
 rw [show (w.alloc (.cells SC 58)).heap.size = w.heap.size + 1 by simp] at hby
 have hbx := (Blk.new w 58 SC).alloc (.cells XC 114)
 exact ⟨(((Below.refl _ _).al _).al _).drew, hbx.below (Below.refl _ _).drew hbx.lt, hby.below (Below.refl _ _).drew hby.lt⟩
theorem zT_ {b : Bool} {p : Prop} (h : b = true ↔ p) (hn : p → False) : b = false := by
 cases b with
 | false => rfl
 | true => exact absurd (h.1 rfl) hn
theorem q6_ {extent start : Int} {s : Sg} {x : Sh} (h : zp_ s.kind = some x) : zm_ extent s start = true ↔
  (s.start = start ∧ 1 ≤ s.len ∧ s.len ≤ 32768 ∧ x.least ≤ (s.areas.length : Int) ∧ (s.areas.length : Int) ≤ x.greatest ∧ s.areas.all (areaOk x) = true ∧ chunkedB extent s x = true ∧ (x.log = true ∨ s.log = ⟨#[]⟩) ∧ (x.pool = true ∨ s.pool = ⟨#[]⟩) ∧ markedB s x = true ∧ withinI s.dev 1 65535 x.pool = true ∧ withinI s.mode 1 2 x.mode = true ∧ withinI s.done 0 s.len x.done = true ∧ (¬ s.kind = 2 ∨ s.len.tmod s.areas.length = 0) ∧ (¬ s.kind = 4 ∨ s.len.tmod ((s.areas.length : Int) - 1) = 0)) := by
 simp only [zm_, h, Bool.and_eq_true, Bool.or_eq_true, Bool.not_eq_true', decide_eq_true_eq, decide_eq_false_iff_not, and_assoc]
theorem YW_ {b : Bool} {t : ByteArray} : (b = true ∨ t = ⟨#[]⟩) ↔ (b || t.toList.isEmpty) = true := by
 rw [Bool.or_eq_true]
 constructor
 ·rintro (h | h)
  ·exact Or.inl h
  ·exact Or.inr (by rw [h]; simp)
 ·rintro (h | h)
  ·exact Or.inl h
  ·exact Or.inr (zH_ h)
theorem kP_ {a b : Int} (h0 : 1 ≤ a) (h1 : a ≤ 32768) (_h2 : 1 ≤ b) : -9223372036854775808 ≤ a.tmod b ∧ a.tmod b ≤ 9223372036854775807 := by
 have h3 : 0 ≤ a.tmod b := Int.tmod_nonneg b (by omega)
 have h4 : a.tmod b ≤ a := by
  rw [Int.tmod_eq_emod_of_nonneg (by omega), Int.emod_def];have := Int.mul_nonneg (show 0 ≤ b by omega) (Int.ediv_nonneg (show 0 ≤ a by omega) (show 0 ≤ b by omega));omega
 omega
theorem Zv_ {k : Int} {x : Sh} (h : zp_ k = some x) : x.greatest ≤ 6 ∧ (k = 2 → 2 ≤ x.least) ∧ (k = 4 → 3 ≤ x.least) := by
 unfold zp_ at h
 repeat (split at h; · (injection h with h; subst h; refine ⟨by decide, fun h2 => ?_, fun h2 => ?_⟩ <;> first | (simp; done) | (exfalso; omega)))
 cases h
set_option maxHeartbeats 16000000 in
theorem ZU_ {w : World} {gc : Nat} {g : Gr} {At Ad Av Ah : Option Addr} {ct cd cv ch : Nat} {vm : Value} (h : Ck w gc g At Ad Av Ah ct cd cv ch vm) (hm : SM w vm) (he : 1 ≤ g.extent ∧ g.extent ≤ 1024) (s : Sg) (start : Int) {S : Nat → Prop} {A0 A1 : Option Addr} {c0 c1 : Nat} (ha : AL w S (.slice A0 s.areas.length c0) s.areas) (hs : IL w S (.slice A1 s.stale.length c1) s.stale) (hl2 : s.stale.length ≤ 4611686018427387904) :
  Calls Tryd.prog 76 #[.pointer (some ⟨gc, 0, none⟩), .agg (sgA s (.slice A0 s.areas.length c0) (.slice A1 s.stale.length c1)), .int .i64 start] w (Ret (.bool (zm_ g.extent s start)) w) := by
 obtain ⟨x, hx⟩ : ∃ x, (zp_ s.kind).getD shZ = x := ⟨_, rfl⟩
 obtain ⟨is, his⟩ : ∃ is, (zp_ s.kind).isSome = is := ⟨_, rfl⟩
 obtain ⟨r, hr⟩ : ∃ r, zm_ g.extent s start = r := ⟨_, rfl⟩
 rw [hr]
 have hb1 : Bel w (w.alloc (.cells (sgX s A0 c0 A1 c1) 58)) := (Below.refl _ _).al _
 have e9 := (nine (h.up hb1).blk).2.2.2.2.2.2.2.2.2
 have e9' := (nine (h.up (hb1.al (.cells #[.int .i64 0, .int .i64 0, .bool false, .bool false, .int .i64 0, .bool false, .bool false, .bool false, .bool false, .bool false] 114))).blk).2.2.2.2.2.2.2.2.2
 have HM2 := hD (fun w' (hb : Bel w w') => show (Instr.lookup 82 vm (.int .i64 s.kind) true).run Tryd.prog w' = .ok (.tuple #[shV x, .bool is]) w' from by
  have := (hm.up hb).look s.kind;rw [hx, his] at this;exact this)
 have hm1 := HM2.out (w.alloc (.cells (sgX s A0 c0 A1 c1) 58)).drew hb1.drew
 have hm2 := HM2.out ((w.alloc (.cells (sgX s A0 c0 A1 c1) 58)).alloc (.cells #[.int .i64 0, .int .i64 0, .bool false, .bool false, .int .i64 0, .bool false, .bool false, .bool false, .bool false, .bool false] 114)).drew (hb1.al (.cells #[.int .i64 0, .int .i64 0, .bool false, .bool false, .int .i64 0, .bool false, .bool false, .bool false, .bool false, .bool false] 114)).drew
 have H := hD h
 have HA := hD ha
 have HS := hD hs
 have HX := hD hx
 have HI := hD his
 have HRR := hD hr
 clear h hm ha hs hb1 HM2 hx his hr
 unfold sgA
 unfold shV at hm1 hm2
 go_enter Tryd.func76, Tryd.ntmps76
 go_wp2_with fail
 go_upto_region 1 with fail
 go_cut [7, 8] (fun p v wx => p = .pointer (some ⟨w.heap.size + 1, 0, none⟩) ∧ v = .bool is ∧ FX w wx (sgX s A0 c0 A1 c1) #[.int .i64 x.least, .int .i64 x.greatest, .bool x.volumes, .bool x.several, .int .i64 x.chunk, .bool x.stale, .bool x.pool, .bool x.log, .bool x.mode, .bool x.done])
 case first =>
  go_region
  all_goals
   go_wp2_with fail
   go_meet
   case rel => exact ⟨rfl, rfl, FX.made w (sgX s A0 c0 A1 c1) #[.int .i64 x.least, .int .i64 x.greatest, .bool x.volumes, .bool x.several, .int .i64 x.chunk, .bool x.stale, .bool x.pool, .bool x.log, .bool x.mode, .bool x.done]⟩
 case rest =>
 obtain ⟨rfl, rfl, hf⟩ := hcut
 have HF := hD hf
 clear hf hm1 hm2 e9 e9'
 obtain ⟨f0, f1, f2, f3, f4, f5, f6, f7, f8, f9, f10⟩ := elev HF.out.seg
 obtain ⟨t0, t1, t2, t3, t4, t5, t6, t7, t8, t9⟩ := nine HF.out.sh
 cases is with
 | false =>
  have HE := hD (show r = false by
   rw [← HRR.out];unfold zm_;rw [show zp_ s.kind = none from by have := HI.out; cases h : zp_ s.kind with | none => rfl | some y => rw [h] at this; cases this])
  go_wp2_with fail
  go_ret
  exact ⟨by rw [HE.out]; rfl, HF.out.below⟩
 | true =>
 have HXS := hD (show zp_ s.kind = some x by have h1 := HI.out; have h2 := HX.out; cases h : zp_ s.kind with | none => rw [h] at h1; cases h1 | some y => rw [h] at h2; exact congrArg some h2)
 have hR0 := q6_ (extent := g.extent) (start := start) HXS.out
 rw [HRR.out] at hR0
 have HR := hD hR0
 clear hR0
 have HZ := hD (Zv_ HXS.out)
 by_cases k1 : s.start = start
 case neg =>
  have HE := hD (show r = false from zT_ HR.out (fun h => k1 h.1));go_wp2_with fail
  go_ret
  exact ⟨by rw [HE.out]; rfl, HF.out.below⟩
 subst k1
 by_cases k2 : 1 ≤ s.len
 case neg =>
  have HE := hD (show r = false from zT_ HR.out (fun h => k2 h.2.1));have k2' : s.len < 1 := by omega
  clear k2;go_wp2_with fail
  go_ret
  exact ⟨by rw [HE.out]; rfl, HF.out.below⟩
 have k2' : ¬ s.len < 1 := by omega
 by_cases k3 : s.len ≤ 32768
 case neg =>
  have HE := hD (show r = false from zT_ HR.out (fun h => k3 h.2.2.1));have k3' : 32768 < s.len := by omega
  clear k3;go_wp2_with fail
  go_ret
  exact ⟨by rw [HE.out]; rfl, HF.out.below⟩
 have k3' : ¬ 32768 < s.len := by omega
 by_cases k4 : x.least ≤ (s.areas.length : Int)
 case neg =>
  have HE := hD (show r = false from zT_ HR.out (fun h => k4 h.2.2.2.1));have k4' : (s.areas.length : Int) < x.least := by omega
  clear k4;go_wp2_with fail
  go_ret
  exact ⟨by rw [HE.out]; rfl, HF.out.below⟩
 have k4' : ¬ (s.areas.length : Int) < x.least := by omega
 by_cases k5 : (s.areas.length : Int) ≤ x.greatest
 case neg =>
  have HE := hD (show r = false from zT_ HR.out (fun h => k5 h.2.2.2.2.1));have k5' : x.greatest < (s.areas.length : Int) := by omega
  clear k5;go_wp2_with fail
  go_ret
  exact ⟨by rw [HE.out]; rfl, HF.out.below⟩
 have k5' : ¬ x.greatest < (s.areas.length : Int) := by omega
 have hlen6 : s.areas.length ≤ 6 := by have := HZ.out.1; omega
 go_wp2_with fail
 clear f0 f1 f2 f3 f4 f5 f6 f7 f8 f9 f10 t0 t1 t2 t3 t4 t5 t6 t7 t8 t9
 go_loopw [59] (fun i wx => ∃ k : Nat, k ≤ s.areas.length ∧ i = .int .i64 (k : Int) ∧ (∀ j a, j < k → s.areas[j]? = some a → areaOk x a = true) ∧ FX w wx (sgX s A0 c0 A1 c1) #[.int .i64 x.least, .int .i64 x.greatest, .bool x.volumes, .bool x.several, .int .i64 x.chunk, .bool x.stale, .bool x.pool, .bool x.log, .bool x.mode, .bool x.done]) (fun i _ => s.areas.length - (intOf i).toNat)
 case atStart => exact ⟨0, Nat.zero_le _, rfl, fun j t h => absurd h (Nat.not_lt_zero _), HF.out⟩
 case round =>
  clear HF;obtain ⟨k, hk, rfl, hall, hf⟩ := hrel;have HAL := hD hall;have HF := hD hf;clear hall hf;by_cases hlt : k < s.areas.length
  ·have z0 : (k : Int) < (s.areas.length : Int) := by omega
   have z1 : (0 : Int) ≤ (k : Int) := by omega
   obtain ⟨ad, a, rfl, hx, _, had, hc⟩ := (AL.up HA.out HF.out.below).at_ hlt;obtain ⟨a0, a1, a2⟩ := hc;have HXA := hD hx;obtain ⟨av, hav⟩ : ∃ av, a.vol = av := ⟨_, rfl⟩;obtain ⟨xv, hxv⟩ : ∃ xv, x.volumes = xv := ⟨_, rfl⟩;have HOK := hD (show areaOk x a = (decide (av = xv) && (!av || decide (a.start = 0))) by unfold areaOk; rw [hav, hxv]);rw [hav] at a0;have HFA := hD (HF.out.up ((Below.refl _ _).al (.cells #[.bool av, .string a.on, .int .i64 a.start] 60)));obtain ⟨f0, f1, f2, f3, f4, f5, f6, f7, f8, f9, f10⟩ := elev HFA.out.seg;obtain ⟨t0, t1, t2, t3, t4, t5, t6, t7, t8, t9⟩ := nine HFA.out.sh;clear hx f0 f1 f2 f3 f4 f5 f6 f7 f8 f9 f10 t0 t1 t3 t4 t5 t6 t7 t8 t9;rw [hxv] at t2;clear hav hxv
   have HBAD := hD (show areaOk x a = false → r = false from fun hb => zT_ HR.out (fun h => by
    have := List.all_eq_true.1 h.2.2.2.2.2.1 a (List.mem_of_getElem? HXA.out);rw [hb] at this;cases this))
   have HNX := hD (show areaOk x a = true → ∀ j y, j < k + 1 → s.areas[j]? = some y → areaOk x y = true from fun hb => zk_ (P := fun _ y => areaOk x y = true) HAL.out HXA.out hb);cases av <;> cases xv
   case false.true | true.false =>
    have HE := hD (HBAD.out (by rw [HOK.out]; rfl));go_wp2_with fail
    go_ret
    exact ⟨by rw [HE.out]; rfl, HFA.out.below⟩
   case false.false =>
    have HN := hD (HNX.out (by rw [HOK.out]; rfl));go_wp2_with fail
    go_roundw
    case rel => exact ⟨k + 1, by omega, by go_num, HN.out, HFA.out⟩
    case measure => simp [intOf]; omega
   case true.true =>
    by_cases hz : a.start = 0
    ·have HN := hD (HNX.out (by rw [HOK.out, decide_eq_true hz]; rfl))
     have q : (a.start == 0) = true := by rw [hz]; rfl
     clear hz;go_wp2_with fail
     go_roundw
     case rel => exact ⟨k + 1, by omega, by go_num, HN.out, HFA.out⟩
     case measure => simp [intOf]; omega
    ·have HE := hD (HBAD.out (by rw [HOK.out, decide_eq_false hz]; rfl))
     have q : (a.start == 0) = false := beq_eq_false_iff_ne.2 hz;clear hz;go_wp2_with fail
     go_ret
     exact ⟨by rw [HE.out]; rfl, HFA.out.below⟩
  ·obtain rfl : k = s.areas.length := by omega
   have K6 := hD (show s.areas.all (areaOk x) = true from List.all_eq_true.2 (fun y hy => by
    obtain ⟨j, hj⟩ := List.getElem?_of_mem hy;exact HAL.out j y (List.getElem?_eq_some_iff.1 hj).1 hj))
   clear HAL;obtain ⟨f0, f1, f2, f3, f4, f5, f6, f7, f8, f9, f10⟩ := elev HF.out.seg;obtain ⟨t0, t1, t2, t3, t4, t5, t6, t7, t8, t9⟩ := nine HF.out.sh;obtain ⟨b7, k7⟩ : ∃ b7, chunkedB g.extent s x = b7 := ⟨_, rfl⟩;have HCH := hD (kG_ (A0 := A0) (A1 := A1) (c0 := c0) (c1 := c1) (H.out.up HF.out.below) he s x);rw [k7] at HCH;unfold sgA shV at HCH;go_wp2_with fail
   refine HCH.out.mono ?_;rintro e w5 ⟨rfl, hb5⟩;have HF5 := hD (HF.out.up hb5);clear f0 f1 f2 f3 f4 f5 f6 f7 f8 f9 f10 t0 t1 t2 t3 t4 t5 t6 t7 t8 t9 hb5 HCH;obtain ⟨f0, f1, f2, f3, f4, f5, f6, f7, f8, f9, f10⟩ := elev HF5.out.seg;obtain ⟨t0, t1, t2, t3, t4, t5, t6, t7, t8, t9⟩ := nine HF5.out.sh;have HK7 := hD k7;clear k7;cases b7 with
   | false =>
    have HE := hD (show r = false from zT_ HR.out (fun h => by have := h.2.2.2.2.2.2.1; rw [HK7.out] at this; cases this));go_wp2_with fail
    go_ret
    exact ⟨by rw [HE.out]; rfl, HF5.out.below⟩
   | true =>
   clear HF;obtain ⟨b10, k10⟩ : ∃ b10, markedB s x = b10 := ⟨_, rfl⟩;have HC10 := hD (ZK_ (w := w5) (A0 := A0) (A1 := A1) (c0 := c0) (c1 := c1) s x (IL.up HS.out HF5.out.below) hlen6 hl2);rw [k10] at HC10;unfold sgA shV at HC10;have HK10 := hD k10;clear k10;go_upto_if 78 with fail
   go_cut [78] (fun v wx => ∃ ok : Bool, v = .bool (!ok) ∧ (ok = true ↔ (x.log = true ∨ s.log = ⟨#[]⟩) ∧ (x.pool = true ∨ s.pool = ⟨#[]⟩) ∧ markedB s x = true) ∧ FX w wx (sgX s A0 c0 A1 c1) #[.int .i64 x.least, .int .i64 x.greatest, .bool x.volumes, .bool x.several, .int .i64 x.chunk, .bool x.stale, .bool x.pool, .bool x.log, .bool x.mode, .bool x.done])
   case first =>
    obtain ⟨xl, hxl⟩ : ∃ xl, x.log = xl := ⟨_, rfl⟩;obtain ⟨em, hem⟩ : ∃ em, s.log.toList.isEmpty = em := ⟨_, rfl⟩;obtain ⟨xp, hxp⟩ : ∃ xp, x.pool = xp := ⟨_, rfl⟩;obtain ⟨ep, hep⟩ : ∃ ep, s.pool.toList.isEmpty = ep := ⟨_, rfl⟩;have H8 := hD (show (x.log = true ∨ s.log = ⟨#[]⟩) ↔ (xl || em) = true by rw [hxl, ← hem]; exact YW_);have H9 := hD (show (x.pool = true ∨ s.pool = ⟨#[]⟩) ↔ (xp || ep) = true by rw [hxp, ← hep]; exact YW_);rw [hxl] at t7 HC10;rw [hxp] at t6 HC10;clear hxl hxp;cases xl with
    | true =>
     clear hem;cases xp with
     | true =>
      clear hep;go_wp2_with fail
      refine HC10.out.mono ?_;rintro e w6 ⟨rfl, hb6⟩;have HF6 := hD (HF5.out.up hb6);clear f0 f1 f2 f3 f4 f5 f6 f7 f8 f9 f10 t0 t1 t2 t3 t4 t5 t6 t7 t8 t9 hb6 HC10;go_wp2_with fail
      go_meet
      case rel => exact ⟨b10, rfl, ⟨fun h => ⟨H8.out.2 (Bool.true_or _), H9.out.2 (Bool.true_or _), HK10.out.trans h⟩, fun h => HK10.out.symm.trans h.2.2⟩, HF6.out⟩
     | false =>
      cases ep with
      | true =>
       go_wp2_with fail
       refine HC10.out.mono ?_;rintro e w6 ⟨rfl, hb6⟩;have HF6 := hD (HF5.out.up hb6);clear f0 f1 f2 f3 f4 f5 f6 f7 f8 f9 f10 t0 t1 t2 t3 t4 t5 t6 t7 t8 t9 hb6 HC10;go_wp2_with fail
       go_meet
       case rel => exact ⟨b10, rfl, ⟨fun h => ⟨H8.out.2 (Bool.true_or _), H9.out.2 rfl, HK10.out.trans h⟩, fun h => HK10.out.symm.trans h.2.2⟩, HF6.out⟩
      | false =>
       go_wp2_with fail
       go_meet
       case rel => exact ⟨false, rfl, ⟨fun h => absurd h (by decide), fun h => by have := H9.out.1 h.2.1; cases this⟩, HF5.out⟩
    | false =>
     cases em with
     | true =>
      cases xp with
      | true =>
       clear hep;go_wp2_with fail
       refine HC10.out.mono ?_;rintro e w6 ⟨rfl, hb6⟩;have HF6 := hD (HF5.out.up hb6);clear f0 f1 f2 f3 f4 f5 f6 f7 f8 f9 f10 t0 t1 t2 t3 t4 t5 t6 t7 t8 t9 hb6 HC10;go_wp2_with fail
       go_meet
       case rel => exact ⟨b10, rfl, ⟨fun h => ⟨H8.out.2 rfl, H9.out.2 (Bool.true_or _), HK10.out.trans h⟩, fun h => HK10.out.symm.trans h.2.2⟩, HF6.out⟩
      | false =>
       cases ep with
       | true =>
        go_wp2_with fail
        refine HC10.out.mono ?_;rintro e w6 ⟨rfl, hb6⟩;have HF6 := hD (HF5.out.up hb6);clear f0 f1 f2 f3 f4 f5 f6 f7 f8 f9 f10 t0 t1 t2 t3 t4 t5 t6 t7 t8 t9 hb6 HC10;go_wp2_with fail
        go_meet
        case rel => exact ⟨b10, rfl, ⟨fun h => ⟨H8.out.2 rfl, H9.out.2 rfl, HK10.out.trans h⟩, fun h => HK10.out.symm.trans h.2.2⟩, HF6.out⟩
       | false =>
        go_wp2_with fail
        go_meet
        case rel => exact ⟨false, rfl, ⟨fun h => absurd h (by decide), fun h => by have := H9.out.1 h.2.1; cases this⟩, HF5.out⟩
     | false =>
      go_wp2_with fail
      go_meet
      case rel => exact ⟨false, rfl, ⟨fun h => absurd h (by decide), fun h => by have := H8.out.1 h.1; cases this⟩, HF5.out⟩
   case rest =>
   obtain ⟨ok, rfl, hok, hf6⟩ := hcut;have HF6 := hD hf6;have HOK := hD hok;clear hf6 hok f0 f1 f2 f3 f4 f5 f6 f7 f8 f9 f10 t0 t1 t2 t3 t4 t5 t6 t7 t8 t9 HC10 HK10 HF5;obtain ⟨f0, f1, f2, f3, f4, f5, f6, f7, f8, f9, f10⟩ := elev HF6.out.seg;obtain ⟨t0, t1, t2, t3, t4, t5, t6, t7, t8, t9⟩ := nine HF6.out.sh;cases ok with
   | false =>
    have HE := hD (show r = false from zT_ HR.out (fun h => by
     have := HOK.out.2 ⟨h.2.2.2.2.2.2.2.1, h.2.2.2.2.2.2.2.2.1, h.2.2.2.2.2.2.2.2.2.1⟩;cases this))
    go_wp2_with fail
    go_ret
    exact ⟨by rw [HE.out]; rfl, HF6.out.below⟩
   | true =>
   obtain ⟨b11, k11⟩ : ∃ b11, withinI s.dev 1 65535 x.pool = b11 := ⟨_, rfl⟩;have HC11 := hD (fun w' : World => xG_ w' s.dev 1 65535 x.pool);rw [k11] at HC11;have HK11 := hD k11;clear k11;go_wp2_with fail
   refine (HC11.out _).mono ?_;rintro e w7 ⟨rfl, hb11⟩;have HF7 := hD (HF6.out.up hb11);clear f0 f1 f2 f3 f4 f5 f6 f7 f8 f9 f10 t0 t1 t2 t3 t4 t5 t6 t7 t8 t9 hb11 HC11;obtain ⟨f0, f1, f2, f3, f4, f5, f6, f7, f8, f9, f10⟩ := elev HF7.out.seg;obtain ⟨t0, t1, t2, t3, t4, t5, t6, t7, t8, t9⟩ := nine HF7.out.sh;clear HF6;cases b11 with
   | false =>
    have HE := hD (show r = false from zT_ HR.out (fun h => by have := h.2.2.2.2.2.2.2.2.2.2.1; rw [HK11.out] at this; cases this));go_wp2_with fail
    go_ret
    exact ⟨by rw [HE.out]; rfl, HF7.out.below⟩
   | true =>
   obtain ⟨b12, k12⟩ : ∃ b12, withinI s.mode 1 2 x.mode = b12 := ⟨_, rfl⟩;have HC12 := hD (fun w' : World => xG_ w' s.mode 1 2 x.mode);rw [k12] at HC12;have HK12 := hD k12;clear k12;go_wp2_with fail
   refine (HC12.out _).mono ?_;rintro e w8 ⟨rfl, hb12⟩;have HF8 := hD (HF7.out.up hb12);clear f0 f1 f2 f3 f4 f5 f6 f7 f8 f9 f10 t0 t1 t2 t3 t4 t5 t6 t7 t8 t9 hb12 HC12;obtain ⟨f0, f1, f2, f3, f4, f5, f6, f7, f8, f9, f10⟩ := elev HF8.out.seg;obtain ⟨t0, t1, t2, t3, t4, t5, t6, t7, t8, t9⟩ := nine HF8.out.sh;clear HF7;cases b12 with
   | false =>
    have HE := hD (show r = false from zT_ HR.out (fun h => by have := h.2.2.2.2.2.2.2.2.2.2.2.1; rw [HK12.out] at this; cases this));go_wp2_with fail
    go_ret
    exact ⟨by rw [HE.out]; rfl, HF8.out.below⟩
   | true =>
   obtain ⟨b13, k13⟩ : ∃ b13, withinI s.done 0 s.len x.done = b13 := ⟨_, rfl⟩;have HC13 := hD (fun w' : World => xG_ w' s.done 0 s.len x.done);rw [k13] at HC13;have HK13 := hD k13;clear k13;go_wp2_with fail
   refine (HC13.out _).mono ?_;rintro e w9 ⟨rfl, hb13⟩;have HF9 := hD (HF8.out.up hb13);clear f0 f1 f2 f3 f4 f5 f6 f7 f8 f9 f10 t0 t1 t2 t3 t4 t5 t6 t7 t8 t9 hb13 HC13;obtain ⟨f0, f1, f2, f3, f4, f5, f6, f7, f8, f9, f10⟩ := elev HF9.out.seg;obtain ⟨t0, t1, t2, t3, t4, t5, t6, t7, t8, t9⟩ := nine HF9.out.sh;clear HF8;cases b13 with
   | false =>
    have HE := hD (show r = false from zT_ HR.out (fun h => by have := h.2.2.2.2.2.2.2.2.2.2.2.2.1; rw [HK13.out] at this; cases this));go_wp2_with fail
    go_ret
    exact ⟨by rw [HE.out]; rfl, HF9.out.below⟩
   | true =>
   have HALL := hD (show r = true ↔ ((¬ s.kind = 2 ∨ s.len.tmod s.areas.length = 0) ∧ (¬ s.kind = 4 ∨ s.len.tmod ((s.areas.length : Int) - 1) = 0)) from HR.out.trans ⟨fun h => h.2.2.2.2.2.2.2.2.2.2.2.2.2, fun h => ⟨by trivial, by omega, by omega, by omega, by omega, K6.out, HK7.out, (HOK.out.1 (by trivial)).1, (HOK.out.1 (by trivial)).2.1, (HOK.out.1 (by trivial)).2.2, HK11.out, HK12.out, HK13.out, h.1, h.2⟩⟩);clear K6 HK7 HOK HK11 HK12 HK13 HR;have Z2 := HZ.out.2.1;have Z4 := HZ.out.2.2;by_cases h2 : s.kind = 2
   ·have hlen := Z2 h2
    have hne : ¬ (s.areas.length : Int) = 0 := by omega
    have hnn : ¬ s.areas.length = 0 := by omega
    have wm : IntKind.i64.wrap (s.len.tmod (s.areas.length : Int)) = s.len.tmod (s.areas.length : Int) := IntWalk.i64_in _ (kP_ (by omega) (by omega) (by omega));clear Z2 Z4;by_cases ht : s.len.tmod (s.areas.length : Int) = 0
    ·have HE := hD (show r = true from HALL.out.2 ⟨Or.inr ht, Or.inl (by omega)⟩)
     go_wp2_with fail
     go_ret
     exact ⟨by rw [HE.out]; rfl, HF9.out.below⟩
    ·have HE := hD (show r = false from zT_ HALL.out (fun h => by rcases h.1 with h | h; exact h h2; exact ht h))
     have q : (s.len % (s.areas.length : Int) != 0) = true := by rw [← Int.tmod_eq_emod_of_nonneg (by omega)]; exact bne_iff_ne.2 ht
     go_wp2_with fail
     go_ret
     exact ⟨by rw [HE.out]; rfl, HF9.out.below⟩
   by_cases h4 : s.kind = 4
   ·have hlen := Z4 h4
    have hne : ¬ (s.areas.length : Int) - 1 = 0 := by omega
    have hnn : ¬ s.areas.length = 1 := by omega
    have wm : IntKind.i64.wrap (s.len.tmod ((s.areas.length : Int) - 1)) = s.len.tmod ((s.areas.length : Int) - 1) := IntWalk.i64_in _ (kP_ (by omega) (by omega) (by omega));clear Z2 Z4;by_cases ht : s.len.tmod ((s.areas.length : Int) - 1) = 0
    ·have HE := hD (show r = true from HALL.out.2 ⟨Or.inl (by omega), Or.inr ht⟩)
     go_wp2_with fail
     go_ret
     exact ⟨by rw [HE.out]; rfl, HF9.out.below⟩
    ·have HE := hD (show r = false from zT_ HALL.out (fun h => by rcases h.2 with h | h; exact h h4; exact ht h))
     have q : (s.len % ((s.areas.length : Int) - 1) != 0) = true := by rw [← Int.tmod_eq_emod_of_nonneg (by omega)]; exact bne_iff_ne.2 ht
     go_wp2_with fail
     go_ret
     exact ⟨by rw [HE.out]; rfl, HF9.out.below⟩
   have HE := hD (show r = true from HALL.out.2 ⟨Or.inl h2, Or.inl h4⟩);clear Z2 Z4;go_wp2_with fail
   go_ret
   exact ⟨by rw [HE.out]; rfl, HF9.out.below⟩
end Go.Proofs.YtdkcfgahdcpkkaaDoor
