/- rule 5 (printed by genRefs.py). -/
import Derived.Test.YtdkcfgahdcpkkaaDoorBNamed
import Derived.Test.YtdkcfgahdcpkkaaDoorBEach
import Derived.Test.YtdkcfgahdcpkkaaDoorBCalm
import Derived.Deep.QuietTactic
import Derived.BigQuiet
set_option linter.all false
set_option linter.unusedVariables false
set_option linter.unusedSimpArgs false
namespace Go.Proofs.YtdkcfgahdcpkkaaDoor
open Go.RowKit
set_option maxRecDepth 100000
/-- a segment that rule 4 has let through, as far as rule 5 needs it -/
structure FitS (s : Sg) : Prop where
  len : 1 ≤ s.len ∧ s.len ≤ 32768
  areas : s.areas.length ≤ 1000000
  h5 : s.kind = 5 → s.areas.length = 2
  h7 : s.kind = 7 → s.areas.length = 3
theorem kind_getD (o : Option Vo) : kindV (o.getD zVo) = kindO o := by cases o <;> rfl
theorem any_bad {α : Type} {p : α → Bool} {l : List α} {k : Nat} {x : α} (h : l[k]? = some x) (hp : p x = true) : l.any p = true := by
  rw [List.any_eq_true]
  exact ⟨x, List.mem_of_getElem? h, hp⟩
theorem any_good {α : Type} {p : α → Bool} {l : List α} (h : ∀ j x, j < l.length → l[j]? = some x → p x = false) : l.any p = false := by
  rw [List.any_eq_false]
  intro x hx
  obtain ⟨j, hj⟩ := List.getElem?_of_mem hx
  rw [h j x (List.getElem?_eq_some_iff.1 hj).1 hj]
  exact Bool.false_ne_true
theorem inside_eq (g : Gr) (s : Sg) (a : Ar) : insideB g s a = (a.vol || (decide (0 ≤ a.start) && decide (a.start ≤ ((findD g a.on).getD zDk).ext) && decide (eachX s ≤ ((findD g a.on).getD zDk).ext - a.start))) := by
  unfold insideB
  cases findD g a.on <;> rfl
theorem ext_in {g : Gr} (hex : ∀ d ∈ g.disks, 0 ≤ d.ext ∧ d.ext ≤ 4096) (n : ByteArray) : 0 ≤ ((findD g n).getD zDk).ext ∧ ((findD g n).getD zDk).ext ≤ 4096 := by
  cases hq : findD g n with
  | none => exact ⟨by decide, by decide⟩
  | some d => exact hex d (List.mem_of_find?_eq_some hq)
theorem elevC {W : World} {g : Nat} {T : TypeId} {v0 v1 v2 v3 v4 v5 v6 v7 v8 v9 v10 : Value} (h : Blk W g T #[v0, v1, v2, v3, v4, v5, v6, v7, v8, v9, v10]) : (∀ n : CalmW W, n.w.cell? ⟨g, 0, none⟩ = some v0) ∧ (∀ n : CalmW W, n.w.cell? ⟨g, 1, none⟩ = some v1) ∧ (∀ n : CalmW W, n.w.cell? ⟨g, 2, none⟩ = some v2) ∧ (∀ n : CalmW W, n.w.cell? ⟨g, 3, none⟩ = some v3) ∧ (∀ n : CalmW W, n.w.cell? ⟨g, 4, none⟩ = some v4) ∧ (∀ n : CalmW W, n.w.cell? ⟨g, 5, none⟩ = some v5) ∧ (∀ n : CalmW W, n.w.cell? ⟨g, 6, none⟩ = some v6) ∧ (∀ n : CalmW W, n.w.cell? ⟨g, 7, none⟩ = some v7) ∧ (∀ n : CalmW W, n.w.cell? ⟨g, 8, none⟩ = some v8) ∧ (∀ n : CalmW W, n.w.cell? ⟨g, 9, none⟩ = some v9) ∧ (∀ n : CalmW W, n.w.cell? ⟨g, 10, none⟩ = some v10) :=
  have e := elev h
  ⟨CalmW.cell e.1, CalmW.cell e.2.1, CalmW.cell e.2.2.1, CalmW.cell e.2.2.2.1, CalmW.cell e.2.2.2.2.1, CalmW.cell e.2.2.2.2.2.1, CalmW.cell e.2.2.2.2.2.2.1, CalmW.cell e.2.2.2.2.2.2.2.1, CalmW.cell e.2.2.2.2.2.2.2.2.1, CalmW.cell e.2.2.2.2.2.2.2.2.2.1, CalmW.cell e.2.2.2.2.2.2.2.2.2.2⟩
set_option maxHeartbeats 16000000 in
theorem refs_any {w : World} {S : Nat → Prop} {gc cb : Nat} {TC : TypeId} {g : Gr} {At Ad Av Ah : Option Addr} {ct cd cv ch : Nat} {vm : Value} (h : Ck w gc g At Ad Av Ah ct cd cv ch vm) (hcb : Blk w cb TC #[.pointer (some ⟨gc, 0, none⟩)]) (hz : SzG g) (hex : ∀ d ∈ g.disks, 0 ≤ d.ext ∧ d.ext ≤ 4096) {v : Vo} {s : Sg} {A0 A1 Bt Bs : Option Addr} {d0 d1 bt bs : Nat} (har : AL w S (.slice A0 s.areas.length d0) s.areas) (hf : FitS s) (hn : v.name.size ≤ 1000000) :
    Calls Tryd.prog 78 #[.agg (voA v (.slice Bt v.tags.length bt) (.slice Bs v.segs.length bs)), .agg (sgA s (.slice A0 s.areas.length d0) (.slice A1 s.stale.length d1)), .pointer (some ⟨cb, 0, none⟩)] w (Ret (.int .i64 (refE g v s)) w) := by
  have hby := Blk.new (w.alloc (.cells #[.string v.name, .int .u64 v.id, .bool v.hid, .bool v.ro, .slice Bt v.tags.length bt, .slice Bs v.segs.length bs] 53)) 58 #[.int .i64 s.start, .int .i64 s.len, .int .i64 s.kind, .slice A0 s.areas.length d0, .int .i64 s.chunk, .slice A1 s.stale.length d1, .string s.log, .string s.pool, .int .i64 s.dev, .int .i64 s.mode, .int .i64 s.done]
  rw [show (w.alloc (.cells #[.string v.name, .int .u64 v.id, .bool v.hid, .bool v.ro, .slice Bt v.tags.length bt, .slice Bs v.segs.length bs] 53)).heap.size = w.heap.size + 1 by simp] at hby
  have hbx := (Blk.new w 53 #[.string v.name, .int .u64 v.id, .bool v.hid, .bool v.ro, .slice Bt v.tags.length bt, .slice Bs v.segs.length bs]).alloc (.cells #[.int .i64 s.start, .int .i64 s.len, .int .i64 s.kind, .slice A0 s.areas.length d0, .int .i64 s.chunk, .slice A1 s.stale.length d1, .string s.log, .string s.pool, .int .i64 s.dev, .int .i64 s.mode, .int .i64 s.done] 58)
  have HBV := Lib.hid (show ∀ w', Bel ((w.alloc (.cells #[.string v.name, .int .u64 v.id, .bool v.hid, .bool v.ro, .slice Bt v.tags.length bt, .slice Bs v.segs.length bs] 53)).alloc (.cells #[.int .i64 s.start, .int .i64 s.len, .int .i64 s.kind, .slice A0 s.areas.length d0, .int .i64 s.chunk, .slice A1 s.stale.length d1, .string s.log, .string s.pool, .int .i64 s.dev, .int .i64 s.mode, .int .i64 s.done] 58)) w' → Blk w' w.heap.size 53 #[.string v.name, .int .u64 v.id, .bool v.hid, .bool v.ro, .slice Bt v.tags.length bt, .slice Bs v.segs.length bs] from fun w' hb => hbx.below hb hbx.lt)
  have HBS := Lib.hid (show ∀ w', Bel ((w.alloc (.cells #[.string v.name, .int .u64 v.id, .bool v.hid, .bool v.ro, .slice Bt v.tags.length bt, .slice Bs v.segs.length bs] 53)).alloc (.cells #[.int .i64 s.start, .int .i64 s.len, .int .i64 s.kind, .slice A0 s.areas.length d0, .int .i64 s.chunk, .slice A1 s.stale.length d1, .string s.log, .string s.pool, .int .i64 s.dev, .int .i64 s.mode, .int .i64 s.done] 58)) w' → Blk w' (w.heap.size + 1) 58 #[.int .i64 s.start, .int .i64 s.len, .int .i64 s.kind, .slice A0 s.areas.length d0, .int .i64 s.chunk, .slice A1 s.stale.length d1, .string s.log, .string s.pool, .int .i64 s.dev, .int .i64 s.mode, .int .i64 s.done] from fun w' hb => hby.below hb hby.lt)
  have HW := Lib.hid (show ∀ w', Bel ((w.alloc (.cells #[.string v.name, .int .u64 v.id, .bool v.hid, .bool v.ro, .slice Bt v.tags.length bt, .slice Bs v.segs.length bs] 53)).alloc (.cells #[.int .i64 s.start, .int .i64 s.len, .int .i64 s.kind, .slice A0 s.areas.length d0, .int .i64 s.chunk, .slice A1 s.stale.length d1, .string s.log, .string s.pool, .int .i64 s.dev, .int .i64 s.mode, .int .i64 s.done] 58)) w' → Bel w w' ∧ w.heap.size + 2 ≤ w'.heap.size from fun w' hb => ⟨(((Below.refl _ _).al _).al _).next hb, by have := hb.size; simp at this; exact this⟩)
  have HIN := Lib.hid (show ∀ w', Bel ((w.alloc (.cells #[.string v.name, .int .u64 v.id, .bool v.hid, .bool v.ro, .slice Bt v.tags.length bt, .slice Bs v.segs.length bs] 53)).alloc (.cells #[.int .i64 s.start, .int .i64 s.len, .int .i64 s.kind, .slice A0 s.areas.length d0, .int .i64 s.chunk, .slice A1 s.stale.length d1, .string s.log, .string s.pool, .int .i64 s.dev, .int .i64 s.mode, .int .i64 s.done] 58)) w' → Calls Tryd.prog 79 #[.pointer (some ⟨gc, 0, none⟩), .agg #[.int .i64 s.start, .int .i64 s.len, .int .i64 s.kind, .slice A0 s.areas.length d0, .int .i64 s.chunk, .slice A1 s.stale.length d1, .string s.log, .string s.pool, .int .i64 s.dev, .int .i64 s.mode, .int .i64 s.done]] w' (Ret (.bool (existingB g s)) w') from fun w' hb => existing_any (h.up (HW.out _ hb).1) hz (AL.up har (HW.out _ hb).1) hf.areas)
  have HNM := Lib.hid (show ∀ w', Bel ((w.alloc (.cells #[.string v.name, .int .u64 v.id, .bool v.hid, .bool v.ro, .slice Bt v.tags.length bt, .slice Bs v.segs.length bs] 53)).alloc (.cells #[.int .i64 s.start, .int .i64 s.len, .int .i64 s.kind, .slice A0 s.areas.length d0, .int .i64 s.chunk, .slice A1 s.stale.length d1, .string s.log, .string s.pool, .int .i64 s.dev, .int .i64 s.mode, .int .i64 s.done] 58)) w' → Calls Tryd.prog 82 #[.agg #[.string v.name, .int .u64 v.id, .bool v.hid, .bool v.ro, .slice Bt v.tags.length bt, .slice Bs v.segs.length bs], .agg #[.int .i64 s.start, .int .i64 s.len, .int .i64 s.kind, .slice A0 s.areas.length d0, .int .i64 s.chunk, .slice A1 s.stale.length d1, .string s.log, .string s.pool, .int .i64 s.dev, .int .i64 s.mode, .int .i64 s.done]] w' (Ret (.bool (namedB v s)) w') from fun w' hb => named_any (AL.up har (HW.out _ hb).1) hf.areas (h.up (HW.out _ hb).1).suf hn hf.h5 hf.h7)
  have HXT := Lib.hid (show ∀ w', Calls Tryd.prog 81 #[.agg #[.int .i64 s.start, .int .i64 s.len, .int .i64 s.kind, .slice A0 s.areas.length d0, .int .i64 s.chunk, .slice A1 s.stale.length d1, .string s.log, .string s.pool, .int .i64 s.dev, .int .i64 s.mode, .int .i64 s.done]] w' (Ret (.int .i64 (eachX s)) w') from fun w' => extents_any w' s hf.len)
  have HCB := Lib.hid (show ∀ w', Bel w w' → w'.cell? ⟨cb, 0, none⟩ = some (.pointer (some ⟨gc, 0, none⟩)) from fun w' hb => by rw [(hcb.below hb hcb.lt).cell]; rfl)
  have k0 := HCB.out _ (HW.out _ (Below.refl _ _)).1
  have H := Lib.hid h
  have HR := Lib.hid har
  have HZ := Lib.hid hz
  have HEX := Lib.hid hex
  have HF := Lib.hid hf
  have hal := hf.areas
  obtain ⟨j0, j1, j2, j3, j4, j5, j6, j7, j8, j9, j10⟩ := elev (HBS.out _ (Below.refl _ _))
  obtain ⟨r0, r1, r2, r3, r4, r5⟩ := six (HBV.out _ (Below.refl _ _))
  clear h har hz hex hf hby hbx hcb
  unfold voA sgA
  obtain ⟨ex, hexb⟩ : ∃ ex, existingB g s = ex := ⟨_, rfl⟩
  have HEB := Lib.hid hexb
  rw [hexb] at HIN
  clear hexb
  go_enter Tryd.func78, Tryd.ntmps78
  go_wp2_with fail
  refine (HIN.out _ (Below.refl _ _)).mono ?_
  rintro e w1 ⟨rfl, hb1⟩
  have HB1 := Lib.hid hb1
  have k1 := HCB.out _ (HW.out _ HB1.out).1
  clear k0 hb1 j0 j1 j2 j3 j4 j5 j6 j7 j8 j9 j10 r0 r1 r2 r3 r4 r5
  obtain ⟨j0, j1, j2, j3, j4, j5, j6, j7, j8, j9, j10⟩ := elev (HBS.out _ HB1.out)
  cases ex with
  | false =>
    have HE := Lib.hid (show refE g v s = 12 by unfold refE; rw [if_pos HEB.out])
    go_wp2_with fail
    go_ret
    exact ⟨by rw [HE.out]; rfl, (HW.out _ HB1.out).1⟩
  | true =>
    go_wp2_with fail
    go_loopw [23] (fun i wx => ∃ k : Nat, k ≤ s.areas.length ∧ i = .int .i64 (k : Int) ∧ (∀ j x, j < k → s.areas[j]? = some x → insideB g s x = true) ∧ Bel w1 wx) (fun i _ => s.areas.length - (intOf i).toNat)
    case atStart => exact ⟨0, Nat.zero_le _, rfl, fun j t h => absurd h (Nat.not_lt_zero _), Below.refl _ _⟩
    case round =>
      obtain ⟨k, hk, rfl, hall, hb⟩ := hrel
      have HA := Lib.hid hall
      have HB := Lib.hid hb
      have hsz := (HW.out _ (HB1.out.next hb)).2
      clear hall hb
      by_cases hlt : k < s.areas.length
      · have z0 : (k : Int) < (s.areas.length : Int) := by omega
        have z1 : (0 : Int) ≤ (k : Int) := by omega
        obtain ⟨ad, x, eA, hx, _, had, a0, a1, a2⟩ := (AL.up HR.out (HW.out _ (HB1.out.next HB.out)).1).at_ hlt
        have HX := Lib.hid hx
        clear hx
        have HBA := Lib.hid (fun w' (hb : Bel (wr.alloc (.cells #[.bool x.vol, .string x.on, .int .i64 x.start] 60)) w') => (HB.out.al (.cells #[.bool x.vol, .string x.on, .int .i64 x.start] 60)).next hb)
        have HWA := Lib.hid (fun w' (hb : Bel (wr.alloc (.cells #[.bool x.vol, .string x.on, .int .i64 x.start] 60)) w') => (HW.out _ (HB1.out.next (HBA.out _ hb))).1)
        obtain ⟨y, hy⟩ : ∃ y, (findD g x.on).getD zDk = y := ⟨_, rfl⟩
        have HDK := Lib.hid (show ∀ w', Bel (wr.alloc (.cells #[.bool x.vol, .string x.on, .int .i64 x.start] 60)) w' → Calls Tryd.prog 80 #[.agg (grA g (.slice At g.tags.length ct) (.slice Ad g.disks.length cd) (.slice Av g.vols.length cv) (.slice Ah g.hist.length ch)), .string x.on] w' (DiskLit (findD g x.on) w') from fun w' hb => (disk_any ((H.out.up (HWA.out _ hb)).dl) HZ.out.disks HZ.out.dtags x.on).mono fun _ _ h => disk_lit h)
        have HXB := Lib.hid (show ∀ w', Bel (wr.alloc (.cells #[.bool x.vol, .string x.on, .int .i64 x.start] 60)) w' → Blk w' wr.heap.size 60 #[.bool x.vol, .string x.on, .int .i64 x.start] from fun w' hb => (Blk.new wr _ _).below hb (Blk.new wr _ _).lt)
        have HIE := Lib.hid (show insideB g s x = (x.vol || (decide (0 ≤ x.start) && decide (x.start ≤ y.ext) && decide (eachX s ≤ y.ext - x.start))) by rw [inside_eq, hy])
        have hye : 0 ≤ y.ext ∧ y.ext ≤ 4096 := by rw [← hy]; exact ext_in HEX.out x.on
        have HY := Lib.hid hy
        obtain ⟨c0, c1, c2, c3, c4, c5, c6, c7, c8, c9⟩ := nine (H.out.up (HWA.out _ (Below.refl _ _))).blk
        obtain ⟨b0, b1, b2, b3, b4, b5, b6, b7, b8, b9⟩ := nine (H.out.up (HWA.out _ ((Below.refl _ _).al (.cells #[.string ⟨#[]⟩, .int .u64 0, .int .i64 0, .int .i64 0, .bool false, .bool false, .slice none 0 0] 46)))).blk
        have ka := HCB.out _ (HWA.out _ (Below.refl _ _))
        have kz := HCB.out _ (HWA.out _ ((Below.refl _ _).al (.cells #[.string ⟨#[]⟩, .int .u64 0, .int .i64 0, .int .i64 0, .bool false, .bool false, .slice none 0 0] 46)))
        have hbz := Blk.new (wr.alloc (.cells #[.bool x.vol, .string x.on, .int .i64 x.start] 60)) 46 #[.string ⟨#[]⟩, .int .u64 0, .int .i64 0, .int .i64 0, .bool false, .bool false, .slice none 0 0]
        rw [show (wr.alloc (.cells #[.bool x.vol, .string x.on, .int .i64 x.start] 60)).heap.size = wr.heap.size + 1 by simp] at hbz
        have HBZ := Lib.hid (show ∀ w', Bel ((wr.alloc (.cells #[.bool x.vol, .string x.on, .int .i64 x.start] 60)).alloc (.cells #[.string ⟨#[]⟩, .int .u64 0, .int .i64 0, .int .i64 0, .bool false, .bool false, .slice none 0 0] 46)) w' → Blk w' (wr.heap.size + 1) 46 #[.string ⟨#[]⟩, .int .u64 0, .int .i64 0, .int .i64 0, .bool false, .bool false, .slice none 0 0] from fun w' hb => hbz.below hb hbz.lt)
        clear hbz hy
        unfold grA at HDK
        go_upto_region 6 with fail
        go_cut [8, 9] (fun p _ wx => ∃ (q : Nat) (Dt : Option Addr) (dt : Nat), p = .pointer (some ⟨q, 0, none⟩) ∧ Blk wx q 46 #[.string y.name, .int .u64 y.id, .int .i64 y.first, .int .i64 y.ext, .bool y.closed, .bool y.missing, .slice Dt y.tags.length dt] ∧ Bel (wr.alloc (.cells #[.bool x.vol, .string x.on, .int .i64 x.start] 60)) wx)
        case first =>
          clear eA hye
          go_region_law (first
            | (go_simp; go_at_call 80; refine (HDK.out _ ((Below.refl _ _).drew)).mono ?_; rintro e w5 ⟨y', b, Dt, dt, rfl, hy, hyb, hb5⟩; obtain rfl : y = y' := HY.out.symm.trans hy; have HB5 := Lib.hid ((show Bel (wr.alloc (.cells #[.bool x.vol, .string x.on, .int .i64 x.start] 60)) (wr.alloc (.cells #[.bool x.vol, .string x.on, .int .i64 x.start] 60)).drew from (Below.refl _ _).drew).next hb5); clear hy hyb hb5; skip)
            | (go_simp; go_at_call 80; refine (HDK.out _ (((Below.refl _ _).al _).drew)).mono ?_; rintro e w5 ⟨y', b, Dt, dt, rfl, hy, hyb, hb5⟩; obtain rfl : y = y' := HY.out.symm.trans hy; have hz5 := HBZ.out _ ((show Bel ((wr.alloc (.cells #[.bool x.vol, .string x.on, .int .i64 x.start] 60)).alloc (.cells #[.string ⟨#[]⟩, .int .u64 0, .int .i64 0, .int .i64 0, .bool false, .bool false, .slice none 0 0] 46)) ((wr.alloc (.cells #[.bool x.vol, .string x.on, .int .i64 x.start] 60)).alloc (.cells #[.string ⟨#[]⟩, .int .u64 0, .int .i64 0, .int .i64 0, .bool false, .bool false, .slice none 0 0] 46)).drew from (Below.refl _ _).drew).next hb5); obtain ⟨r0, r1, r2, r3, r4, r5, r6⟩ := seven hz5; have g0 := hz5.frozen 0; have g1 := hz5.frozen 1; have g2 := hz5.frozen 2; have g3 := hz5.frozen 3; have g4 := hz5.frozen 4; have g5 := hz5.frozen 5; have g6 := hz5.frozen 6; have HZ5 := Lib.hid hz5; have HB5 := Lib.hid ((show Bel (wr.alloc (.cells #[.bool x.vol, .string x.on, .int .i64 x.start] 60)) ((wr.alloc (.cells #[.bool x.vol, .string x.on, .int .i64 x.start] 60)).alloc (.cells #[.string ⟨#[]⟩, .int .u64 0, .int .i64 0, .int .i64 0, .bool false, .bool false, .slice none 0 0] 46)).drew from ((Below.refl _ _).al _).drew).next hb5); clear hy hyb hb5 hz5; skip))
          all_goals
            go_wp2_with fail
            go_meet
            case rel =>
              have hle : (wr.alloc (.cells #[.bool x.vol, .string x.on, .int .i64 x.start] 60)).heap.size ≤ wr.heap.size + 1 := by simp
              first
                | with_reducible exact ⟨w5.heap.size, Dt, dt, rfl, Blk.new w5 _ _, HB5.out.al _⟩
                | (with_reducible refine ⟨wr.heap.size + 1, Dt, dt, rfl, ?_, (((((((HB5.out).setCell (p := ⟨wr.heap.size + 1, 0, none⟩) hle (.string y.name)).setCell (p := ⟨wr.heap.size + 1, 1, none⟩) hle (.int .u64 y.id)).setCell (p := ⟨wr.heap.size + 1, 2, none⟩) hle (.int .i64 y.first)).setCell (p := ⟨wr.heap.size + 1, 3, none⟩) hle (.int .i64 y.ext)).setCell (p := ⟨wr.heap.size + 1, 4, none⟩) hle (.bool y.closed)).setCell (p := ⟨wr.heap.size + 1, 5, none⟩) hle (.bool y.missing)).setCell (p := ⟨wr.heap.size + 1, 6, none⟩) hle (.slice Dt y.tags.length dt)⟩; (have hb9 := (((((((HZ5.out).set_ 0 (.string y.name)).set_ 1 (.int .u64 y.id)).set_ 2 (.int .i64 y.first)).set_ 3 (.int .i64 y.ext)).set_ 4 (.bool y.closed)).set_ 5 (.bool y.missing)).set_ 6 (.slice Dt y.tags.length dt)); simpa only [tS] using hb9)
        case rest =>
          obtain ⟨q, Dt, dt, rfl, hyb, hbx⟩ := hcut
          have HYB := Lib.hid hyb
          have HBX2 := Lib.hid (HBA.out _ hbx)
          have HXB5 := Lib.hid (HXB.out _ hbx)
          clear hyb hbx eA c0 c1 c2 c3 c4 c5 c6 c7 c8 c9 b0 b1 b2 b3 b4 b5 b6 b7 b8 b9 ka kz
          obtain ⟨bv, hbv⟩ : ∃ bv, x.vol = bv := ⟨_, rfl⟩
          have HV := Lib.hid hbv
          rw [hbv] at HIE
          clear hbv
          cases bv with
          | true =>
            have HOK := Lib.hid (show insideB g s x = true by rw [HIE.out]; rfl)
            have e0 := CalmW.cell (show wc.cell? ⟨wr.heap.size, 0, none⟩ = some (.bool true) by rw [HXB5.out.cell]; simp [HV.out])
            have e1 := CalmW.cell (show wc.cell? ⟨wr.heap.size, 1, none⟩ = some (.string x.on) by rw [HXB5.out.cell]; rfl)
            have e2 := CalmW.cell (show wc.cell? ⟨wr.heap.size, 2, none⟩ = some (.int .i64 x.start) by rw [HXB5.out.cell]; rfl)
            have e3 := CalmW.cell (show wc.cell? ⟨q, 3, none⟩ = some (.int .i64 y.ext) by rw [HYB.out.cell]; rfl)
            obtain ⟨f0, f1, f2, f3, f4, f5, f6, f7, f8, f9, f10⟩ := elevC (HBS.out _ (HB1.out.next HBX2.out))
            go_wp2_with fail
            refine wp_region_calm (by kernel_rfl) (by kernel_rfl) ?_
            repeat (go_big_quiet_step ((go_at_call 81; exact Calls.calm (HXT.out _))))
            refine wpQuiet_nil ?_
            rintro _ ⟨n5, rfl⟩
            have HB7 := Lib.hid (HBX2.out.next n5.ok)
            clear e0 e1 e2 e3 f0 f1 f2 f3 f4 f5 f6 f7 f8 f9 f10
            generalize n5.w = w7 at *
            have HN := Lib.hid (all_next (P := fun _ y => insideB g s y = true) HA.out HX.out HOK.out)
            go_wp2_with fail
            go_roundw
            case rel => exact ⟨k + 1, by omega, by go_num, HN.out, HB7.out⟩
            case measure => simp [intOf]; omega
          | false =>
            by_cases h0 : x.start < 0
            · have t0 : decide (x.start < 0) = true := decide_eq_true h0
              have HOK := Lib.hid (show insideB g s x = false by rw [HIE.out, decide_eq_false (by omega : ¬ 0 ≤ x.start)]; rfl)
              clear h0
              have e0 := CalmW.cell (show wc.cell? ⟨wr.heap.size, 0, none⟩ = some (.bool false) by rw [HXB5.out.cell]; simp [HV.out])
              have e1 := CalmW.cell (show wc.cell? ⟨wr.heap.size, 1, none⟩ = some (.string x.on) by rw [HXB5.out.cell]; rfl)
              have e2 := CalmW.cell (show wc.cell? ⟨wr.heap.size, 2, none⟩ = some (.int .i64 x.start) by rw [HXB5.out.cell]; rfl)
              have e3 := CalmW.cell (show wc.cell? ⟨q, 3, none⟩ = some (.int .i64 y.ext) by rw [HYB.out.cell]; rfl)
              obtain ⟨f0, f1, f2, f3, f4, f5, f6, f7, f8, f9, f10⟩ := elevC (HBS.out _ (HB1.out.next HBX2.out))
              go_wp2_with fail
              refine wp_region_calm (by kernel_rfl) (by kernel_rfl) ?_
              repeat (go_big_quiet_step ((go_at_call 81; exact Calls.calm (HXT.out _))))
              refine wpQuiet_nil ?_
              rintro _ ⟨n5, rfl⟩
              have HB7 := Lib.hid (HBX2.out.next n5.ok)
              clear e0 e1 e2 e3 f0 f1 f2 f3 f4 f5 f6 f7 f8 f9 f10
              generalize n5.w = w7 at *
              have HE := Lib.hid (show refE g v s = 1 by unfold refE; rw [if_neg (by rw [HEB.out]; exact Bool.noConfusion), if_pos (all_bad HX.out HOK.out)])
              go_wp2_with fail
              go_ret
              exact ⟨by rw [HE.out]; rfl, (HW.out _ (HB1.out.next HB7.out)).1⟩
            · have t0 : decide (x.start < 0) = false := decide_eq_false h0
              by_cases h1 : y.ext < x.start
              · have t1 : decide (y.ext < x.start) = true := decide_eq_true h1
                have HOK := Lib.hid (show insideB g s x = false by rw [HIE.out, decide_eq_false (by omega : ¬ x.start ≤ y.ext), Bool.and_false]; rfl)
                clear h0 h1
                have e0 := CalmW.cell (show wc.cell? ⟨wr.heap.size, 0, none⟩ = some (.bool false) by rw [HXB5.out.cell]; simp [HV.out])
                have e1 := CalmW.cell (show wc.cell? ⟨wr.heap.size, 1, none⟩ = some (.string x.on) by rw [HXB5.out.cell]; rfl)
                have e2 := CalmW.cell (show wc.cell? ⟨wr.heap.size, 2, none⟩ = some (.int .i64 x.start) by rw [HXB5.out.cell]; rfl)
                have e3 := CalmW.cell (show wc.cell? ⟨q, 3, none⟩ = some (.int .i64 y.ext) by rw [HYB.out.cell]; rfl)
                obtain ⟨f0, f1, f2, f3, f4, f5, f6, f7, f8, f9, f10⟩ := elevC (HBS.out _ (HB1.out.next HBX2.out))
                go_wp2_with fail
                refine wp_region_calm (by kernel_rfl) (by kernel_rfl) ?_
                repeat (go_big_quiet_step ((go_at_call 81; exact Calls.calm (HXT.out _))))
                refine wpQuiet_nil ?_
                rintro _ ⟨n5, rfl⟩
                have HB7 := Lib.hid (HBX2.out.next n5.ok)
                clear e0 e1 e2 e3 f0 f1 f2 f3 f4 f5 f6 f7 f8 f9 f10
                generalize n5.w = w7 at *
                have HE := Lib.hid (show refE g v s = 1 by unfold refE; rw [if_neg (by rw [HEB.out]; exact Bool.noConfusion), if_pos (all_bad HX.out HOK.out)])
                go_wp2_with fail
                go_ret
                exact ⟨by rw [HE.out]; rfl, (HW.out _ (HB1.out.next HB7.out)).1⟩
              · have t1 : decide (y.ext < x.start) = false := decide_eq_false h1
                have wm : IntKind.i64.wrap (y.ext - x.start) = y.ext - x.start := IntWalk.i64_in _ (by omega)
                by_cases h2 : y.ext - x.start < eachX s
                · have t2 : decide (y.ext - x.start < eachX s) = true := decide_eq_true h2
                  have HOK := Lib.hid (show insideB g s x = false by rw [HIE.out, decide_eq_false (by omega : ¬ eachX s ≤ y.ext - x.start), Bool.and_false]; rfl)
                  clear h0 h1 h2
                  have e0 := CalmW.cell (show wc.cell? ⟨wr.heap.size, 0, none⟩ = some (.bool false) by rw [HXB5.out.cell]; simp [HV.out])
                  have e1 := CalmW.cell (show wc.cell? ⟨wr.heap.size, 1, none⟩ = some (.string x.on) by rw [HXB5.out.cell]; rfl)
                  have e2 := CalmW.cell (show wc.cell? ⟨wr.heap.size, 2, none⟩ = some (.int .i64 x.start) by rw [HXB5.out.cell]; rfl)
                  have e3 := CalmW.cell (show wc.cell? ⟨q, 3, none⟩ = some (.int .i64 y.ext) by rw [HYB.out.cell]; rfl)
                  obtain ⟨f0, f1, f2, f3, f4, f5, f6, f7, f8, f9, f10⟩ := elevC (HBS.out _ (HB1.out.next HBX2.out))
                  go_wp2_with fail
                  refine wp_region_calm (by kernel_rfl) (by kernel_rfl) ?_
                  repeat (go_big_quiet_step ((go_at_call 81; exact Calls.calm (HXT.out _))))
                  refine wpQuiet_nil ?_
                  rintro _ ⟨n5, rfl⟩
                  have HB7 := Lib.hid (HBX2.out.next n5.ok)
                  clear e0 e1 e2 e3 f0 f1 f2 f3 f4 f5 f6 f7 f8 f9 f10
                  generalize n5.w = w7 at *
                  have HE := Lib.hid (show refE g v s = 1 by unfold refE; rw [if_neg (by rw [HEB.out]; exact Bool.noConfusion), if_pos (all_bad HX.out HOK.out)])
                  go_wp2_with fail
                  go_ret
                  exact ⟨by rw [HE.out]; rfl, (HW.out _ (HB1.out.next HB7.out)).1⟩
                · have t2 : decide (y.ext - x.start < eachX s) = false := decide_eq_false h2
                  have HOK := Lib.hid (show insideB g s x = true by rw [HIE.out, decide_eq_true (by omega : 0 ≤ x.start), decide_eq_true (by omega : x.start ≤ y.ext), decide_eq_true (by omega : eachX s ≤ y.ext - x.start)]; rfl)
                  clear h0 h1 h2
                  have e0 := CalmW.cell (show wc.cell? ⟨wr.heap.size, 0, none⟩ = some (.bool false) by rw [HXB5.out.cell]; simp [HV.out])
                  have e1 := CalmW.cell (show wc.cell? ⟨wr.heap.size, 1, none⟩ = some (.string x.on) by rw [HXB5.out.cell]; rfl)
                  have e2 := CalmW.cell (show wc.cell? ⟨wr.heap.size, 2, none⟩ = some (.int .i64 x.start) by rw [HXB5.out.cell]; rfl)
                  have e3 := CalmW.cell (show wc.cell? ⟨q, 3, none⟩ = some (.int .i64 y.ext) by rw [HYB.out.cell]; rfl)
                  obtain ⟨f0, f1, f2, f3, f4, f5, f6, f7, f8, f9, f10⟩ := elevC (HBS.out _ (HB1.out.next HBX2.out))
                  go_wp2_with fail
                  refine wp_region_calm (by kernel_rfl) (by kernel_rfl) ?_
                  repeat (go_big_quiet_step ((go_at_call 81; exact Calls.calm (HXT.out _))))
                  refine wpQuiet_nil ?_
                  rintro _ ⟨n5, rfl⟩
                  have HB7 := Lib.hid (HBX2.out.next n5.ok)
                  clear e0 e1 e2 e3 f0 f1 f2 f3 f4 f5 f6 f7 f8 f9 f10
                  generalize n5.w = w7 at *
                  have HN := Lib.hid (all_next (P := fun _ y => insideB g s y = true) HA.out HX.out HOK.out)
                  go_wp2_with fail
                  go_roundw
                  case rel => exact ⟨k + 1, by omega, by go_num, HN.out, HB7.out⟩
                  case measure => simp [intOf]; omega
      · obtain rfl : k = s.areas.length := by omega
        have HAI := Lib.hid (show s.areas.all (insideB g s) = true from all_good HA.out)
        obtain ⟨j0, j1, j2, j3, j4, j5, j6, j7, j8, j9, j10⟩ := elev (HBS.out _ (HB1.out.next HB.out))
        obtain ⟨r0, r1, r2, r3, r4, r5⟩ := six (HBV.out _ (HB1.out.next HB.out))
        obtain ⟨nm, hnm⟩ : ∃ nm, namedB v s = nm := ⟨_, rfl⟩
        have HNB := Lib.hid hnm
        rw [hnm] at HNM
        clear hnm
        go_wp2_with fail
        refine (HNM.out _ (HB1.out.next HB.out)).mono ?_
        rintro e w2 ⟨rfl, hb2⟩
        have HB2 := Lib.hid (HB1.out.next (HB.out.next hb2))
        clear hb2 j0 j1 j2 j3 j4 j5 j6 j7 j8 j9 j10 r0 r1 r2 r3 r4 r5
        obtain ⟨j0, j1, j2, j3, j4, j5, j6, j7, j8, j9, j10⟩ := elev (HBS.out _ HB2.out)
        cases nm with
        | false =>
          have HE := Lib.hid (show refE g v s = 10 by unfold refE; rw [if_neg (by rw [HEB.out]; exact Bool.noConfusion), if_neg (by rw [HAI.out]; exact Bool.noConfusion), if_pos HNB.out])
          go_wp2_with fail
          go_ret
          exact ⟨by rw [HE.out]; rfl, (HW.out _ HB2.out).1⟩
        | true =>
          by_cases hk6 : s.kind = 6
          · have HRE := Lib.hid (show refE g v s = (if s.kind = 6 ∧ kindO (findV g s.pool) ≠ 5 then 17 else if (usedS s false).any (leafKind g) then 17 else 0) by unfold refE; rw [if_neg (by rw [HEB.out]; exact Bool.noConfusion), if_neg (by rw [HAI.out]; exact Bool.noConfusion), if_neg (by rw [HNB.out]; exact Bool.noConfusion)])
            have HK6 := Lib.hid hk6
            have HBS := Lib.hid (show ∀ w', Bel ((w.alloc (.cells #[.string v.name, .int .u64 v.id, .bool v.hid, .bool v.ro, .slice Bt v.tags.length bt, .slice Bs v.segs.length bs] 53)).alloc (.cells #[.int .i64 s.start, .int .i64 s.len, .int .i64 s.kind, .slice A0 s.areas.length d0, .int .i64 s.chunk, .slice A1 s.stale.length d1, .string s.log, .string s.pool, .int .i64 s.dev, .int .i64 s.mode, .int .i64 s.done] 58)) w' → Blk w' (w.heap.size + 1) 58 #[.int .i64 s.start, .int .i64 s.len, .int .i64 6, .slice A0 s.areas.length d0, .int .i64 s.chunk, .slice A1 s.stale.length d1, .string s.log, .string s.pool, .int .i64 s.dev, .int .i64 s.mode, .int .i64 s.done] from fun w' hb => by have := HBS.out w' hb; rw [hk6] at this; exact this)
            rw [hk6] at j2
            clear hk6
            have HBA := Lib.hid (fun w' (hb : Bel w2 w') => HB2.out.next hb)
            have HWA := Lib.hid (fun w' (hb : Bel w2 w') => (HW.out _ (HBA.out _ hb)).1)
            obtain ⟨y, hy⟩ : ∃ y, (findV g s.pool).getD zVo = y := ⟨_, rfl⟩
            have HVK := Lib.hid (show ∀ w', Bel w2 w' → Calls Tryd.prog 59 #[.agg (grA g (.slice At g.tags.length ct) (.slice Ad g.disks.length cd) (.slice Av g.vols.length cv) (.slice Ah g.hist.length ch)), .string s.pool] w' (VolLit (findV g s.pool) w') from fun w' hb => (volume_any ((H.out.up (HWA.out _ hb)).vl) HZ.out.vols HZ.out.vol s.pool).mono fun _ _ h => vol_lit h)
            have HY := Lib.hid hy
            have HKD := Lib.hid (show kindV y = kindO (findV g s.pool) by rw [← hy]; exact kind_getD _)
            obtain ⟨c0, c1, c2, c3, c4, c5, c6, c7, c8, c9⟩ := nine (H.out.up (HWA.out _ (Below.refl _ _))).blk
            obtain ⟨b0', b1', b2', b3', b4', b5', b6', b7', b8', b9'⟩ := nine (H.out.up (HWA.out _ ((Below.refl _ _).al (.cells #[.string ⟨#[]⟩, .int .u64 0, .bool false, .bool false, .slice none 0 0, .slice none 0 0] 53)))).blk
            have ka := HCB.out _ (HWA.out _ (Below.refl _ _))
            have kz := HCB.out _ (HWA.out _ ((Below.refl _ _).al (.cells #[.string ⟨#[]⟩, .int .u64 0, .bool false, .bool false, .slice none 0 0, .slice none 0 0] 53)))
            have HBZ := Lib.hid (show ∀ w', Bel (w2.alloc (.cells #[.string ⟨#[]⟩, .int .u64 0, .bool false, .bool false, .slice none 0 0, .slice none 0 0] 53)) w' → Blk w' w2.heap.size 53 #[.string ⟨#[]⟩, .int .u64 0, .bool false, .bool false, .slice none 0 0, .slice none 0 0] from fun w' hb => (Blk.new w2 _ _).below hb (Blk.new w2 _ _).lt)
            have s7 : w2.cell? ⟨w.heap.size + 1, 7, none⟩ = some (.string s.pool) := by rw [(HBS.out _ (HBA.out _ (Below.refl _ _))).cell]; rfl
            have u7' : (w2.alloc (.cells #[.string ⟨#[]⟩, .int .u64 0, .bool false, .bool false, .slice none 0 0, .slice none 0 0] 53)).cell? ⟨w.heap.size + 1, 7, none⟩ = some (.string s.pool) := by rw [(HBS.out _ (HBA.out _ ((Below.refl _ _).al (.cells #[.string ⟨#[]⟩, .int .u64 0, .bool false, .bool false, .slice none 0 0, .slice none 0 0] 53)))).cell]; rfl
            clear j0 j1 j3 j4 j5 j6 j7 j8 j9 j10
            clear hy
            unfold grA at HVK
            go_upto_region 13 with fail
            go_cut [10, 11] (fun p _ wx => ∃ (q : Nat) (B0 : Option Addr) (b0 : Nat) (B1 : Option Addr) (b1 : Nat), p = .pointer (some ⟨q, 0, none⟩) ∧ Blk wx q 53 #[.string y.name, .int .u64 y.id, .bool y.hid, .bool y.ro, .slice B0 y.tags.length b0, .slice B1 y.segs.length b1] ∧ SL wx (fun _ => True) (.slice B1 y.segs.length b1) y.segs ∧ Bel w2 wx)
            case first =>
              go_region_law (first
                | (go_simp; go_at_call 59; refine (HVK.out _ ((Below.refl _ _).drew)).mono ?_; rintro e w5 ⟨y', b, B0, b0, B1, b1, rfl, hy, hyb, hsl, hb5⟩; obtain rfl : y = y' := HY.out.symm.trans hy; have HSL := Lib.hid hsl; have HB5 := Lib.hid ((show Bel w2 w2.drew from (Below.refl _ _).drew).next hb5); clear hy hyb hb5 hsl; skip)
                | (go_simp; go_at_call 59; refine (HVK.out _ (((Below.refl _ _).al _).drew)).mono ?_; rintro e w5 ⟨y', b, B0, b0, B1, b1, rfl, hy, hyb, hsl, hb5⟩; obtain rfl : y = y' := HY.out.symm.trans hy; have HSL := Lib.hid hsl; have hz5 := HBZ.out _ ((show Bel (w2.alloc (.cells #[.string ⟨#[]⟩, .int .u64 0, .bool false, .bool false, .slice none 0 0, .slice none 0 0] 53)) (w2.alloc (.cells #[.string ⟨#[]⟩, .int .u64 0, .bool false, .bool false, .slice none 0 0, .slice none 0 0] 53)).drew from (Below.refl _ _).drew).next hb5); obtain ⟨r0, r1, r2, r3, r4, r5⟩ := six hz5; have g0 := hz5.frozen 0; have g1 := hz5.frozen 1; have g2 := hz5.frozen 2; have g3 := hz5.frozen 3; have g4 := hz5.frozen 4; have g5 := hz5.frozen 5; have HZ5 := Lib.hid hz5; have HB5 := Lib.hid ((show Bel w2 (w2.alloc (.cells #[.string ⟨#[]⟩, .int .u64 0, .bool false, .bool false, .slice none 0 0, .slice none 0 0] 53)).drew from ((Below.refl _ _).al _).drew).next hb5); clear hy hyb hb5 hz5 hsl; skip))
              all_goals
                go_wp2_with fail
                go_meet
                case rel =>
                  first
                    | with_reducible exact ⟨w5.heap.size, B0, b0, B1, b1, rfl, Blk.new w5 _ _, SL.keep (SL.up HSL.out ((Below.refl _ _).al _)) Kept.same (fun _ _ => trivial), HB5.out.al _⟩
                    | (have ho := (((((((Only.refl (· = w2.heap.size) w5)).setCell (p := ⟨w2.heap.size, 0, none⟩) (.inl rfl) (.string y.name)).setCell (p := ⟨w2.heap.size, 1, none⟩) (.inl rfl) (.int .u64 y.id)).setCell (p := ⟨w2.heap.size, 2, none⟩) (.inl rfl) (.bool y.hid)).setCell (p := ⟨w2.heap.size, 3, none⟩) (.inl rfl) (.bool y.ro)).setCell (p := ⟨w2.heap.size, 4, none⟩) (.inl rfl) (.slice B0 y.tags.length b0)).setCell (p := ⟨w2.heap.size, 5, none⟩) (.inl rfl) (.slice B1 y.segs.length b1)
                       have hb9 := ((((((HZ5.out).set_ 0 (.string y.name)).set_ 1 (.int .u64 y.id)).set_ 2 (.bool y.hid)).set_ 3 (.bool y.ro)).set_ 4 (.slice B0 y.tags.length b0)).set_ 5 (.slice B1 y.segs.length b1)
                       have hwz : (w2.alloc (.cells #[.string ⟨#[]⟩, .int .u64 0, .bool false, .bool false, .slice none 0 0, .slice none 0 0] 53)).heap.size = w2.heap.size + 1 := by simp
                       have hs9 := SL.keep (S' := fun _ => True) HSL.out (Kept.of_only ho (fun g hg e => by have h3 : (w2.alloc (.cells #[.string ⟨#[]⟩, .int .u64 0, .bool false, .bool false, .slice none 0 0, .slice none 0 0] 53)).heap.size ≤ g := hg; omega)) (fun _ _ => trivial)
                       with_reducible refine ⟨w2.heap.size, B0, b0, B1, b1, rfl, ?_, hs9, ((((((HB5.out).setCell (p := ⟨w2.heap.size, 0, none⟩) (Nat.le_refl _) (.string y.name)).setCell (p := ⟨w2.heap.size, 1, none⟩) (Nat.le_refl _) (.int .u64 y.id)).setCell (p := ⟨w2.heap.size, 2, none⟩) (Nat.le_refl _) (.bool y.hid)).setCell (p := ⟨w2.heap.size, 3, none⟩) (Nat.le_refl _) (.bool y.ro)).setCell (p := ⟨w2.heap.size, 4, none⟩) (Nat.le_refl _) (.slice B0 y.tags.length b0)).setCell (p := ⟨w2.heap.size, 5, none⟩) (Nat.le_refl _) (.slice B1 y.segs.length b1)⟩
                       simpa only [tS] using hb9)
            case rest =>
              obtain ⟨q, B0, b0, B1, b1, rfl, hyb, hsl, hbx⟩ := hcut
              have HYB := Lib.hid hyb
              have HSL := Lib.hid hsl
              have HB3 := Lib.hid (HBA.out _ hbx)
              clear hyb hsl hbx c0 c1 c2 c3 c4 c5 c6 c7 c8 c9 b0' b1' b2' b3' b4' b5' b6' b7' b8' b9' ka kz s7 u7'
              obtain ⟨m0, m1, m2, m3, m4, m5⟩ := six HYB.out
              have HKC := Lib.hid (kind_any (v := y) (B0 := B0) (b0 := b0) HSL.out)
              unfold voA at HKC
              obtain ⟨kk, hkk⟩ : ∃ kk, kindV y = kk := ⟨_, rfl⟩
              rw [hkk] at HKC HKD
              clear hkk
              go_wp2_with fail
              refine HKC.out.mono ?_
              rintro e w6 ⟨rfl, hb6⟩
              have HB6 := Lib.hid (HB3.out.next hb6)
              clear hb6 m0 m1 m2 m3 m4 m5
              by_cases hk5 : kk = 5
              · have q5 : (kk != 5) = false := by rw [hk5]; rfl
                have HRE2 := Lib.hid (show refE g v s = (if (usedS s false).any (leafKind g) then 17 else 0) by rw [HRE.out, if_neg (fun h => h.2 (by rw [← HKD.out]; exact hk5))])
                clear hk5
                obtain ⟨l, hul⟩ : ∃ l, usedS s false = l := ⟨_, rfl⟩
                have hll := usedS_len s false
                have HU := Lib.hid (used_any (A1 := A1) (d1 := d1) (AL.up HR.out (HW.out _ HB6.out).1) hal false)
                rw [hul] at HU hll HRE2
                unfold sgA at HU
                rw [HK6.out] at HU
                obtain ⟨i0, i1, i2, i3, i4, i5, i6, i7, i8, i9, i10⟩ := elev (HBS.out _ HB6.out)
                clear hul
                go_wp2_with fail
                refine HU.out.mono ?_
                rintro e w7 ⟨Au, cu, rfl, htl, hb7⟩
                have HT := Lib.hid htl
                have HB7 := Lib.hid (HB6.out.next hb7)
                clear htl hb7 i0 i1 i2 i3 i4 i5 i6 i7 i8 i9 i10
                go_wp2_with fail
                go_loopw [86] (fun i wx => ∃ k : Nat, k ≤ l.length ∧ i = .int .i64 (k : Int) ∧ (∀ j x, j < k → l[j]? = some x → leafKind g x = false) ∧ Bel w7 wx) (fun i _ => l.length - (intOf i).toNat)
                case atStart => exact ⟨0, Nat.zero_le _, rfl, fun j t h => absurd h (Nat.not_lt_zero _), Below.refl _ _⟩
                case round =>
                  obtain ⟨k, hk, rfl, hall, hb⟩ := hrel
                  have HA2 := Lib.hid hall
                  have HL2 := Lib.hid hb
                  clear hall hb
                  by_cases hlt2 : k < l.length
                  · have z2 : (k : Int) < (l.length : Int) := by omega
                    have z3 : (0 : Int) ≤ (k : Int) := by omega
                    obtain ⟨ad2, x2, rfl, hx2, _, had2, p0⟩ := (TL.up HT.out HL2.out).cell hlt2
                    have HX2 := Lib.hid hx2
                    have HWR := Lib.hid (HB7.out.next HL2.out)
                    have HVK2 := Lib.hid ((volume_any (A0 := At) (A1 := Ad) (A3 := Ah) (c0 := ct) (c1 := cd) (c3 := ch) (H.out.up (HW.out _ HWR.out).1).vl HZ.out.vols HZ.out.vol x2).mono fun _ _ h => vol_lit h)
                    obtain ⟨c0, c1, c2, c3, c4, c5, c6, c7, c8, c9⟩ := nine (H.out.up (HW.out _ HWR.out).1).blk
                    have ka := HCB.out _ (HW.out _ HWR.out).1
                    unfold grA at HVK2
                    clear hx2
                    go_wp2_with fail
                    refine HVK2.out.mono ?_
                    rintro e w8 ⟨y2, bb, B2, b2, B3, b3, rfl, hy, hyb, hsl, hb8⟩
                    have HKD2 := Lib.hid (show kindV y2 = kindO (findV g x2) by rw [← hy]; exact kind_getD _)
                    have HS8 := Lib.hid (SL.up hsl ((Below.refl _ _).al (.cells #[.string y2.name, .int .u64 y2.id, .bool y2.hid, .bool y2.ro, .slice B2 y2.tags.length b2, .slice B3 y2.segs.length b3] 53)))
                    have HB9 := Lib.hid (((HL2.out.next hb8)).al (.cells #[.string y2.name, .int .u64 y2.id, .bool y2.hid, .bool y2.ro, .slice B2 y2.tags.length b2, .slice B3 y2.segs.length b3] 53))
                    have HBY := Lib.hid (show ∀ w', Bel (w8.alloc (.cells #[.string y2.name, .int .u64 y2.id, .bool y2.hid, .bool y2.ro, .slice B2 y2.tags.length b2, .slice B3 y2.segs.length b3] 53)) w' → Blk w' w8.heap.size 53 #[.string y2.name, .int .u64 y2.id, .bool y2.hid, .bool y2.ro, .slice B2 y2.tags.length b2, .slice B3 y2.segs.length b3] from fun w' hb => (Blk.new w8 _ _).below hb (Blk.new w8 _ _).lt)
                    have HKC := Lib.hid (fun w' (hb : Bel (w8.alloc (.cells #[.string y2.name, .int .u64 y2.id, .bool y2.hid, .bool y2.ro, .slice B2 y2.tags.length b2, .slice B3 y2.segs.length b3] 53)) w') => kind_any (v := y2) (B0 := B2) (b0 := b2) (SL.up HS8.out hb))
                    unfold voA at HKC
                    obtain ⟨kk, hkk⟩ : ∃ kk, kindV y2 = kk := ⟨_, rfl⟩
                    rw [hkk] at HKC HKD2
                    clear hkk hy hyb hsl hb8 c0 c1 c2 c3 c4 c5 c6 c7 c8 c9 ka p0
                    go_wp2_with fail
                    refine (HKC.out _ (Below.refl _ _)).mono ?_
                    rintro e w10 ⟨rfl, hb10⟩
                    have HY10 := Lib.hid hb10
                    have HB10 := Lib.hid (HB9.out.next hb10)
                    clear hb10
                    by_cases hq6 : kk = 6
                    · have q6 : (kk == 6) = true := by rw [hq6]; rfl
                      have HE := Lib.hid (show refE g v s = 17 by rw [HRE2.out, if_pos (any_bad HX2.out (by unfold leafKind; rw [← HKD2.out, decide_eq_true hq6]; rfl))])
                      clear hq6
                      go_wp2_with fail
                      go_ret
                      exact ⟨by rw [HE.out]; rfl, (HW.out _ (HB7.out.next HB10.out)).1⟩
                    · have q6 : (kk == 6) = false := beq_eq_false_iff_ne.2 hq6
                      obtain ⟨m0, m1, m2, m3, m4, m5⟩ := six (HBY.out _ HY10.out)
                      by_cases hq5 : kk = 5
                      · have q5' : (kk == 5) = true := by rw [hq5]; rfl
                        have HE := Lib.hid (show refE g v s = 17 by rw [HRE2.out, if_pos (any_bad HX2.out (by unfold leafKind; rw [← HKD2.out, decide_eq_true hq5, Bool.or_true]))])
                        clear hq6 hq5
                        go_wp2_with fail
                        refine (HKC.out _ HY10.out).mono ?_
                        rintro e w11 ⟨rfl, hb11⟩
                        have HB11 := Lib.hid (HB10.out.next hb11)
                        clear hb11
                        go_wp2_with fail
                        go_ret
                        exact ⟨by rw [HE.out]; rfl, (HW.out _ (HB7.out.next HB11.out)).1⟩
                      · have q5' : (kk == 5) = false := beq_eq_false_iff_ne.2 hq5
                        have HN := Lib.hid (all_next (P := fun _ y => leafKind g y = false) HA2.out HX2.out (by unfold leafKind; rw [← HKD2.out, decide_eq_false hq6, decide_eq_false hq5]; rfl))
                        clear hq6 hq5
                        go_wp2_with fail
                        refine (HKC.out _ HY10.out).mono ?_
                        rintro e w11 ⟨rfl, hb11⟩
                        have HB11 := Lib.hid (HB10.out.next hb11)
                        clear hb11
                        go_wp2_with fail
                        go_roundw
                        case rel => exact ⟨k + 1, by omega, by go_num, HN.out, HB11.out⟩
                        case measure => simp [intOf]; omega
                  · obtain rfl : k = l.length := by omega
                    have HE := Lib.hid (show refE g v s = 0 by rw [HRE2.out, any_good HA2.out, if_neg (by decide)])
                    go_wp2_with fail
                    go_ret
                    exact ⟨by rw [HE.out]; rfl, (HW.out _ (HB7.out.next HL2.out)).1⟩
              · have q5 : (kk != 5) = true := by simp [hk5]
                have HE := Lib.hid (show refE g v s = 17 by rw [HRE.out, if_pos ⟨HK6.out, by rw [← HKD.out]; exact hk5⟩])
                clear hk5
                go_wp2_with fail
                go_ret
                exact ⟨by rw [HE.out]; rfl, (HW.out _ HB6.out).1⟩
          · have HRE2 := Lib.hid (show refE g v s = (if (usedS s false).any (leafKind g) then 17 else 0) by unfold refE; rw [if_neg (by rw [HEB.out]; exact Bool.noConfusion), if_neg (by rw [HAI.out]; exact Bool.noConfusion), if_neg (by rw [HNB.out]; exact Bool.noConfusion), if_neg (fun h => hk6 h.1)])
            obtain ⟨l, hul⟩ : ∃ l, usedS s false = l := ⟨_, rfl⟩
            have hll := usedS_len s false
            have HU := Lib.hid (used_any (A1 := A1) (d1 := d1) (AL.up HR.out (HW.out _ HB2.out).1) hal false)
            rw [hul] at HU hll HRE2
            unfold sgA at HU
            obtain ⟨i0, i1, i2, i3, i4, i5, i6, i7, i8, i9, i10⟩ := elev (HBS.out _ HB2.out)
            clear hul
            go_wp2_with fail
            refine HU.out.mono ?_
            rintro e w7 ⟨Au, cu, rfl, htl, hb7⟩
            have HT := Lib.hid htl
            have HB7 := Lib.hid (HB2.out.next hb7)
            clear htl hb7 i0 i1 i2 i3 i4 i5 i6 i7 i8 i9 i10
            go_wp2_with fail
            go_loopw [86] (fun i wx => ∃ k : Nat, k ≤ l.length ∧ i = .int .i64 (k : Int) ∧ (∀ j x, j < k → l[j]? = some x → leafKind g x = false) ∧ Bel w7 wx) (fun i _ => l.length - (intOf i).toNat)
            case atStart => exact ⟨0, Nat.zero_le _, rfl, fun j t h => absurd h (Nat.not_lt_zero _), Below.refl _ _⟩
            case round =>
              obtain ⟨k, hk, rfl, hall, hb⟩ := hrel
              have HA2 := Lib.hid hall
              have HL2 := Lib.hid hb
              clear hall hb
              by_cases hlt2 : k < l.length
              · have z2 : (k : Int) < (l.length : Int) := by omega
                have z3 : (0 : Int) ≤ (k : Int) := by omega
                obtain ⟨ad2, x2, rfl, hx2, _, had2, p0⟩ := (TL.up HT.out HL2.out).cell hlt2
                have HX2 := Lib.hid hx2
                have HWR := Lib.hid (HB7.out.next HL2.out)
                have HVK2 := Lib.hid ((volume_any (A0 := At) (A1 := Ad) (A3 := Ah) (c0 := ct) (c1 := cd) (c3 := ch) (H.out.up (HW.out _ HWR.out).1).vl HZ.out.vols HZ.out.vol x2).mono fun _ _ h => vol_lit h)
                obtain ⟨c0, c1, c2, c3, c4, c5, c6, c7, c8, c9⟩ := nine (H.out.up (HW.out _ HWR.out).1).blk
                have ka := HCB.out _ (HW.out _ HWR.out).1
                unfold grA at HVK2
                clear hx2
                go_wp2_with fail
                refine HVK2.out.mono ?_
                rintro e w8 ⟨y2, bb, B2, b2, B3, b3, rfl, hy, hyb, hsl, hb8⟩
                have HKD2 := Lib.hid (show kindV y2 = kindO (findV g x2) by rw [← hy]; exact kind_getD _)
                have HS8 := Lib.hid (SL.up hsl ((Below.refl _ _).al (.cells #[.string y2.name, .int .u64 y2.id, .bool y2.hid, .bool y2.ro, .slice B2 y2.tags.length b2, .slice B3 y2.segs.length b3] 53)))
                have HB9 := Lib.hid (((HL2.out.next hb8)).al (.cells #[.string y2.name, .int .u64 y2.id, .bool y2.hid, .bool y2.ro, .slice B2 y2.tags.length b2, .slice B3 y2.segs.length b3] 53))
                have HBY := Lib.hid (show ∀ w', Bel (w8.alloc (.cells #[.string y2.name, .int .u64 y2.id, .bool y2.hid, .bool y2.ro, .slice B2 y2.tags.length b2, .slice B3 y2.segs.length b3] 53)) w' → Blk w' w8.heap.size 53 #[.string y2.name, .int .u64 y2.id, .bool y2.hid, .bool y2.ro, .slice B2 y2.tags.length b2, .slice B3 y2.segs.length b3] from fun w' hb => (Blk.new w8 _ _).below hb (Blk.new w8 _ _).lt)
                have HKC := Lib.hid (fun w' (hb : Bel (w8.alloc (.cells #[.string y2.name, .int .u64 y2.id, .bool y2.hid, .bool y2.ro, .slice B2 y2.tags.length b2, .slice B3 y2.segs.length b3] 53)) w') => kind_any (v := y2) (B0 := B2) (b0 := b2) (SL.up HS8.out hb))
                unfold voA at HKC
                obtain ⟨kk, hkk⟩ : ∃ kk, kindV y2 = kk := ⟨_, rfl⟩
                rw [hkk] at HKC HKD2
                clear hkk hy hyb hsl hb8 c0 c1 c2 c3 c4 c5 c6 c7 c8 c9 ka p0
                go_wp2_with fail
                refine (HKC.out _ (Below.refl _ _)).mono ?_
                rintro e w10 ⟨rfl, hb10⟩
                have HY10 := Lib.hid hb10
                have HB10 := Lib.hid (HB9.out.next hb10)
                clear hb10
                by_cases hq6 : kk = 6
                · have q6 : (kk == 6) = true := by rw [hq6]; rfl
                  have HE := Lib.hid (show refE g v s = 17 by rw [HRE2.out, if_pos (any_bad HX2.out (by unfold leafKind; rw [← HKD2.out, decide_eq_true hq6]; rfl))])
                  clear hq6
                  go_wp2_with fail
                  go_ret
                  exact ⟨by rw [HE.out]; rfl, (HW.out _ (HB7.out.next HB10.out)).1⟩
                · have q6 : (kk == 6) = false := beq_eq_false_iff_ne.2 hq6
                  obtain ⟨m0, m1, m2, m3, m4, m5⟩ := six (HBY.out _ HY10.out)
                  by_cases hq5 : kk = 5
                  · have q5' : (kk == 5) = true := by rw [hq5]; rfl
                    have HE := Lib.hid (show refE g v s = 17 by rw [HRE2.out, if_pos (any_bad HX2.out (by unfold leafKind; rw [← HKD2.out, decide_eq_true hq5, Bool.or_true]))])
                    clear hq6 hq5
                    go_wp2_with fail
                    refine (HKC.out _ HY10.out).mono ?_
                    rintro e w11 ⟨rfl, hb11⟩
                    have HB11 := Lib.hid (HB10.out.next hb11)
                    clear hb11
                    go_wp2_with fail
                    go_ret
                    exact ⟨by rw [HE.out]; rfl, (HW.out _ (HB7.out.next HB11.out)).1⟩
                  · have q5' : (kk == 5) = false := beq_eq_false_iff_ne.2 hq5
                    have HN := Lib.hid (all_next (P := fun _ y => leafKind g y = false) HA2.out HX2.out (by unfold leafKind; rw [← HKD2.out, decide_eq_false hq6, decide_eq_false hq5]; rfl))
                    clear hq6 hq5
                    go_wp2_with fail
                    refine (HKC.out _ HY10.out).mono ?_
                    rintro e w11 ⟨rfl, hb11⟩
                    have HB11 := Lib.hid (HB10.out.next hb11)
                    clear hb11
                    go_wp2_with fail
                    go_roundw
                    case rel => exact ⟨k + 1, by omega, by go_num, HN.out, HB11.out⟩
                    case measure => simp [intOf]; omega
              · obtain rfl : k = l.length := by omega
                have HE := Lib.hid (show refE g v s = 0 by rw [HRE2.out, any_good HA2.out, if_neg (by decide)])
                go_wp2_with fail
                go_ret
                exact ⟨by rw [HE.out]; rfl, (HW.out _ (HB7.out.next HL2.out)).1⟩
end Go.Proofs.YtdkcfgahdcpkkaaDoor
