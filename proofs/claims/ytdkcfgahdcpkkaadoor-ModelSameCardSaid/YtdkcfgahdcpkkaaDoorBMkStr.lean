/- The builder: striped. -/
import Derived.Test.YtdkcfgahdcpkkaaDoorBMkApp
set_option linter.all false
set_option linter.unusedVariables false
set_option linter.unusedSimpArgs false
namespace Go.Proofs.YtdkcfgahdcpkkaaDoor
open Go.RowKit
set_option maxRecDepth 100000
/-- areas are taken one behind the other, on disks in turn -/
inductive AreasR (n : Int) : Nat → Be → List Ar → Be → Prop
  | nil (β : Be) : AreasR n 0 β [] β
  | snoc {k : Nat} {β β1 β2 : Be} {l : List Ar} {a : Ar} (h : AreasR n k β l β1) (hr : AreaR β1 (k % β1.g.disks.length) n (some a) β2) : AreasR n (k + 1) β (l ++ [a]) β2
theorem AreasR.g {n : Int} {k : Nat} {β β' : Be} {l : List Ar} (h : AreasR n k β l β') : β'.g = β.g := by
  induction h with
  | nil => rfl
  | snoc _ hr ih => rw [AreaR.g hr, ih]
def strVo (name : ByteArray) (id : Int) (k n : Int) (l : List Ar) : Vo := ⟨name, id, false, false, [], [⟨0, k * n, 2, l, 1, [], ⟨#[]⟩, ⟨#[]⟩, 0, 0, 0⟩]⟩
/-- striped adds a volume, or takes some areas alone -/
def StrR (β : Be) (name : ByteArray) (β' : Be) : Prop :=
  (∃ n k l, AreasR n k β l β') ∨ ∃ (k : Nat) (n : Int) (l : List Ar) (β1 : Be), 2 ≤ k ∧ k ≤ 3 ∧ 1 ≤ n ∧ n ≤ 2 ∧ AreasR n k β l β1 ∧ β' = (nextB β1).add (strVo name (idB β1) k n l)
set_option maxHeartbeats 16000000 in
theorem striped_any {B : Nat} {S : Nat → Prop} {w : World} {bb sb : Nat} {β : Be} {vt vd vv vn : Value} {css : List (List Value)} (h : BU B S w bb sb β vt vd vv vn css) (hnx : 0 ≤ β.g.next ∧ β.g.next ≤ 1000000) (hvl : β.g.vols.length ≤ 1000) (name : ByteArray) :
    Calls Tryd.prog 30 #[.pointer (some ⟨bb, 0, none⟩), .string name] w (fun e w' => ∃ β' vv' css' S', StrR β name β' ∧ e = .returned (.tuple #[]) ∧ BU B S' w' bb sb β' vt vd vv' vn css' ∧ Nx S (Mt bb sb vv vn) w S' (Mt bb sb vv' vn) w') := by
  obtain ⟨Ad, cd, rfl⟩ := h.dl.form
  have H := Lib.hid h
  obtain ⟨b0, b1, b2, b3, b4, b5, b6, b7, b8, b9, b10⟩ := h.cells
  have HR := Lib.hid (fun w' (hs : SrcOk B w' sb) => srcRange_any B sb 2 3 w' hs (by decide) (by decide) (by decide))
  have HR2 := Lib.hid (fun w' (hs : SrcOk B w' sb) => srcRange_any B sb 1 2 w' hs (by decide) (by decide) (by decide))
  clear h
  go_enter Tryd.func30, Tryd.ntmps30
  go_wp2_with fail
  go_cut [4, 5] (fun v4 v5 wx => ∃ (k : Nat) (n : Int), 2 ≤ k ∧ k ≤ 3 ∧ 1 ≤ n ∧ n ≤ 2 ∧ v4 = .int .i64 (k : Int) ∧ v5 = .int .i64 n ∧ BU B S wx bb sb β vt (.slice Ad β.g.disks.length cd) vv vn css ∧ Only (Mt bb sb vv vn) w wx)
  case first =>
    have HD := Lib.hid (H.out.up (Below.refl _ _).drew)
    have HOD := Lib.hid (show Only (Mt bb sb vv vn) w w.drew from (Only.refl _ _).drew)
    go_region_law (first
      | (have H1t := H1.out.src; go_simp; go_at_call 26; refine (HR2.out _ H1t).mono ?_; rintro e w2 ⟨y, hy, rfl, hok, ho⟩; have H2 := Lib.hid (H1.out.src_ hok ho); have HO2 := Lib.hid (HO1.out.trans_ ho (fun k _ e => .inr (.inl e))); have HY := Lib.hid hy; clear hok ho hy; skip)
      | (go_simp; go_at_call 26; refine (HR.out w.drew HD.out.src).mono ?_; rintro e w1 ⟨x, hx, rfl, hok, ho⟩; have H1 := Lib.hid (HD.out.src_ hok ho); have HO1 := Lib.hid (HOD.out.trans_ ho (fun k _ e => .inr (.inl e))); have HX := Lib.hid hx; have d0 := H1.out.cells.1; clear hok ho hx; skip))
    all_goals
      go_wp2_with fail
      go_meet
      case rel =>
        obtain ⟨k, hk⟩ := Int.eq_ofNat_of_zero_le (a := x) (by have := HX.out; omega)
        have h1 := HX.out
        have h2 := HY.out
        exact ⟨k, y, by omega, by omega, by omega, by omega, by rw [hk], rfl, H2.out, HO2.out⟩
  case rest =>
    obtain ⟨k, n, hk2, hk3, hn1, hn2, rfl, rfl, hbu, ho⟩ := hcut
    have hlow := hbu.lowS.up ((Below.refl _ _).al (.cells #[.int .i64 0, .int .i64 ((k : Int) * n), .int .i64 2, .slice none 0 0, .int .i64 1, .slice none 0 0, .string ⟨#[]⟩, .string ⟨#[]⟩, .int .i64 0, .int .i64 0, .int .i64 0] 58))
    have HQ := Lib.hid (show ¬ Mt bb sb vv vn wc.heap.size from fun e => by have := (hbu.mlt e).2; omega)
    have HBQ := Lib.hid hbu.base
    have HMT := Lib.hid (fun q (e : Mt bb sb vv vn q) => (hbu.mlt e).2)
    have HW0 := Lib.hid ho.size
    have hnd := hbu.ok.nd
    have HST := Lib.hid (show BU B (fun k => S k ∧ k < wc.heap.size) (wc.alloc (.cells #[.int .i64 0, .int .i64 ((k : Int) * n), .int .i64 2, .slice none 0 0, .int .i64 1, .slice none 0 0, .string ⟨#[]⟩, .string ⟨#[]⟩, .int .i64 0, .int .i64 0, .int .i64 0] 58)) bb sb β vt (.slice Ad β.g.disks.length cd) vv vn css ∧ Blk (wc.alloc (.cells #[.int .i64 0, .int .i64 ((k : Int) * n), .int .i64 2, .slice none 0 0, .int .i64 1, .slice none 0 0, .string ⟨#[]⟩, .string ⟨#[]⟩, .int .i64 0, .int .i64 0, .int .i64 0] 58)) wc.heap.size 58 #[.int .i64 0, .int .i64 ((k : Int) * n), .int .i64 2, .slice none 0 0, .int .i64 1, .slice none 0 0, .string ⟨#[]⟩, .string ⟨#[]⟩, .int .i64 0, .int .i64 0, .int .i64 0] ∧ Nx S (Mt bb sb vv vn) w (fun k => S k ∧ k < wc.heap.size) (Mt bb sb vv vn) (wc.alloc (.cells #[.int .i64 0, .int .i64 ((k : Int) * n), .int .i64 2, .slice none 0 0, .int .i64 1, .slice none 0 0, .string ⟨#[]⟩, .string ⟨#[]⟩, .int .i64 0, .int .i64 0, .int .i64 0] 58)) from ⟨hlow, Blk.new wc _ _, (Nx.same ho).trans ((Nx.low (Only.refl _ _)).below ((Below.refl _ _).al _))⟩)
    have wkn : IntKind.i64.wrap ((k : Int) * n) = (k : Int) * n := IntWalk.i64_in _ (by rcases (show k = 2 ∨ k = 3 by omega) with rfl | rfl <;> (simp; omega))
    clear hbu ho hlow b0 b1 b2 b3 b4 b5 b6 b7 b8 b9 b10
    obtain ⟨i0, hi0, hz0, hz1, hz2⟩ := info_parts infoA
    go_wp2_with fail
    go_loopw [7] (fun i wx => ∃ (m : Nat) (β1 : Be) (l : List Ar) (v : Value) (cs : List (List Value)), m ≤ k ∧ i = .int .i64 (m : Int) ∧ AreasR n m β l β1 ∧ l.length = m ∧ BU B (fun k => S k ∧ k < wc.heap.size) wx bb sb β1 vt (.slice Ad β.g.disks.length cd) vv vn css ∧ Blk wx wc.heap.size 58 #[.int .i64 0, .int .i64 ((k : Int) * n), .int .i64 2, v, .int .i64 1, .slice none 0 0, .string ⟨#[]⟩, .string ⟨#[]⟩, .int .i64 0, .int .i64 0, .int .i64 0] ∧ OLc arW wx (wc.heap.size + 1) 60 3 v l cs ∧ Nx S (Mt bb sb vv vn) w (fun k => S k ∧ k < wc.heap.size) (Mt bb sb vv vn) wx) (fun i _ => k - (intOf i).toNat)
    case atStart => exact ⟨0, β, [], .slice none 0 0, [], Nat.zero_le _, rfl, .nil β, rfl, HST.out.1, HST.out.2.1, OLc.nil, HST.out.2.2⟩
    case round =>
      clear HST
      obtain ⟨m, β1, l, v, cs, hm, rfl, har, hll, hbu, hxb, hrow, hnx1⟩ := hrel
      have hg1 := har.g
      have HAR := Lib.hid har
      have HBU := Lib.hid hbu
      have HXB := Lib.hid hxb
      have HROW := Lib.hid hrow
      have HNX := Lib.hid hnx1
      obtain ⟨c0, c1, c2, c3, c4, c5, c6, c7, c8, c9, c10⟩ := hbu.cells
      have hqr : wc.heap.size < wr.heap.size := hxb.lt
      clear har hbu hxb hrow hnx1
      by_cases hlt : m < k
      · have z0 : (m : Int) < (k : Int) := by omega
        obtain ⟨dd, hdd⟩ : ∃ dd : Nat, dd = m % β.g.disks.length := ⟨_, rfl⟩
        have hdi : (m : Int) % (β.g.disks.length : Int) = (dd : Int) := by rw [hdd]; rfl
        have hdl : dd < β1.g.disks.length := by rw [hg1, hdd]; exact Nat.mod_lt _ (by omega)
        have hne : ((β.g.disks.length : Int) == 0) = false := beq_eq_false_iff_ne.2 (by omega)
        have HA := Lib.hid (area_any HBU.out hdl (n := n) (by omega))
        have HDD := Lib.hid hdd
        clear hdd
        go_wp2_with fail
        refine HA.out.mono ?_
        rintro e w5 ⟨r, β2, hr, rfl, hbu5, ho5⟩
        have HNX5 := Lib.hid (HNX.out.trans (Nx.same ho5))
        have HROW5 := Lib.hid (HROW.out.only arL ho5 (fun q e => by have := HMT.out q e; omega))
        have HXB5 := Lib.hid (HXB.out.only ho5 HQ.out)
        have HBU5 := Lib.hid hbu5
        have hsz5 : wc.heap.size < w5.heap.size := HXB5.out.lt
        cases r with
        | none =>
          have hb2 : β2 = β1 := by
            obtain ⟨_, _, _, _, ⟨_, h, _⟩ | ⟨_, _, _, _, h, _⟩⟩ := hr
            · exact h
            · cases h
          subst hb2
          have HBU6 := Lib.hid (hbu5.up ((Below.refl _ _).al (.cells #[.bool false, .string ⟨#[]⟩, .int .i64 0] 60)))
          have HNX6 := Lib.hid (HNX5.out.below ((Below.refl _ _).al (.cells #[.bool false, .string ⟨#[]⟩, .int .i64 0] 60)))
          clear hbu5 ho5 hr c0 c1 c2 c3 c4 c5 c6 c7 c8 c9 c10
          unfold arA zAr
          go_wp2_with fail
          refine bodyPost_ret (results_none rfl _ _ _) rfl ?_
          exact ⟨_, vv, css, _, .inl ⟨n, m, l, HAR.out⟩, rfl, HBU6.out, HNX6.out⟩
        | some a =>
          have HA2 := Lib.hid (AreasR.snoc HAR.out (by rw [hg1, ← HDD.out]; exact hr))
          have HBU7 := Lib.hid (hbu5.up (((Below.refl _ _).al (.cells #[.bool a.vol, .string a.on, .int .i64 a.start] 60)).al (.cells #[.bool a.vol, .string a.on, .int .i64 a.start] 60)))
          have HROW7 := Lib.hid (HROW5.out.up arL (((Below.refl _ _).al (.cells #[.bool a.vol, .string a.on, .int .i64 a.start] 60)).al (.cells #[.bool a.vol, .string a.on, .int .i64 a.start] 60)))
          have HXB7 := Lib.hid ((HXB5.out.alloc (.cells #[.bool a.vol, .string a.on, .int .i64 a.start] 60)).alloc (.cells #[.bool a.vol, .string a.on, .int .i64 a.start] 60))
          have HNX7 := Lib.hid (HNX5.out.below (((Below.refl _ _).al (.cells #[.bool a.vol, .string a.on, .int .i64 a.start] 60)).al (.cells #[.bool a.vol, .string a.on, .int .i64 a.start] 60)))
          obtain ⟨x0, x1, x2, x3, x4, x5, x6, x7, x8, x9, x10⟩ := elevM HXB7.out
          obtain ⟨y0, y1, y2, y3, y4, y5, y6, y7, y8, y9, y10⟩ := elevM (HXB5.out.alloc (.cells #[.bool a.vol, .string a.on, .int .i64 a.start] 60))
          have HRN := Lib.hid (show Reads ((w5.alloc (.cells #[.bool a.vol, .string a.on, .int .i64 a.start] 60)).alloc (.cells #[.bool a.vol, .string a.on, .int .i64 a.start] 60)) ((w5.alloc (.cells #[.bool a.vol, .string a.on, .int .i64 a.start] 60)).alloc (.cells #[.bool a.vol, .string a.on, .int .i64 a.start] 60)).heap.size 3 (some ⟨w5.heap.size + 1, 0, none⟩) 1 (#[.bool a.vol, .string a.on, .int .i64 a.start] : Array Value).toList from by rw [show w5.heap.size + 1 = (w5.alloc (.cells #[.bool a.vol, .string a.on, .int .i64 a.start] 60)).heap.size by simp]; exact reads_newM rfl)
          have HSZ := Lib.hid (show wc.heap.size + 1 ≤ ((w5.alloc (.cells #[.bool a.vol, .string a.on, .int .i64 a.start] 60)).alloc (.cells #[.bool a.vol, .string a.on, .int .i64 a.start] 60)).heap.size by simp; omega)
          clear hbu5 ho5 hr c0 c1 c2 c3 c4 c5 c6 c7 c8 c9 c10
          unfold arA
          go_wp2_with (at_builtin; refine wpList_append_any _ rfl _ _ 56 rfl (wc.heap.size + 1) 60 i0 _ 3 32 Tryd.underlying56 hi0 hz0 hz1 hz2 rfl (by decide) v l.length cs.flatten rfl HROW7.out.own _ (some ⟨w5.heap.size + 1, 0, none⟩) 1 1 (#[.bool a.vol, .string a.on, .int .i64 a.start] : Array Value).toList rfl HRN.out (by intro u hu; simp at hu; rcases hu with rfl | rfl | rfl <;> rfl) (by unfold maxLen; omega) (by omega) HSZ.out ?_; intro v8 w8 ho8 hg8 hd8; have HP8 := Lib.hid (HROW7.out.push arL ho8 hg8 hd8 (show arW _ _ (#[.bool a.vol, .string a.on, .int .i64 a.start] : Array Value).toList a from rfl)); have HO8 := Lib.hid (show Only (fun q => v.ownBlock = some q) ((w5.alloc (.cells #[.bool a.vol, .string a.on, .int .i64 a.start] 60)).alloc (.cells #[.bool a.vol, .string a.on, .int .i64 a.start] 60)) w8 from (Only.refl (fun q => v.ownBlock = some q) _).grown hg8 (fun q e => .inl e)); have HVL := Lib.hid (fun q (e : v.ownBlock = some q) => (World.ownsRow.lt HROW7.out.own q e).1); have hx8 := HXB7.out.only HO8.out (fun e => by have := HVL.out _ e; omega); obtain ⟨A8, d8, e8⟩ := own_formGM ho8; subst e8; have t8 : w8.cell? ⟨wc.heap.size, 3, none⟩ = some v := by rw [hx8.cell]; rfl
                       have g8 := hx8.frozen 3; have HX8 := Lib.hid hx8; clear ho8 hg8 hd8 hx8; skip)
          go_roundw
          case rel =>
            have ho9 : Only (· = wc.heap.size) w8 (w8.setCell ⟨wc.heap.size, 3, none⟩ (.slice A8 (m + 1) d8)) := (Only.refl (· = wc.heap.size) w8).setCell (p := ⟨wc.heap.size, 3, none⟩) (.inl rfl) _
            have hw0 := HW0.out
            have hp8 := HP8.out
            rw [hll] at hp8
            have hb8 := HBU7.out.far HO8.out (fun q e hm => by have h1 := HVL.out q e; have h2 := HMT.out q hm; omega) (fun q e hs => by have h1 := HVL.out q e; have h2 := hs.2; omega) (fun q e => by have h1 := HVL.out q e; have h2 := HBQ.out; omega)
            have hb9 := hb8.far ho9 (fun q e => e ▸ HQ.out) (fun q e hs => by have h2 := hs.2; omega) (fun q e => by have h2 := HBQ.out; omega)
            exact ⟨m + 1, β2, l ++ [a], _, _, by omega, by go_num, HA2.out, by simp; omega, hb9, HX8.out.set_ 3 _, hp8.only arL ho9 (fun q e => by omega), ⟨(HNX7.out.only.trans_ HO8.out (fun q hq e => by have h1 := HVL.out q e; omega)).trans_ ho9 (fun q hq e => by omega), HNX7.out.deep, HNX7.out.turn⟩⟩
          case measure => simp [intOf]; omega
      · obtain rfl : m = k := by omega
        obtain ⟨Av, cv, rfl, _⟩ := HROW.out.form
        have hnx2 : 0 ≤ β1.g.next ∧ β1.g.next ≤ 1000000 := by rw [hg1]; exact hnx
        obtain ⟨i1, hi1, hy0, hy1, hy2⟩ := info_parts infoV
        have HVL := Lib.hid (show β1.g.vols.length ≤ 1000 by rw [hg1]; exact hvl)
        have HG1 := Lib.hid hg1
        have HLL := Lib.hid hll
        clear hll hg1
        have HBI := Lib.hid (AL.keep (HROW.out.lr arL (by decide)) Kept.same (fun g hg => (show wc.heap.size < g from hg)))
        go_wp2_with fail
        refine wp_region_held_drew (S := (fun w' : World => w'.cell? ⟨wc.heap.size, 0, none⟩ = some (Value.int .i64 0) ∧ w'.cell? ⟨wc.heap.size, 1, none⟩ = some (Value.int .i64 ((m : Int) * n)) ∧ w'.cell? ⟨wc.heap.size, 2, none⟩ = some (Value.int .i64 2) ∧ w'.cell? ⟨wc.heap.size, 3, none⟩ = some (Value.slice Av l.length cv) ∧ w'.cell? ⟨wc.heap.size, 4, none⟩ = some (Value.int .i64 1) ∧ w'.cell? ⟨wc.heap.size, 5, none⟩ = some (Value.slice none 0 0) ∧ w'.cell? ⟨wc.heap.size, 6, none⟩ = some (Value.string ⟨#[]⟩) ∧ w'.cell? ⟨wc.heap.size, 7, none⟩ = some (Value.string ⟨#[]⟩) ∧ w'.cell? ⟨wc.heap.size, 8, none⟩ = some (Value.int .i64 0) ∧ w'.cell? ⟨wc.heap.size, 9, none⟩ = some (Value.int .i64 0) ∧ w'.cell? ⟨wc.heap.size, 10, none⟩ = some (Value.int .i64 0))) (by kernel_rfl) (elevM (HXB.out.drewN 1)) (fun hHeld => ?_)
        refine tkB [0, 1, 2, 3, 4, 6, 7, 9] ?_
        iterate 8
         refine tk (oi := ⟨some _, _, _, _, _, _⟩) (v := ?_) rfl (by kernel_rfl) (by kernel_rfl) (by kernel_rfl) (fun _ _ _ _ _ h => h) rfl (Or.inl ⟨by rfl, ?_⟩) (by assumption) ?_
         rotate_left 1
         · (intro w hSw; (try dsimp only at hSw); go_simp; try with_reducible rfl)
         simp only [Act.put, tS]
        refine tkE ?_
        refine regionK_go (k := 5) (f := 5) (B := [5, 8, 10, 11, 12]) (D := [[], [], [], [1, 2], [3]]) (ts := [56, 59, 61, 62, 63]) (L := (fun d => #[true, true, true, true, true, d 0, true, true, d 1, true, d 2, d 3, d 4, false, false, false, false, false])) (F := (SpF B (fun k => S k ∧ k < wc.heap.size) wr bb sb β1 vt (.slice Ad β.g.disks.length cd) vv vn css name #[.int .i64 0, .int .i64 ((m : Int) * n), .int .i64 2, .slice Av l.length cv, .int .i64 1, .slice none 0 0, .string ⟨#[]⟩, .string ⟨#[]⟩, .int .i64 0, .int .i64 0, .int .i64 0])) (by kernel_rfl) (by intro j hj d; rcases (show j = 0 ∨ j = 1 ∨ j = 2 ∨ j = 3 ∨ j = 4 by omega) with rfl | rfl | rfl | rfl | rfl <;> kernel_rfl) (by intro d; kernel_rfl) (by kernel_rfl) (fun _ _ _ h => elevM (HXB.out.only h.on HQ.out)) ?hstep ?hfin (by kernel_rfl) (by kernel_rfl) (by kernel_rfl) (SpF.start HBU.out _)
        case hstep =>
          intro j hj d x w h hcl hdj hdep K hK
          rcases (show j = 0 ∨ j = 1 ∨ j = 2 ∨ j = 3 ∨ j = 4 by omega) with rfl | rfl | rfl | rfl | rfl
          · refine wpOp_step (o := ⟨some 56, _, _, _, _, _⟩) rfl (fun K' hK' => ?_)
            simp only [putK, upd, Nat.reduceAdd, Nat.reduceBEq, cond_true, cond_false, tS]
            have c8 := h.bu.cells.2.2.2.2.2.2.2.2.1
            go_simp
            have hh := hK' _ _ (hK _ _ (h.s0))
            simp only [putK, upd, Nat.reduceAdd, Nat.reduceBEq, cond_true, cond_false, tS] at hh
            exact hh
          · have h3 : d 3 = false := Bool.eq_false_iff.2 fun e => by have := closed_at hcl 3 1 (by decide) (by decide) e; rw [hdj] at this; cases this
            have h4 : d 4 = false := Bool.eq_false_iff.2 fun e => by have := closed_at hcl 4 3 (by decide) (by decide) e; rw [h3] at this; cases this
            refine wpOp_step (o := ⟨some 59, _, _, _, _, _⟩) rfl (fun K' hK' => ?_)
            simp only [putK, upd, Nat.reduceAdd, Nat.reduceBEq, cond_true, cond_false, tS]
            go_simp
            have hb := h.bu
            rw [hdj] at hb
            go_at_call 65
            refine (mkid_any hb hnx2).mono ?_
            rintro e w1 ⟨rfl, hbu1, ho1⟩
            have hh := hK' _ _ (hK _ _ (h.s1 h3 h4 hbu1 ho1))
            simp only [putK, upd, Nat.reduceAdd, Nat.reduceBEq, cond_true, cond_false, tS] at hh
            exact hh
          · have h3 : d 3 = false := Bool.eq_false_iff.2 fun e => by have := closed_at hcl 3 2 (by decide) (by decide) e; rw [hdj] at this; cases this
            have h4 : d 4 = false := Bool.eq_false_iff.2 fun e => by have := closed_at hcl 4 3 (by decide) (by decide) e; rw [h3] at this; cases this
            refine wpOp_step (o := ⟨some 61, _, _, _, _, _⟩) rfl (fun K' hK' => ?_)
            simp only [putK, upd, Nat.reduceAdd, Nat.reduceBEq, cond_true, cond_false, tS]
            go_simp
            have hh := hK' _ _ (hK _ _ (h.s2 h3 h4))
            simp only [putK, upd, Nat.reduceAdd, Nat.reduceBEq, cond_true, cond_false, tS] at hh
            exact hh
          · have h4 : d 4 = false := Bool.eq_false_iff.2 fun e => by have := closed_at hcl 4 3 (by decide) (by decide) e; rw [hdj] at this; cases this
            have e1 := h.f1 (hdep 1 (by decide))
            obtain ⟨g, e2, hg, hbk⟩ := h.f2 (hdep 2 (by decide))
            refine wpOp_step (o := ⟨some 62, _, _, _, _, _⟩) rfl (fun K' hK' => ?_)
            simp only [putK, upd, Nat.reduceAdd, Nat.reduceBEq, cond_true, cond_false, tS]
            rw [e1, e2]
            go_simp
            have hh := hK' _ _ (hK _ _ (h.s3 h4))
            simp only [putK, upd, Nat.reduceAdd, Nat.reduceBEq, cond_true, cond_false, tS] at hh
            rw [e1, e2] at hh
            exact hh
          · have e3 := h.f3 (hdep 3 (by decide))
            have e1 := h.f1 (closed_at hcl 3 1 (by decide) (by decide) (hdep 3 (by decide)))
            obtain ⟨g, e2, hg, hbk⟩ := h.f2 (closed_at hcl 3 2 (by decide) (by decide) (hdep 3 (by decide)))
            refine wpOp_step (o := ⟨some 63, _, _, _, _, _⟩) rfl (fun K' hK' => ?_)
            simp only [putK, upd, Nat.reduceAdd, Nat.reduceBEq, cond_true, cond_false, tS]
            rw [e3, e1, e2]
            go_simp
            have hh := hK' _ _ (hK _ _ (h.s4))
            simp only [putK, upd, Nat.reduceAdd, Nat.reduceBEq, cond_true, cond_false, tS] at hh
            rw [e3, e1, e2] at hh
            exact hh
        case hfin =>
          intro d x w2 hd h
          have e0 := h.f0 (hd 0 (by decide))
          have e1 := h.f1 (hd 1 (by decide))
          obtain ⟨g, e2, hg, hbk⟩ := h.f2 (hd 2 (by decide))
          have e3 := h.f3 (hd 3 (by decide))
          obtain ⟨q, e4, hq, hvb⟩ := h.f4 (hd 4 (by decide))
          have hb := h.bu
          rw [hd 1 (by decide), if_pos rfl] at hb
          have HON := Lib.hid h.on
          have HMW := Lib.hid h.mt
          simp only [putK, upd, Nat.reduceAdd, Nat.reduceBEq, cond_true, cond_false, tS]
          rw [e0, e1, e2, e3, e4]
          rw [e1, e2] at *
          have HB := Lib.hid (hb.weak (S' := (fun q => (S q ∧ q < wc.heap.size) ∨ (wc.heap.size < q ∧ ¬ Mt bb sb vv vn q))) (fun q h => .inl h) (fun q hq e => hq.elim (fun h => hb.sd q h e) (fun h => h.2 e)))
          have HROW2 := Lib.hid (AL.keep HBI.out (Kept.of_only HON.out fun q hq e => by have h1 := HMT.out q e; omega) (S' := (fun q => (S q ∧ q < wc.heap.size) ∨ (wc.heap.size < q ∧ ¬ Mt bb sb vv vn q))) (fun q hq => .inr ⟨hq, fun e => by have h1 := HMT.out q e; omega⟩))
          have HVO := Lib.hid (show voW w2 (fun q => (S q ∧ q < wc.heap.size) ∨ (wc.heap.size < q ∧ ¬ Mt bb sb vv vn q)) (#[.string name, .int .u64 (idB β1), .bool false, .bool false, .slice none 0 0, .slice (some ⟨g, 0, none⟩) 1 1] : Array Value).toList (strVo name (idB β1) m n l) from ⟨.slice none 0 0, .slice (some ⟨g, 0, none⟩) 1 1, rfl, LR.nil, LR.one hbk.lt (.inr ⟨by omega, fun e => by have h1 := HMW.out _ e; omega⟩) ⟨_, _, ⟨by rw [hbk.cell]; rfl, by rw [hbk.cell]; rfl, by rw [hbk.cell]; rfl, by rw [hbk.cell]; rfl, by rw [hbk.cell]; rfl, by rw [hbk.cell]; rfl, by rw [hbk.cell]; rfl, by rw [hbk.cell]; rfl, by rw [hbk.cell]; rfl, by rw [hbk.cell]; rfl, by rw [hbk.cell]; rfl⟩, HROW2.out, LR.nil⟩⟩)
          have HNX8 := Lib.hid (show Nx S (Mt bb sb vv vn) w (fun q => (S q ∧ q < wc.heap.size) ∨ (wc.heap.size < q ∧ ¬ Mt bb sb vv vn q)) (Mt bb sb vv vn) w2 from ⟨HNX.out.only.trans HON.out, fun q hq hs => hs.elim (fun h => h.1) (fun h => by have h1 := h.1; have h2 := HW0.out; omega), fun q _ e => e⟩)
          have HXB2 := Lib.hid (HXB.out.only HON.out HQ.out)
          refine wpAnyH_all (rs := [13]) (by kernel_rfl) (by simp) (fun i hi => ?_)
          obtain rfl : i = 13 := by simpa using hi
          refine wpOp_step (o := ⟨some 64, _, _, _, _, _⟩) rfl (fun K' hK' => ?_)
          refine step_append_any (o := ⟨some 64, _, _, _, _, _⟩) _ rfl (.tmp 56) (.tmp 63) 28 rfl B 53 i1 _ 6 80 Tryd.underlying28 hi1 hy0 hy1 hy2 rfl (by decide) vv β1.g.vols.length css.flatten rfl HB.out.vs.own _ (some ⟨q, 0, none⟩) 1 1 (#[.string name, .int .u64 (idB β1), .bool false, .bool false, .slice none 0 0, .slice (some ⟨g, 0, none⟩) 1 1] : Array Value).toList rfl (reads_at hvb rfl) (by intro u hu; simp at hu; rcases hu with rfl | rfl | rfl | rfl | rfl | rfl <;> rfl) (by have := HVL.out; unfold maxLen; omega) (by have := HVL.out; omega) HB.out.base ?_
          intro v8 w8 ho8 hg8 hd8
          have HP8 := Lib.hid (HB.out.push HVO.out ho8 hg8 hd8)
          have hO8 : Only (fun k => vv.ownBlock = some k) w2 w8 := (Only.refl (fun k => vv.ownBlock = some k) _).grown hg8 (fun k e => .inl e)
          have hb8 := HB.out.blk.only hO8 HB.out.d2.1
          have hx8 := HXB2.out.only hO8 (fun e => HQ.out (.inr (.inr (.inl e))))
          obtain ⟨A8, d9, e8⟩ := own_formGM ho8
          subst e8
          have t8 : w8.cell? ⟨bb, 8, none⟩ = some vv := by rw [hb8.cell]; rfl
          have g8 := hb8.frozen 8
          have hHeld2 := elevM hx8
          have HX9 := Lib.hid (elevM (hx8.only ((Only.refl (· = bb) w8).setCell (p := ⟨bb, 8, none⟩) (.inl rfl) (.slice A8 (β1.g.vols.length + 1) d9)) (fun e => HQ.out (.inl e))))
          clear ho8 hg8 hd8 hb8 hO8 hx8 hb h hHeld
          refine hK' _ _ ⟨hHeld2, ?_⟩
          dsimp only [Act.put, upd, Nat.reduceAdd, Nat.reduceBEq, cond_true, cond_false, tS]
          refine tkB [14, 15, 16] ?_
          iterate 3
           refine tk (oi := ⟨some _, _, _, _, _, _⟩) (v := ?_) rfl (by kernel_rfl) (by kernel_rfl) (by kernel_rfl) (fun _ _ _ _ _ h => h) rfl (Or.inl ⟨by rfl, ?_⟩) (by assumption) ?_
           rotate_left 1
           · (intro w hSw; (try dsimp only at hSw); go_simp; try with_reducible rfl)
           simp only [Act.put, tS]
          refine tkE ?_
          refine wpAnyH_all (rs := [17]) (by kernel_rfl) (by simp) (fun i hi => ?_)
          obtain rfl : i = 17 := by simpa using hi
          refine wpOp_step (o := ⟨none, _, _, _, _, _⟩) rfl (fun K2 hK2 => ?_)
          go_simp
          refine hK2 _ _ ⟨HX9.out, ?_⟩
          refine wpAnyH_done (by kernel_rfl) ?_ _
          go_wp2_with fail
          refine bodyPost_end (results_none rfl _ _ _) rfl ?_
          exact ⟨_, .inr ⟨m, n, l, β1, hk2, hk3, hn1, hn2, HAR.out, rfl⟩, rfl, .slice A8 (β1.g.vols.length + 1) d9, _, _, HP8.out.1, HNX8.out.trans HP8.out.2⟩
end Go.Proofs.YtdkcfgahdcpkkaaDoor
