/- Merged: CSame, Fmt, Find, RFind. -/
import Derived.Test.YtfmdbmalmeimbaaDoorPTwice
import Derived.Test.YtfmdbmalmeimbaaDoorMSame
import Derived.Deep.QuietTactic
import Derived.BigQuiet
import Derived.Test.YtfmdbmalmeimbaaDoorMPrint
import Derived.Test.YtfmdbmalmeimbaaDoorPSectW
import Derived.Test.YtfmdbmalmeimbaaDoorMAwake
import Derived.Lib.SliceRun
import Derived.Deep.AppendLies
/- Same of the program: slices.Equal, slices.EqualFunc, the closure, config.Same. -/
namespace Go.Proofs.YtfmdbmalmeimbaaDoor
open Go.RowKit
set_option maxRecDepth 100000

set_option maxHeartbeats 4000000 in
theorem sequal_any {w : World} {S S' : Nat → Prop} {A A' : Option Addr} {c c' : Nat} {l m : List ByteArray} (hl : TL w S (.slice A l.length c) l) (hm : TL w S' (.slice A' m.length c') m) {b : Bool} (hb : b = true ↔ l = m) (bl : l.length < 4611686018427387904) (_bm : m.length < 4611686018427387904) :
    Calls Tryd.prog 45 #[.slice A l.length c, .slice A' m.length c'] w (Ret (.bool b) w) := by
  have HL := Lib.hid hl
  have HM := Lib.hid hm
  have HB := Lib.hid hb
  clear hl hm hb
  by_cases hlen : l.length = m.length
  · have q : ((l.length : Int) != (m.length : Int)) = false := by simp [hlen]
    have HLEN := Lib.hid hlen
    clear hlen
    go_enter Tryd.func45, Tryd.ntmps45
    go_wp2_with fail
    go_loopw [13] (fun v wr => ∃ k : Nat, k ≤ l.length ∧ v = .int .i64 (k : Int) ∧ l.take k = m.take k ∧ Below w.heap.size w wr) (fun v _ => l.length - (intOf v).toNat)
    case atStart => exact ⟨0, by omega, rfl, by simp, Below.refl _ _⟩
    case round =>
      obtain ⟨k, hk, rfl, hx, hbw⟩ := hrel
      have HX := Lib.hid hx
      have HW := Lib.hid hbw
      clear hx hbw
      by_cases hlt : k < l.length
      · have j0 : (k : Int) < (l.length : Int) := by omega
        have j1 : (0 : Int) ≤ (k : Int) := by omega
        have j2 : (k : Int) < (m.length : Int) := by have := HLEN.out; omega
        obtain ⟨ad, x, rfl, hx, had, a0⟩ := (HL.out.up HW.out).at_ hlt
        obtain ⟨ad', y, rfl, hy, had', a1⟩ := (HM.out.up HW.out).at_ (k := k) (by have := HLEN.out; omega)
        have HXX := Lib.hid hx
        have HYY := Lib.hid hy
        clear hx hy
        by_cases hxy : x = y
        · subst hxy
          have HN := Lib.hid (take_eq_next HX.out HXX.out HYY.out)
          have q2 : (x.toList != x.toList) = false := by simp
          clear HXX HYY
          go_wp2_with fail
          go_quiet (fail)
          go_wp2_with fail
          go_roundw
          case rel => exact ⟨k + 1, by omega, by go_num, HN.out, below_drewN HW.out _⟩
          case measure => simp [intOf]; omega
        · have q1 : (x.toList == y.toList) = false := by rw [bytes_beq2, decide_eq_false hxy]
          have q2 : (x.toList != y.toList) = true := by unfold bne; rw [q1]; rfl
          have HN := Lib.hid (show b = false by
            cases b with
            | false => rfl
            | true => exact absurd (HB.out.1 rfl) (fun e => hxy (by have h1 := HXX.out; rw [e, HYY.out] at h1; injection h1 with h1; exact h1.symm)))
          clear HXX HYY
          go_wp2_with fail
          go_quiet (fail)
          go_wp2_with fail
          go_ret
          exact ⟨by rw [HN.out]; rfl, below_drewN HW.out _⟩
      · obtain rfl : k = l.length := by omega
        have HE := Lib.hid (show b = true from HB.out.2 (by have := HX.out; rw [List.take_length, HLEN.out, List.take_length] at this; exact this))
        go_wp2_with fail
        go_ret
        exact ⟨by rw [HE.out]; rfl, HW.out⟩
  · have q : ((l.length : Int) != (m.length : Int)) = true := by simp; omega
    have HE := Lib.hid (show b = false from bool_false HB (fun e => hlen (congrArg List.length e)))
    go_enter Tryd.func45, Tryd.ntmps45
    go_wp2_with fail
    go_ret
    exact ⟨by rw [HE.out]; rfl, Below.refl _ _⟩
/-- the closure, given what Same does to what lies below -/
theorem same1_any {w : World} {S S' : Nat → Prop} {x y : Nd} {Ax Ay Bx By : Option Addr} {cx cy dx dy : Nat} (htl : TL w S (.slice Ax x.list.length cx) x.list) (htl' : TL w S' (.slice Ay y.list.length cy) y.list) (h1 : x.list.length ≤ 1000000) (h2 : y.list.length ≤ 1000000)
    (ih : ∀ (w' : World) (b : Bool), Below w.heap.size w w' → (b = true ↔ x.nodes = y.nodes) → Calls Tryd.prog 22 #[.slice Bx x.nodes.length dx, .slice By y.nodes.length dy] w' (Ret (.bool b) w')) {b : Bool} (hb : b = true ↔ x = y) :
    Calls Tryd.prog 44 #[.agg (ncA x (.slice Ax x.list.length cx) (.slice Bx x.nodes.length dx)), .agg (ncA y (.slice Ay y.list.length cy) (.slice By y.nodes.length dy))] w (Ret (.bool b) w) := by
  have HIH := Lib.hid ih
  have HB := Lib.hid hb
  have HTL := Lib.hid htl
  have HTL' := Lib.hid htl'
  obtain ⟨x0, k0, n0, t0, l0, c0⟩ := x
  obtain ⟨y0, k1, n1, t1, l1, c1⟩ := y
  simp only [Nd.list, Nd.nodes] at *
  unfold ncA
  simp only [Nd.name, Nd.kind, Nd.num, Nd.text]
  have hbel : ∀ o1 o2 : Obj, Below w.heap.size w ((w.alloc o1).alloc o2) := fun o1 o2 => ((Below.refl _ _).al _).al _
  have HBEL := Lib.hid hbel
  clear ih hb htl htl' hbel
  by_cases e0 : x0 = y0
  case neg =>
    have q0 : (x0.toList == y0.toList) = false := by rw [bytes_beq2, decide_eq_false e0]
    have HE := Lib.hid (show b = false from bool_false HB (fun e => e0 (by injection e)))
    clear e0
    go_enter Tryd.func44, Tryd.ntmps44
    go_wp2_with fail
    go_ret
    exact ⟨by rw [HE.out]; rfl, HBEL.out _ _⟩
  have q0 : (x0.toList == y0.toList) = true := by rw [e0]; simp
  by_cases e1 : k0 = k1
  case neg =>
    have q1 : (k0 == k1) = false := beq_eq_false_iff_ne.2 e1
    have HE := Lib.hid (show b = false from bool_false HB (fun e => e1 (by injection e)))
    clear e0 e1
    go_enter Tryd.func44, Tryd.ntmps44
    go_wp2_with fail
    go_ret
    exact ⟨by rw [HE.out]; rfl, HBEL.out _ _⟩
  have q1 : (k0 == k1) = true := by rw [e1]; simp
  by_cases e2 : n0 = n1
  case neg =>
    have q2 : (n0 == n1) = false := beq_eq_false_iff_ne.2 e2
    have HE := Lib.hid (show b = false from bool_false HB (fun e => e2 (by injection e)))
    clear e0 e1 e2
    go_enter Tryd.func44, Tryd.ntmps44
    go_wp2_with fail
    go_ret
    exact ⟨by rw [HE.out]; rfl, HBEL.out _ _⟩
  have q2 : (n0 == n1) = true := by rw [e2]; simp
  by_cases e3 : t0 = t1
  case neg =>
    have q3 : (t0.toList == t1.toList) = false := by rw [bytes_beq2, decide_eq_false e3]
    have HE := Lib.hid (show b = false from bool_false HB (fun e => e3 (by injection e)))
    clear e0 e1 e2 e3
    go_enter Tryd.func44, Tryd.ntmps44
    go_wp2_with fail
    go_ret
    exact ⟨by rw [HE.out]; rfl, HBEL.out _ _⟩
  have q3 : (t0.toList == t1.toList) = true := by rw [e3]; simp
  obtain ⟨b4, hb4⟩ : ∃ b4 : Bool, b4 = true ↔ l0 = l1 := ⟨decide _, decide_eq_true_iff⟩
  obtain ⟨b5, hb5⟩ : ∃ b5 : Bool, b5 = true ↔ c0 = c1 := ⟨@decide _ (Classical.propDecidable _), @decide_eq_true_iff _ (Classical.propDecidable _)⟩
  have HS := Lib.hid (fun o1 o2 => sequal_any (HTL.out.up (HBEL.out o1 o2)) (HTL'.out.up (HBEL.out o1 o2)) hb4 (by omega) (by omega))
  have HV := Lib.hid (show b = (b4 && b5) by
    cases hb4' : b4 with
    | false => exact bool_false HB (fun e => by rw [hb4.2 (by injection e)] at hb4'; cases hb4')
    | true =>
      cases hb5' : b5 with
      | false => exact bool_false HB (fun e => by rw [hb5.2 (by injection e)] at hb5'; cases hb5')
      | true => exact HB.out.2 (by rw [e0, e1, e2, e3, hb4.1 hb4', hb5.1 hb5']))
  have HC := Lib.hid (fun w' hw => HIH.out w' b5 hw hb5)
  clear e0 e1 e2 e3 hb4 hb5 HIH HTL HTL' HB
  go_enter Tryd.func44, Tryd.ntmps44
  go_wp2_with fail
  refine (HS.out _ _).mono ?_
  rintro e w1 ⟨rfl, hb1⟩
  have hbx := (Blk.new w 48 #[.string x0, .int .i64 k0, .int .i64 n0, .string t0, .slice Ax l0.length cx, .slice Bx c0.length dx]).alloc (.cells #[.string y0, .int .i64 k1, .int .i64 n1, .string t1, .slice Ay l1.length cy, .slice By c1.length dy] 48)
  have hby := Blk.new (w.alloc (.cells #[.string x0, .int .i64 k0, .int .i64 n0, .string t0, .slice Ax l0.length cx, .slice Bx c0.length dx] 48)) 48 #[.string y0, .int .i64 k1, .int .i64 n1, .string t1, .slice Ay l1.length cy, .slice By c1.length dy]
  rw [show (w.alloc (.cells #[.string x0, .int .i64 k0, .int .i64 n0, .string t0, .slice Ax l0.length cx, .slice Bx c0.length dx] 48)).heap.size = w.heap.size + 1 by simp] at hby
  have f5 : w1.cell? ⟨w.heap.size, 5, none⟩ = some (.slice Bx c0.length dx) := by rw [(hbx.below hb1 hbx.lt).cell]; rfl
  have g5 : w1.cell? ⟨w.heap.size + 1, 5, none⟩ = some (.slice By c1.length dy) := by rw [(hby.below hb1 hby.lt).cell]; rfl
  have HB1 := Lib.hid ((HBEL.out (.cells #[.string x0, .int .i64 k0, .int .i64 n0, .string t0, .slice Ax l0.length cx, .slice Bx c0.length dx] 48) (.cells #[.string y0, .int .i64 k1, .int .i64 n1, .string t1, .slice Ay l1.length cy, .slice By c1.length dy] 48)).next hb1)
  clear hb1 hbx hby
  cases b4 with
  | false =>
    go_wp2_with fail
    go_ret
    exact ⟨by rw [HV.out]; rfl, HB1.out⟩
  | true =>
    go_wp2_with fail
    refine (HC.out w1 HB1.out).mono ?_
    rintro e w2 ⟨rfl, hb2⟩
    have HB2 := Lib.hid (HB1.out.next hb2)
    clear hb2
    go_wp2_with fail
    go_ret
    exact ⟨by rw [HV.out]; rfl, HB2.out⟩
set_option maxHeartbeats 4000000 in
/-- EqualFunc over two rows of nodes, given the closure at each pair -/
theorem equalfunc_any {w : World} {S S' : Nat → Prop} {A A' : Option Addr} {c c' : Nat} {l m : List Nd} (hl : NL w S (.slice A l.length c) l) (hm : NL w S' (.slice A' m.length c') m) (bl : l.length ≤ 1000000) (_bm : m.length ≤ 1000000)
    (hcl : ∀ (w' : World) (k : Nat) (x y : Nd) (xl xn yl yn : Value) (b : Bool), Below w.heap.size w w' → l[k]? = some x → m[k]? = some y → TL w' S xl x.list → NL w' S xn x.nodes → TL w' S' yl y.list → NL w' S' yn y.nodes → (b = true ↔ x = y) → Calls Tryd.prog 44 #[.agg (ncA x xl xn), .agg (ncA y yl yn)] w' (Ret (.bool b) w')) {b : Bool} (hb : b = true ↔ l = m) :
    Calls Tryd.prog 43 #[.slice A l.length c, .slice A' m.length c', .func (.func 44) #[] #[]] w (Ret (.bool b) w) := by
  have HL := Lib.hid hl
  have HM := Lib.hid hm
  have HB := Lib.hid hb
  have HCL := Lib.hid hcl
  clear hl hm hb hcl
  by_cases hlen : l.length = m.length
  · have q : ((l.length : Int) != (m.length : Int)) = false := by simp [hlen]
    have HLEN := Lib.hid hlen
    clear hlen
    go_enter Tryd.func43, Tryd.ntmps43
    go_wp2_with fail
    go_loopw [17] (fun v wr => ∃ k : Nat, k ≤ l.length ∧ v = .int .i64 (k : Int) ∧ l.take k = m.take k ∧ Below w.heap.size w wr) (fun v _ => l.length - (intOf v).toNat)
    case atStart => exact ⟨0, by omega, rfl, by simp, Below.refl _ _⟩
    case round =>
      obtain ⟨k, hk, rfl, hx, hbw⟩ := hrel
      have HX := Lib.hid hx
      have HW := Lib.hid hbw
      clear hx hbw
      by_cases hlt : k < l.length
      · have j0 : (k : Int) < (l.length : Int) := by omega
        have j1 : (0 : Int) ≤ (k : Int) := by omega
        have j2 : (k : Int) < (m.length : Int) := by have := HLEN.out; omega
        obtain ⟨ad, x, xl, xn, rfl, hx, _, had, h6, htl, hnl⟩ := (HL.out.up HW.out).at_ hlt
        obtain ⟨ad', y, yl, yn, rfl, hy, _, had', h6', htl', hnl'⟩ := (HM.out.up HW.out).at_ (k := k) (by have := HLEN.out; omega)
        have HXX := Lib.hid hx
        have HYY := Lib.hid hy
        obtain ⟨Ax, cx, rfl, _⟩ := htl.form
        obtain ⟨Ay, cy, rfl, _⟩ := htl'.form
        obtain ⟨Bx, dx, rfl, _⟩ := id hnl.form
        obtain ⟨By, dy, rfl, _⟩ := id hnl'.form
        obtain ⟨bx, hbx⟩ : ∃ bx : Bool, bx = true ↔ x = y := ⟨@decide _ (Classical.propDecidable _), @decide_eq_true_iff _ (Classical.propDecidable _)⟩
        have hbl : ∀ o1 o2 : Obj, Below wr.heap.size wr ((wr.alloc o1).alloc o2) := fun o1 o2 => ((Below.refl _ _).al _).al _
        have HC := Lib.hid (fun o1 o2 => show Calls Tryd.prog 44 #[.agg (ncA x (.slice Ax x.list.length cx) (.slice Bx x.nodes.length dx)), .agg (ncA y (.slice Ay y.list.length cy) (.slice By y.nodes.length dy))] ((wr.alloc o1).alloc o2) (fun e w' => e = .returned (.bool bx) ∧ Below w.heap.size w w') from (HCL.out _ k x y _ _ _ _ bx (HW.out.next (hbl o1 o2)) hx hy (htl.up (hbl o1 o2)) (hnl.up (hbl o1 o2)) (htl'.up (hbl o1 o2)) (hnl'.up (hbl o1 o2)) hbx).mono fun _ _ h => ⟨h.1, (HW.out.next (hbl o1 o2)).next h.2⟩)
        have HBX := Lib.hid hbx
        obtain ⟨p0, p1, p2, p3, p4, p5⟩ := h6
        obtain ⟨q0, q1, q2, q3, q4, q5⟩ := h6'
        have had2 : (ad.add (k * 6)).block < wr.heap.size := by rw [block_of_add]; exact had
        have had3 : (ad'.add (k * 6)).block < wr.heap.size := by rw [block_of_add]; exact had'
        unfold ncA at HC
        clear hx hy htl htl' hnl hnl' hbx hbl
        go_wp2_with fail
        refine (HC.out _ _).mono ?_
        rintro e w5 ⟨rfl, hb5⟩
        have HB5 := Lib.hid hb5
        clear hb5 p0 p1 p2 p3 p4 p5 q0 q1 q2 q3 q4 q5 HC
        cases bx with
        | false =>
          have HE := Lib.hid (show b = false from bool_false HB (fun e => by
            have h1 := HXX.out
            rw [e, HYY.out] at h1
            injection h1 with h1
            have := HBX.out.2 h1.symm
            cases this))
          go_wp2_with fail
          go_ret
          exact ⟨by rw [HE.out]; rfl, HB5.out⟩
        | true =>
          have HN := Lib.hid (take_eq_next HX.out HXX.out (by rw [HBX.out.1 rfl]; exact HYY.out))
          go_wp2_with fail
          go_roundw
          case rel => exact ⟨k + 1, by omega, by go_num, HN.out, HB5.out⟩
          case measure => simp [intOf]; omega
      · obtain rfl : k = l.length := by omega
        have HE := Lib.hid (show b = true from HB.out.2 (by have := HX.out; rw [List.take_length, HLEN.out, List.take_length] at this; exact this))
        go_wp2_with fail
        go_ret
        exact ⟨by rw [HE.out]; rfl, HW.out⟩
  · have q : ((l.length : Int) != (m.length : Int)) = true := by simp; omega
    have HE := Lib.hid (show b = false from bool_false HB (fun e => hlen (congrArg List.length e)))
    go_enter Tryd.func43, Tryd.ntmps43
    go_wp2_with fail
    go_ret
    exact ⟨by rw [HE.out]; rfl, Below.refl _ _⟩
theorem csame_any : ∀ (N : Nat) (l m : List Nd), SizeOf.sizeOf l < N → ∀ {w : World} {S S' : Nat → Prop} {A A' : Option Addr} {c c' : Nat} {b : Bool}, NL w S (.slice A l.length c) l → NL w S' (.slice A' m.length c') m → (b = true ↔ l = m) → Small l → Small m →
    Calls Tryd.prog 22 #[.slice A l.length c, .slice A' m.length c'] w (Ret (.bool b) w) := by
  intro N
  induction N with
  | zero => intro l m h; exact absurd h (Nat.not_lt_zero _)
  | succ N ih =>
  intro l m hN w S S' A A' c c' b hl hm hb sl sm
  have HE := Lib.hid (equalfunc_any hl hm sl.len sm.len (fun w' k x y xl xn yl yn b' hbw hx hy htl hnl htl' hnl' hb' => by
    have hxm := List.mem_of_getElem? hx
    have hym := List.mem_of_getElem? hy
    obtain ⟨Ax, cx, rfl, _⟩ := htl.form
    obtain ⟨Ay, cy, rfl, _⟩ := htl'.form
    obtain ⟨Bx, dx, rfl, _⟩ := id hnl.form
    obtain ⟨By, dy, rfl, _⟩ := id hnl'.form
    exact same1_any htl htl' (sl.list hxm) (sm.list hym) (fun w2 b2 hw2 hb2 => ih x.nodes y.nodes (by have := Nd.nodes_lt_of hxm; omega) (hnl.up hw2) (hnl'.up hw2) hb2 (sl.nodes hxm) (sm.nodes hym)) hb') hb)
  clear hl hm hb sl sm ih hN
  go_enter Tryd.func22, Tryd.ntmps22
  go_wp2_with fail
  refine HE.out.mono ?_
  rintro e w1 ⟨rfl, hb1⟩
  go_wp2_with fail
  go_ret
  exact ⟨rfl, hb1⟩
end Go.Proofs.YtfmdbmalmeimbaaDoor
/- Format at every tree, the empty one too. -/
namespace Go.Proofs.YtfmdbmalmeimbaaDoor
open Go.RowKit
set_option maxRecDepth 100000

set_option maxHeartbeats 4000000 in
theorem bstring_nil {w : World} {B b : Nat} {p : Value} (h : BL w B b p (.slice none 0 0) []) : Calls Tryd.prog 36 #[.pointer (some ⟨b, 0, none⟩)] w (fun e w' => e = .returned (.string ⟨#[]⟩) ∧ Below B w w') := by
  have c1 : w.drew.cell? ⟨b, 1, none⟩ = some (.slice none 0 0) := by
    have hb := h.drew.blk
    rw [hb.cell]; rfl
  have hSD : (Builtin.unsafeSliceData_ #[63] 99 #[.slice none 0 0]).run Tryd.prog w.drew = .ok (.pointer none) w.drew := Lib.run_unsafeSliceData_nil w.drew _ _ _ _
  have hUS : (Builtin.unsafeString_ #[99, 3] 9 #[.pointer none, .int .i64 0]).run Tryd.prog w.drew = .ok (.string .empty) w.drew := Lib.run_unsafeString_none w.drew _ _ _ _
  have mixed : Tryd.prog.follows Departure.mixedOrders = true := by kernel_rfl
  clear h
  go_enter Tryd.func36, Tryd.ntmps36
  go_wp2_with fail
  go_region_o
  all_goals (go_wp2_with fail; go_ret; exact ⟨rfl, Below.drew (Below.refl B w)⟩)
theorem format_empty : formatR [] = (⟨#[]⟩, 0) := by
  have h1 : formedF 8 [] = true := by rw [formedF_eq]; rfl
  have h2 : cntL [] = 0 := by rw [cntL]
  have h3 : linesF 8 0 [] = [] := rfl
  unfold formatR
  rw [if_pos h1, h2, if_neg (by decide), h3, if_neg (by decide)]
  rfl
set_option maxHeartbeats 4000000 in
theorem format_nil {w : World} {A : Option Addr} {c : Nat} (hl : NL w (fun g => g < w.heap.size) (.slice A 0 c) []) (ht : Lib.TabIs Tryd.prog w "internal/strconv.uint64pow10" .u64 Lib.pow10Tab) :
    Calls Tryd.prog 18 #[.slice A 0 c] w (FormatRet [] w) := by
  have hfit : Fit [] := .mk [] (by simp) (by simp) (by simp) (by simp) (by simp) (by simp)
  have h1 : formedF 8 [] = true := by rw [formedF_eq]; rfl
  have h2 : cntL [] = 0 := by rw [cntL]
  have HL := Lib.hid hl
  have HT := Lib.hid ht
  have HFC := Lib.hid (show Calls Tryd.prog 33 #[.slice A 0 c, .int .i64 0, .pointer (some ⟨w.heap.size, 0, none⟩)] (w.alloc (.cells #[.int .i64 0] 3)) (FormRet (w.alloc (.cells #[.int .i64 0] 3)) w.heap.size 0 [] true) from
    formed_any 8 0 rfl (hl.up ((Below.refl _ _).al _)) (fun g hg => Nat.ne_of_lt hg) (Blk.new w 3 #[.int .i64 0]) (by omega) hfit h1)
  have HFT := Lib.hid hfit
  have H1 := Lib.hid h1
  have H2 := Lib.hid h2
  clear hl ht hfit h1 h2
  go_enter Tryd.func18, Tryd.ntmps18
  go_wp2_with fail
  refine HFC.out.mono ?_
  rintro e w1 ⟨rfl, ⟨c1, hb1, hcq⟩, ho1⟩
  have HBEL := Lib.hid (show Below w.heap.size w w1 from ((Below.refl w.heap.size w).al (.cells #[.int .i64 0] 3)).trans (ho1.below (by simp) (fun k e => by omega)))
  have hz1 : w.heap.size < w1.heap.size := hb1.lt
  have HC1 := Lib.hid (show Blk w1 w.heap.size 3 #[.int .i64 0] by have h := hb1; rw [hcq rfl, H2.out] at h; exact h)
  clear hb1 hcq ho1 HFC
  have HPC := Lib.hid (show Calls Tryd.prog 34 #[.pointer (some ⟨w1.heap.size, 0, none⟩), .slice A 0 c, .int .i64 0] (w1.alloc (.cells #[.pointer none, .slice none 0 0] 67)) (PNRet w.heap.size w1.heap.size (.pointer none) (.slice none 0 0) [] ([] ++ linesF 8 0 []) (w1.alloc (.cells #[.pointer none, .slice none 0 0] 67))) from
    pnodes_any 8 0 rfl ((HL.out.up HBEL.out).up ((Below.refl _ _).al _)) ⟨Blk.new w1 67 #[.pointer none, .slice none 0 0], World.ownsRow_nil _ _ _ _, Nat.le_of_lt hz1⟩ (.inl rfl) H1.out HFT.out (by show 0 + 0 ≤ _; omega) (by simp; omega) ((Lib.tabBelow_of_tabIs HT.out).on (HBEL.out.al _)))
  go_wp2_with fail
  refine HPC.out.mono ?_
  rintro e w2 ⟨rfl, p2, v2, h2, hp2, hf2, hv2⟩
  obtain rfl := hv2 rfl
  have hc2 := hf2.ok.2 _ _ _ (by decide) (Nat.ne_of_lt hz1) (HC1.out.alloc _)
  have c2 : w2.cell? ⟨w.heap.size, 0, none⟩ = some (.int .i64 0) := by rw [hc2.cell]; rfl
  have HBL2 := Lib.hid (show BL w2 w.heap.size w1.heap.size p2 (.slice none 0 0) [] from h2)
  have HB2 := Lib.hid (show Below w.heap.size w w2 from (HBEL.out.al _).trans hf2.below)
  have HLN := Lib.hid (show Calls Tryd.prog 35 #[.pointer (some ⟨w1.heap.size, 0, none⟩)] w2 (fun e w' => e = .returned (.int .i64 0) ∧ w' = w2) from blen_any HBL2.out)
  have HST := Lib.hid (fun W (h : BL W w.heap.size w1.heap.size p2 (.slice none 0 0) []) => bstring_nil h)
  clear h2 hp2 hf2 hc2 HPC hv2
  go_wp2_with fail
  refine HLN.out.mono ?_
  rintro e w3 ⟨rfl, rfl⟩
  go_wp2_with fail
  refine (HST.out _ HBL2.out).mono ?_
  rintro e w4 ⟨rfl, hb4⟩
  have HB4 := Lib.hid (HB2.out.trans hb4)
  clear hb4
  go_wp2_with fail
  go_ret2
  exact ⟨by rw [format_empty]; rfl, HB4.out⟩
/-- Format at every tree -/
theorem format_all {w : World} {A : Option Addr} {c : Nat} {l : List Nd} (hl : NL w (fun g => g < w.heap.size) (.slice A l.length c) l) (hfit : Fit l) (hc : cntL l ≤ 1000000) (hlen : (linesF 8 0 l).length ≤ 140737488355328) (ht : Lib.TabIs Tryd.prog w "internal/strconv.uint64pow10" .u64 Lib.pow10Tab) :
    Calls Tryd.prog 18 #[.slice A l.length c] w (FormatRet l w) := by
  by_cases h : l = []
  · subst h; exact format_nil hl ht
  · exact format_any hl hfit hc hlen ht h
end Go.Proofs.YtfmdbmalmeimbaaDoor
/- Find: plain; slices.Clone, clone, IndexFunc with Find's closure; Find of the program and of the reference. -/
namespace Go.Proofs.YtfmdbmalmeimbaaDoor
open Go.RowKit
set_option maxRecDepth 100000

theorem own_fresh (w : World) (e : TypeId) (size : Nat) : (w.alloc (.cells #[] e)).ownsRow w.heap.size e size (.slice (some ⟨w.heap.size, 0, none⟩) 0 0) 0 [] := by
  have h := World.ownsRow_lit (base := w.heap.size) (e := e) (size := size) w #[] 0 (Nat.le_refl _) (by unfold maxLen; omega) (by simp)
  exact h
theorem TL.reads {w : World} {S : Nat → Prop} {A : Option Addr} {c : Nat} {l : List ByteArray} (h : TL w S (.slice A l.length c) l) : Reads w w.heap.size 1 A l.length (l.map Value.string) := by
  obtain ⟨A', c', e, _, hh⟩ := h
  injection e with e1 e2 e3
  subst e1
  refine ⟨by simp, fun h0 => ?_⟩
  obtain ⟨ad, ea, _, hlt, hcell⟩ := hh h0
  refine ⟨ad, ea, hlt, fun j u hu => ?_⟩
  rw [List.getElem?_map] at hu
  obtain ⟨s, hs, rfl⟩ := Option.map_eq_some_iff.1 hu
  exact hcell j s hs
theorem texts_one (l : List ByteArray) : ∀ u ∈ l.map Value.string, u.oneCell' = true := by
  intro u hu
  obtain ⟨s, _, rfl⟩ := List.mem_map.1 hu
  rfl
/-- a list of texts is copied -/
def ListC (l : List ByteArray) (w : World) (e : Ending) (w' : World) : Prop := ∃ v, e = .returned v ∧ TL w' (fun g => w.heap.size ≤ g) v l ∧ Below w.heap.size w w'
set_option maxHeartbeats 1000000 in
theorem sclone_any {w : World} {S : Nat → Prop} {A : Option Addr} {c : Nat} {l : List ByteArray} (h : TL w S (.slice A l.length c) l) (hl : l.length ≤ 1000000) :
    Calls Tryd.prog 66 #[.slice A l.length c] w (ListC l w) := by
  have hrd := h.reads
  cases A with
  | none =>
    have hn : l = [] := by
      obtain ⟨A', c', e, _, hh⟩ := h
      injection e with e1 e2 e3
      cases l with
      | nil => rfl
      | cons a l =>
        obtain ⟨ad, ea, _⟩ := hh (by simp)
        rw [ea] at e1
        cases e1
    subst hn
    have hnil : ∀ w' : World, (binOp .eql 33 (.slice none 0 c) (.slice none 0 0)).run Tryd.prog w' = .ok (.bool true) w' := fun w' => Lib.run_eql_slice_nil w' 33 9 none 0 c 0 0 Tryd.underlying33
    clear h hrd
    show Calls Tryd.prog _ #[.slice none 0 c] w _
    go_enter Tryd.func66, Tryd.ntmps66
    go_wp2_with fail
    go_ret
    exact ⟨_, rfl, tl_nil _ _, Below.refl _ _⟩
  | some ad =>
    have HR := Lib.hid hrd
    clear h hrd
    have hnil : ∀ w' : World, (binOp .eql 33 (.slice (some ad) l.length c) (.slice none 0 0)).run Tryd.prog w' = .ok (.bool false) w' := fun w' => Lib.run_eql_slice_nil w' 33 9 (some ad) l.length c 0 0 Tryd.underlying33
    obtain ⟨i0, hi0, hz0, hz1, hz2⟩ := info_parts string_info
    go_enter Tryd.func66, Tryd.ntmps66
    have HRA := Lib.hid (show Reads (w.alloc (.cells #[] 9)) w.heap.size 1 (some ad) l.length (l.map Value.string) from HR.out.only (F := fun _ => False) ((Only.refl _ _).alloc _) (Nat.le_refl _) (fun _ h => h.elim))
    go_wp2_with (at_builtin; refine wpList_append_any _ rfl _ _ 33 rfl w.heap.size 9 i0 _ 1 16 Tryd.underlying33 hi0 hz0 hz1 hz2 rfl (by decide) _ 0 [] rfl (own_fresh w _ _) w.heap.size (some ad) l.length c (l.map Value.string) rfl HRA.out (texts_one l) (by unfold maxLen; omega) (by omega) (by simp) ?_; intro v' w1 hown' hgrow _)
    go_ret
    refine ⟨_, rfl, TO.tl (base := w.heap.size) ?_ (fun g hg => hg), ((Below.refl _ _).al _).grown hgrow (by simp) (fun k hk => Nat.le_of_eq (Option.some.inj hk))⟩
    show World.ownsRow _ _ _ _ _ _ _
    simpa using hown'
theorem nbx {W : World} {g : Nat} {T : TypeId} {v0 v1 v2 v3 v4 v5 : Value} (h : Blk W g T #[v0, v1, v2, v3, v4, v5]) : W.cell? ⟨g, 0, none⟩ = some v0 ∧ W.cell? ⟨g, 1, none⟩ = some v1 ∧ W.cell? ⟨g, 2, none⟩ = some v2 ∧ W.cell? ⟨g, 3, none⟩ = some v3 ∧ W.cell? ⟨g, 4, none⟩ = some v4 ∧ W.cell? ⟨g, 5, none⟩ = some v5 :=
  ⟨by rw [h.cell]; rfl, by rw [h.cell]; rfl, by rw [h.cell]; rfl, by rw [h.cell]; rfl, by rw [h.cell]; rfl, by rw [h.cell]; rfl⟩
theorem zcF {W : World} {g : Nat} {T : TypeId} (h : Blk W g T Z6) : (W.cell? ⟨g, 0, none⟩ = some (.string ⟨#[]⟩) ∧ W.cell? ⟨g, 1, none⟩ = some (.int .i64 0) ∧ W.cell? ⟨g, 2, none⟩ = some (.int .i64 0) ∧ W.cell? ⟨g, 3, none⟩ = some (.string ⟨#[]⟩) ∧ W.cell? ⟨g, 4, none⟩ = some (.slice none 0 0) ∧ W.cell? ⟨g, 5, none⟩ = some (.slice none 0 0)) ∧ (W.frozen? ⟨g, 0, none⟩ = false ∧ W.frozen? ⟨g, 1, none⟩ = false ∧ W.frozen? ⟨g, 2, none⟩ = false ∧ W.frozen? ⟨g, 3, none⟩ = false ∧ W.frozen? ⟨g, 4, none⟩ = false ∧ W.frozen? ⟨g, 5, none⟩ = false) :=
  ⟨⟨by rw [h.cell]; rfl, by rw [h.cell]; rfl, by rw [h.cell]; rfl, by rw [h.cell]; rfl, by rw [h.cell]; rfl, by rw [h.cell]; rfl⟩, h.frozen 0, h.frozen 1, h.frozen 2, h.frozen 3, h.frozen 4, h.frozen 5⟩
/-- a node is copied -/
def CloneRet (t : Nd) (w : World) (e : Ending) (w' : World) : Prop := ∃ vl vn, e = .returned (.agg (ncA t vl vn)) ∧ TL w' (fun g => w.heap.size ≤ g) vl t.list ∧ NL w' (fun g => w.heap.size ≤ g) vn t.nodes ∧ Below w.heap.size w w'
/-- clone at work: k nodes are copied -/
structure CS (w wx : World) (nm : ByteArray) (kd nu : Int) (tx : ByteArray) (vl v : Value) (ls : List ByteArray) (x : List (Nd × Value × Value)) : Prop where
  nb : Blk wx w.heap.size 48 #[.string nm, .int .i64 kd, .int .i64 nu, .string tx, vl, v]
  rb : Blk wx (w.heap.size + 1) 48 Z6
  no : NO wx (w.heap.size + 2) v x
  tl : TL wx (fun q => w.heap.size + 2 ≤ q ∧ v.ownBlock ≠ some q) vl ls
  bel : Below w.heap.size w wx
theorem CS.up {w wx w' : World} {nm : ByteArray} {kd nu : Int} {tx : ByteArray} {vl v : Value} {ls : List ByteArray} {x : List (Nd × Value × Value)} (h : CS w wx nm kd nu tx vl v ls x) (hb : Below wx.heap.size wx w') : CS w w' nm kd nu tx vl v ls x :=
  ⟨h.nb.below hb h.nb.lt, h.rb.below hb h.rb.lt, h.no.up hb, h.tl.up hb, h.bel.next hb⟩
/-- a copy is appended and stored -/
theorem CS.push {w wx w8 : World} {nm : ByteArray} {kd nu : Int} {tx : ByteArray} {vl v v' : Value} {ls : List ByteArray} {x : List (Nd × Value × Value)} {t : Nd} {ul un : Value} (h : CS w wx nm kd nu tx vl v ls x)
    (ho : w8.ownsRow (w.heap.size + 2) 48 6 v' (x.length + 1) (NC x ++ ncells t ul un)) (hg : wx.grownBy w8 v.ownBlock) (hd : v'.ownBlock = v.ownBlock ∨ v'.ownBlock = some wx.heap.size)
    (hl : TL wx (fun g => w.heap.size + 2 ≤ g ∧ v.ownBlock ≠ some g) ul t.list) (hn : NL wx (fun g => w.heap.size + 2 ≤ g ∧ v.ownBlock ≠ some g) un t.nodes) : CS w (w8.setCell ⟨w.heap.size, 5, none⟩ v') nm kd nu tx vl v' ls (x ++ [(t, ul, un)]) := by
  have hno := h.no.push ho hg hd hl hn
  have hlow : ∀ k, v.ownBlock = some k → w.heap.size + 2 ≤ k := fun k hk => (World.ownsRow.lt h.no.own k hk).1
  have hon : Only (fun k => v.ownBlock = some k) wx w8 := (Only.refl (fun k => v.ownBlock = some k) wx).grown hg (fun k e => .inl e)
  have hs : Only (· = w.heap.size) w8 (w8.setCell ⟨w.heap.size, 5, none⟩ v') := (Only.refl (· = w.heap.size) w8).setCell (p := ⟨w.heap.size, 5, none⟩) (.inl rfl) v'
  have hsz := h.bel.size
  refine ⟨(h.nb.only hon (fun e => by have := hlow _ e; omega)).set_ 5 v', (h.rb.only hon (fun e => by have := hlow _ e; omega)).only hs (by omega), hno.only hs (fun k e => by omega), ?_, (h.bel.grown hg hsz (fun k hk => by have := hlow k hk; omega)).setCell (Nat.le_refl _) v'⟩
  have h1 : TL w8 (fun q => w.heap.size + 2 ≤ q ∧ v'.ownBlock ≠ some q) vl ls := h.tl.low.keep (Kept.of_only hon (fun g hg e => hg.2.1 e)) (fun g hg => ⟨hg.1, fun e => by
    rcases hd with hd | hd
    · exact hg.2.1 (hd ▸ e)
    · rw [hd] at e
      injection e with e
      have := hg.2.2
      omega⟩)
  exact h1.keep (Kept.of_only hs (fun g hg e => by omega)) (fun _ h => h)
set_option maxHeartbeats 8000000 in
theorem clone_any : ∀ (N : Nat) (t : Nd), SizeOf.sizeOf t.nodes < N → ∀ {w : World} {S S' : Nat → Prop} {A B : Option Addr} {ca cb : Nat}, TL w S (.slice A t.list.length ca) t.list → NL w S' (.slice B t.nodes.length cb) t.nodes → t.list.length ≤ 1000000 → Small t.nodes →
    Calls Tryd.prog 48 #[.agg (ncA t (.slice A t.list.length ca) (.slice B t.nodes.length cb))] w (CloneRet t w) := by
  intro N
  induction N with
  | zero => intro t h; exact absurd h (Nat.not_lt_zero _)
  | succ N ih =>
  intro t hN w S S' A B ca cb htl hnl hls hsm
  obtain ⟨i0, hi0, hz0, hz1, hz2⟩ := info_parts node_info
  obtain ⟨nm, kd, nu, tx, ls, ns⟩ := t
  simp only [Nd.list, Nd.nodes] at *
  have hnl6 := hsm.len
  have HIH := Lib.hid (show ∀ (k : Nat) (u : Nd) (w' : World) (ul un : Value), ns[k]? = some u → Below w.heap.size w w' → TL w' S' ul u.list → NL w' S' un u.nodes → Calls Tryd.prog 48 #[.agg (ncA u ul un)] w' (CloneRet u w') from fun k u w' ul un hu hb h1 h2 => by
    have hum := List.mem_of_getElem? hu
    obtain ⟨Au, cu, rfl, _⟩ := h1.form
    obtain ⟨Bu, du, rfl, _⟩ := id h2.form
    exact ih u (Nat.lt_of_lt_of_le (Nd.nodes_lt_of hum) (Nat.le_of_lt_succ hN)) h1 h2 (hsm.list hum) (hsm.nodes hum))
  have hb0 : ∀ o1 o2 : Obj, Below w.heap.size w ((w.alloc o1).alloc o2) := fun o1 o2 => ((Below.refl _ _).al _).al _
  have HSC := Lib.hid (fun o1 o2 => sclone_any (htl.up (hb0 o1 o2)) hls)
  have HNL := Lib.hid hnl
  have HB0 := Lib.hid hb0
  clear htl hnl hsm ih hb0
  unfold ncA
  simp only [Nd.name, Nd.kind, Nd.num, Nd.text]
  go_enter Tryd.func48, Tryd.ntmps48
  go_wp2_with fail
  refine (HSC.out _ _).mono ?_
  rintro e w1 ⟨vl, rfl, htl1, hb1⟩
  have hbx := (Blk.new w 48 #[.string nm, .int .i64 kd, .int .i64 nu, .string tx, .slice A ls.length ca, .slice B ns.length cb]).alloc (.cells Z6 48)
  have hby := Blk.new (w.alloc (.cells #[.string nm, .int .i64 kd, .int .i64 nu, .string tx, .slice A ls.length ca, .slice B ns.length cb] 48)) 48 Z6
  rw [show (w.alloc (.cells #[.string nm, .int .i64 kd, .int .i64 nu, .string tx, .slice A ls.length ca, .slice B ns.length cb] 48)).heap.size = w.heap.size + 1 by simp] at hby
  have HBX := Lib.hid (hbx.below hb1 hbx.lt)
  have HBY := Lib.hid (hby.below hb1 hby.lt)
  have HTL1 := Lib.hid (show TL w1 (fun g => w.heap.size + 2 ≤ g) vl ls from htl1.mono (fun g hg => by simpa using hg))
  have HB1 := Lib.hid ((HB0.out (.cells #[.string nm, .int .i64 kd, .int .i64 nu, .string tx, .slice A ls.length ca, .slice B ns.length cb] 48) (.cells Z6 48)).next hb1)
  obtain ⟨A1, c1, rfl, _⟩ := htl1.form
  clear hbx hby hb1 htl1 HSC HB0
  obtain ⟨p0, p1, p2, p3, p4, p5⟩ := nbx HBX.out
  have f4 := HBX.out.frozen 4
  have f5 := HBX.out.frozen 5
  go_wp2_with fail
  have HCS := Lib.hid (show CS w ((w1.setCell ⟨w.heap.size, 4, none⟩ (.slice A1 ls.length c1)).setCell ⟨w.heap.size, 5, none⟩ (.slice none 0 0)) nm kd nu tx (.slice A1 ls.length c1) (.slice none 0 0) ls [] by
    have hs4 : Only (· = w.heap.size) w1 (w1.setCell ⟨w.heap.size, 4, none⟩ (.slice A1 ls.length c1)) := (Only.refl (· = w.heap.size) w1).setCell (p := ⟨w.heap.size, 4, none⟩) (.inl rfl) _
    have hs5 : Only (· = w.heap.size) w1 ((w1.setCell ⟨w.heap.size, 4, none⟩ (.slice A1 ls.length c1)).setCell ⟨w.heap.size, 5, none⟩ (.slice none 0 0)) := hs4.setCell (p := ⟨w.heap.size, 5, none⟩) (.inl rfl) _
    exact ⟨(HBX.out.set_ 4 _).set_ 5 _, HBY.out.only hs5 (by omega), ⟨World.ownsRow_nil _ _ _ _, fun k y hy => by simp at hy, fun k y hy => by simp at hy⟩, HTL1.out.keep (Kept.of_only hs5 (fun g hg e => by omega)) (fun g hg => ⟨hg, by intro h; cases h⟩), HB1.out.trans (hs5.below HB1.out.size (fun k e => by omega))⟩)
  clear p0 p1 p2 p3 p4 p5 f4 f5 HBX HBY HTL1 HB1
  go_loopw [15] (fun i wx => ∃ (k : Nat) (x : List (Nd × Value × Value)) (v : Value), k ≤ ns.length ∧ i = .int .i64 (k : Int) ∧ x.length = k ∧ x.map (·.1) = ns.take k ∧ CS w wx nm kd nu tx (.slice A1 ls.length c1) v ls x) (fun i _ => ns.length - (intOf i).toNat)
  case atStart => exact ⟨0, [], _, Nat.zero_le _, rfl, rfl, rfl, HCS.out⟩
  case round =>
    clear HCS
    obtain ⟨k, x, v, hk, rfl, hxl, hxm, hcs⟩ := hrel
    have HXL := Lib.hid hxl
    have HXM := Lib.hid hxm
    have HC := Lib.hid hcs
    obtain ⟨p0, p1, p2, p3, p4, p5⟩ := nbx hcs.nb
    have f5 := hcs.nb.frozen 5
    have hwr := hcs.rb.lt
    clear hxl hxm hcs
    by_cases hlt : k < ns.length
    · have z0 : (k : Int) < (ns.length : Int) := by omega
      have z1 : (0 : Int) ≤ (k : Int) := by omega
      obtain ⟨ad, u, ul, un, rfl, hu, _, had, h6, htl, hnl⟩ := (HNL.out.up HC.out.bel).at_ hlt
      obtain ⟨Au, cu, rfl, _⟩ := htl.form
      obtain ⟨Bu, du, rfl, _⟩ := id hnl.form
      have HU := Lib.hid hu
      have had2 : (ad.add (k * 6)).block < wr.heap.size := by rw [block_of_add]; exact had
      obtain ⟨r0, r1, r2, r3, r4, r5⟩ := h6
      obtain ⟨cs, hcs⟩ : ∃ cs : Array Value, cs = ncA u (.slice Au u.list.length cu) (.slice Bu u.nodes.length du) := ⟨_, rfl⟩
      have hbl := ((Below.refl wr.heap.size wr).al (.cells cs 48)).drew
      have HCL := Lib.hid (HIH.out k u _ _ _ hu (HC.out.bel.next hbl) (htl.up hbl) (hnl.up hbl))
      have HC2 := Lib.hid (HC.out.up hbl)
      subst hcs
      unfold ncA at HCL HC2
      clear hu htl hnl hbl
      have hkx : x.length ≤ 1000000 := by have := HXL.out; omega
      obtain ⟨Av, cv, ev⟩ := HC.out.no.form
      have HEV := Lib.hid ev
      clear ev
      have q5 : (wr.alloc (.cells #[.string u.name, .int .i64 u.kind, .int .i64 u.num, .string u.text, .slice Au u.list.length cu, .slice Bu u.nodes.length du] 48)).cell? ⟨w.heap.size, 5, none⟩ = some v := (nbx HC2.out.nb).2.2.2.2.2
      go_wp2_with fail
      go_region_law (first
        | (go_simp; go_at_call 48; refine HCL.out.mono ?_; rintro e w5 ⟨vl5, vn5, rfl, htl5, hnl5, hb5⟩; obtain ⟨A5, c5, rfl, _⟩ := htl5.form; obtain ⟨B5, d5, rfl, _⟩ := id hnl5.form; have HC5 := Lib.hid (HC2.out.up hb5); have HTL5 := Lib.hid (htl5.up ((Below.refl _ _).al (.cells (ncA u (.slice A5 u.list.length c5) (.slice B5 u.nodes.length d5)) 48))); have HNL5 := Lib.hid (hnl5.up ((Below.refl _ _).al (.cells (ncA u (.slice A5 u.list.length c5) (.slice B5 u.nodes.length d5)) 48))); have t5 := (nbx HC5.out.nb).2.2.2.2.2; have HC6 := Lib.hid (HC5.out.up ((Below.refl _ _).al (.cells (ncA u (.slice A5 u.list.length c5) (.slice B5 u.nodes.length d5)) 48))); have t6 : (w5.alloc (.cells #[.string u.name, .int .i64 u.kind, .int .i64 u.num, .string u.text, .slice A5 u.list.length c5, .slice B5 u.nodes.length d5] 48)).cell? ⟨w.heap.size, 5, none⟩ = some v := (nbx HC6.out.nb).2.2.2.2.2; have HLW := Lib.hid (show ∀ k, v.ownBlock = some k → k < wr.heap.size from fun k hk => (World.ownsRow.lt HC.out.no.own k hk).2); clear htl5 hnl5 hb5; unfold ncA; skip)
        | (refine step_append_any _ rfl (.tmp 20) (.tmp 23) 30 rfl (w.heap.size + 2) 48 i0 _ 6 96 Tryd.underlying30 hi0 hz0 hz1 hz2 rfl (by decide) v x.length (NC x) (by simp [Act.eval]) HC6.out.no.own _ (some ⟨w5.heap.size, 0, none⟩) 1 1 (ncells u (.slice A5 u.list.length c5) (.slice B5 u.nodes.length d5)) (by simp [Act.eval]) (reads_node u _ _ rfl) (ncells_one rfl rfl) (by unfold maxLen; omega) (by omega) (by exact HC6.out.rb.lt) ?_; intro v8 w8 ho8 hg8 hd8; have HP8 := Lib.hid (HC6.out.push ho8 hg8 hd8 (HTL5.out.mono (fun g hg => ⟨by simp at hg; omega, fun e => by have := HLW.out g e; simp at hg; omega⟩)) (HNL5.out.mono (fun g hg => ⟨by simp at hg; omega, fun e => by have := HLW.out g e; simp at hg; omega⟩))); have HB8 := Lib.hid (HC6.out.nb.only ((Only.refl (fun k => v.ownBlock = some k) _).grown hg8 (fun k e => .inl e)) (fun e => by have := (World.ownsRow.lt HC6.out.no.own _ e).1; omega)); obtain ⟨A8, d8, e8⟩ := own_form ho8; subst e8; have t8 := (nbx HB8.out).2.2.2.2.2; have g8 := HB8.out.frozen 5; clear ho8 hg8 hd8; skip))
      all_goals
        go_wp2_with fail
        go_roundw
        case rel => exact ⟨k + 1, x ++ [(u, .slice A5 u.list.length c5, .slice B5 u.nodes.length d5)], _, by omega, by go_num, by rw [List.length_append, HXL.out]; rfl, by
          rw [List.map_append, HXM.out]
          obtain ⟨hk', e'⟩ := List.getElem?_eq_some_iff.1 HU.out
          rw [List.take_succ_eq_append_getElem hk', e']
          rfl, HP8.out⟩
        case measure => simp [intOf]; omega
    · obtain rfl : k = ns.length := by omega
      have hxm := HXM.out
      rw [List.take_length] at hxm
      have HX2 := Lib.hid hxm
      obtain ⟨Av, cv, ev⟩ := HC.out.no.form
      subst ev
      have HNLX := Lib.hid (show NL wr (fun g => w.heap.size + 2 ≤ g) (.slice Av x.length cv) ns by have h := HC.out.no.nl; rw [HX2.out] at h; exact h)
      obtain ⟨⟨z0, z1, z2, z3, z4, z5⟩, y0, y1, y2, y3, y4, y5⟩ := zcF HC.out.rb
      clear hxm hlt
      go_wp2_with fail
      have HRB := Lib.hid (show Blk (put6 wr (w.heap.size + 1) (.string nm) (.int .i64 kd) (.int .i64 nu) (.string tx) (.slice A1 ls.length c1) (.slice Av x.length cv)) (w.heap.size + 1) 48 #[.string nm, .int .i64 kd, .int .i64 nu, .string tx, .slice A1 ls.length c1, .slice Av x.length cv] from put6_blk HC.out.rb)
      have HON := Lib.hid (put6_only wr (w.heap.size + 1) (.string nm) (.int .i64 kd) (.int .i64 nu) (.string tx) (.slice A1 ls.length c1) (.slice Av x.length cv))
      refine bodyPost_ret (results_cell_row rfl _ _ (w.heap.size + 1) 48 #[.string nm, .int .i64 kd, .int .i64 nu, .string tx, .slice A1 ls.length c1, .slice Av x.length cv] (0, 0) _ rfl HRB.out Tryd.underlying48 rfl (by kernel_rfl)) rfl ⟨_, _, rfl, ?_, ?_, ?_⟩
      · exact HC.out.tl.keep (Kept.of_only HON.out (fun g hg e => by omega)) (fun g hg => by have := hg.1; omega)
      · exact HNLX.out.keep (Kept.of_only HON.out (fun g hg e => by omega)) (fun g hg => by omega)
      · exact HC.out.bel.trans (HON.out.below HC.out.bel.size (fun k e => by omega))
/-! Find, in plain mathematics. -/
def nd0 : Nd := .mk ⟨#[]⟩ 0 0 ⟨#[]⟩ [] []
def findR : List ByteArray → List Nd → Option Nd
  | [], _ => none
  | p :: ps, l => match l.findIdx? (isN p) with
    | none => none
    | some k => if ps.length = 0 then some (l.getD k nd0) else if (l.getD k nd0).kind = 4 then findR ps (l.getD k nd0).nodes else none
/-- behind a node that was found -/
def contR (t : Nd) (ps : List ByteArray) : Option Nd := if ps.length = 0 then some t else if t.kind = 4 then findR ps t.nodes else none
theorem findR_some {p : ByteArray} {ps : List ByteArray} {l : List Nd} {k : Nat} {t : Nd} (h : l.findIdx? (isN p) = some k) (ht : l[k]? = some t) : findR (p :: ps) l = contR t ps := by
  rw [findR, h]
  have e : l.getD k nd0 = t := by rw [List.getD_eq_getElem?_getD, ht]; rfl
  simp only [e]
  rfl
theorem findR_none {p : ByteArray} {ps : List ByteArray} {l : List Nd} (h : l.findIdx? (isN p) = none) : findR (p :: ps) l = none := by rw [findR, h]
/-- a call of Find -/
def FindRet (o : Option Nd) (w : World) (e : Ending) (w' : World) : Prop := ∃ vl vn, e = .returned (.tuple #[.agg (ncA (o.getD nd0) vl vn), .bool o.isSome]) ∧ TL w' (fun g => g < w'.heap.size) vl (o.getD nd0).list ∧ NL w' (fun g => g < w'.heap.size) vn (o.getD nd0).nodes ∧ Below w.heap.size w w'
theorem tl_in {w : World} {S : Nat → Prop} {v : Value} {l : List ByteArray} (h : TL w S v l) : TL w (fun g => g < w.heap.size) v l :=
  ((h.mono (fun _ hg => And.intro hg trivial)).low (Q := fun _ => True)).mono (fun _ hg => hg.2.2)
theorem find1_any {t : Nd} {vl vn : Value} {gs : Nat} {s : ByteArray} {w : World} (hb : w.cell? ⟨gs, 0, none⟩ = some (.string s)) {q : Bool} (hq : isN s t = q) :
    Calls Tryd.prog 47 #[.agg (ncA t vl vn), .pointer (some ⟨gs, 0, none⟩)] w (Ret (.bool q) w) := by
  have hlt : gs < w.heap.size := block_lt_of_cell hb
  have hq' : (t.name.toList == s.toList) = q := by rw [bytes_beq]; exact hq
  unfold ncA
  generalize t.name = nm at *
  clear hq
  go_enter Tryd.func47, Tryd.ntmps47
  go_wp2_with fail
  go_ret
  exact ⟨rfl, (Below.refl _ _).al _⟩
set_option maxHeartbeats 4000000 in
theorem index_find {A : Option Addr} {c gs : Nat} {l : List Nd} {s : ByteArray} {S : Nat → Prop} {w : World} (hr : NL w S (.slice A l.length c) l) (hl : l.length ≤ 1000000) (hb : w.cell? ⟨gs, 0, none⟩ = some (.string s)) {i : Int} (hi : optI (l.findIdx? (isN s)) = i) :
    Calls Tryd.prog 46 #[.slice A l.length c, .func (.func 47) #[] #[.pointer (some ⟨gs, 0, none⟩)]] w (Ret (.int .i64 i) w) := by
  have HR := Lib.hid hr
  have HI := Lib.hid hi
  have HCB := Lib.hid hb
  have hlt0 : gs < w.heap.size := block_lt_of_cell hb
  clear hr hi hb
  go_enter Tryd.func46, Tryd.ntmps46
  go_wp2_with fail
  go_loopw [8] (fun v wr => ∃ k : Nat, k ≤ l.length ∧ v = .int .i64 (k : Int) ∧ (∀ x ∈ l.take k, isN s x = false) ∧ Below w.heap.size w wr) (fun v _ => l.length - (intOf v).toNat)
  case atStart => exact ⟨0, by omega, rfl, by simp, Below.refl _ _⟩
  case round =>
    obtain ⟨k, hk, rfl, hx, hbw⟩ := hrel
    have HX := Lib.hid hx
    have HB := Lib.hid hbw
    clear hx hbw
    by_cases hlt : k < l.length
    · have j0 : (k : Int) < (l.length : Int) := by omega
      have j1 : (0 : Int) ≤ (k : Int) := by omega
      obtain ⟨ad, t, vl, vn, rfl, ht, _, had, h6, _, _⟩ := (HR.out.up HB.out).at_ hlt
      have HT := Lib.hid ht
      have HC1 := Lib.hid (show wr.cell? ⟨gs, 0, none⟩ = some (.string s) from (HB.out.cell (p := ⟨gs, 0, none⟩) hlt0).trans HCB.out)
      obtain ⟨a0, a1, a2, a3, a4, a5⟩ := h6
      clear ht
      obtain ⟨q, hq⟩ : ∃ q, isN s t = q := ⟨_, rfl⟩
      have HQ := Lib.hid (find1_any (vl := vl) (vn := vn) HC1.out hq)
      unfold ncA at HQ
      cases q with
      | false =>
        have HN := Lib.hid (none_next HT.out HX.out hq)
        clear hq
        go_wp2_with fail
        refine HQ.out.mono ?_
        rintro e w5 ⟨rfl, hb5⟩
        have HB5 := Lib.hid (HB.out.next hb5)
        clear hb5 a0 a1 a2 a3 a4 a5
        go_wp2_with fail
        go_roundw
        case rel => exact ⟨k + 1, by omega, by go_num, HN.out, HB5.out⟩
        case measure => simp [intOf]; omega
      | true =>
        have HE := Lib.hid (show i = (k : Int) by rw [← HI.out, findIdx_at HT.out HX.out hq]; rfl)
        clear hq
        go_wp2_with fail
        refine HQ.out.mono ?_
        rintro e w5 ⟨rfl, hb5⟩
        have HB5 := Lib.hid (HB.out.next hb5)
        clear hb5 a0 a1 a2 a3 a4 a5
        go_wp2_with fail
        go_ret
        exact ⟨by rw [HE.out]; rfl, HB5.out⟩
    · obtain rfl : k = l.length := by omega
      have HE := Lib.hid (show i = -1 by rw [← HI.out, List.findIdx?_eq_none_iff.2 (by have := HX.out; rw [List.take_length] at this; exact this)]; rfl)
      go_wp2_with fail
      go_ret
      exact ⟨by rw [HE.out]; rfl, HB.out⟩
/-- Find at work: what lies in memory -/
structure FQ (w wr : World) (t : Nd) (vl vn : Value) : Prop where
  rb : Blk wr w.heap.size 48 Z6
  fb : Blk wr (w.heap.size + 1) 48 (ncA t vl vn)
  tl : TL wr (fun g => g < w.heap.size) vl t.list
  nl : NL wr (fun g => g < w.heap.size) vn t.nodes
  bel : Below w.heap.size w wr
theorem FQ.up {w wr w' : World} {t : Nd} {vl vn : Value} (h : FQ w wr t vl vn) (hb : Below wr.heap.size wr w') : FQ w w' t vl vn := ⟨h.rb.below hb h.rb.lt, h.fb.below hb h.fb.lt, h.tl.up hb, h.nl.up hb, h.bel.next hb⟩
/-- what is found is stored -/
theorem FQ.put {w wr : World} {t u : Nd} {vl vn ul un : Value} (h : FQ w wr t vl vn) (h1 : TL wr (fun g => g < w.heap.size) ul u.list) (h2 : NL wr (fun g => g < w.heap.size) un u.nodes) :
    FQ w (put6 wr (w.heap.size + 1) (.string u.name) (.int .i64 u.kind) (.int .i64 u.num) (.string u.text) ul un) u ul un := by
  have ho := put6_only wr (w.heap.size + 1) (.string u.name) (.int .i64 u.kind) (.int .i64 u.num) (.string u.text) ul un
  have hk : Kept (fun g => g < w.heap.size) wr (put6 wr (w.heap.size + 1) (.string u.name) (.int .i64 u.kind) (.int .i64 u.num) (.string u.text) ul un) := Kept.of_only ho (fun g hg e => by omega)
  exact ⟨h.rb.only ho (by omega), put6_blk (x0 := .string t.name) (x1 := .int .i64 t.kind) (x2 := .int .i64 t.num) (x3 := .string t.text) (x4 := vl) (x5 := vn) h.fb, h1.keep hk (fun _ h => h), h2.keep hk (fun _ h => h), h.bel.trans (ho.below h.bel.size (fun k e => by omega))⟩
theorem nl_nil (w : World) (S : Nat → Prop) : NL w S (.slice none 0 0) [] := .nil _ _
set_option maxHeartbeats 16000000 in
theorem cfind_any {w : World} {S S' : Nat → Prop} {A B : Option Addr} {ca cb : Nat} {l : List Nd} {path : List ByteArray} (hl : NL w S (.slice A l.length ca) l) (hp : TL w S' (.slice B path.length cb) path) (hsm : Small l) (hpl : path.length ≤ 1000000) :
    Calls Tryd.prog 23 #[.slice A l.length ca, .slice B path.length cb] w (FindRet (findR path l) w) := by
  have HL := Lib.hid (nl_in hl)
  have HP := Lib.hid hp
  have HSM := Lib.hid hsm
  have hll := hsm.len
  clear hl hp hsm
  go_enter Tryd.func23, Tryd.ntmps23
  go_wp2_with fail
  have HF0 := Lib.hid (show FQ w ((w.alloc (.cells Z6 48)).alloc (.cells Z6 48)) nd0 (.slice none 0 0) (.slice none 0 0) from
    ⟨(Blk.new w 48 Z6).alloc _, by
      have h := Blk.new (w.alloc (.cells Z6 48)) 48 Z6
      rw [show (w.alloc (.cells Z6 48)).heap.size = w.heap.size + 1 by simp] at h
      exact h, tl_nil _ _, nl_nil _ _, ((Below.refl _ _).al _).al _⟩)
  go_loopw [0, 12] (fun v i wr => ∃ (k : Nat) (t : Nd) (vl vn : Value), k ≤ path.length ∧ i = .int .i64 (k : Int) ∧ FQ w wr t vl vn ∧ Small t.nodes ∧ t.list.length ≤ 1000000 ∧ (k = 0 → v = .slice A l.length ca ∧ t = nd0) ∧ (0 < k → findR path l = contR t (path.drop k))) (fun _ i _ => path.length - (intOf i).toNat)
  case atStart => exact ⟨0, nd0, _, _, Nat.zero_le _, rfl, HF0.out, Small.nil, Nat.zero_le _, fun _ => ⟨rfl, rfl⟩, fun h => absurd h (Nat.lt_irrefl _)⟩
  case round =>
    clear HF0
    obtain ⟨k, t, vl, vn, hk, rfl, hfs, hst, htl, hk0, hk1⟩ := hrel
    have HFS := Lib.hid hfs
    have HST := Lib.hid hst
    have HK0 := Lib.hid hk0
    have HK1 := Lib.hid hk1
    have hwr := hfs.fb.lt
    obtain ⟨At, ct, rfl, _⟩ := hfs.tl.form
    obtain ⟨Bt, dt, rfl, _⟩ := id hfs.nl.form
    have hfb := hfs.fb
    unfold ncA at hfb
    obtain ⟨p0, p1, p2, p3, p4, p5⟩ := nbx hfb
    have g0 := hfb.frozen 0
    have g1 := hfb.frozen 1
    have g2 := hfb.frozen 2
    have g3 := hfb.frozen 3
    have g4 := hfb.frozen 4
    have g5 := hfb.frozen 5
    obtain ⟨⟨z0, z1, z2, z3, z4, z5⟩, y0, y1, y2, y3, y4, y5⟩ := zcF hfs.rb
    clear hfs hst hk0 hk1 hfb
    by_cases hlt : k < path.length
    case neg =>
      obtain rfl : k = path.length := by omega
      clear z0 z1 z2 z3 z4 z5 y0 y1 y2 y3 y4 y5 g0 g1 g2 g3 g4 g5
      have HCL := Lib.hid (clone_any _ t (Nat.lt_succ_self _) HFS.out.tl HFS.out.nl htl HST.out)
      unfold ncA at HCL
      have HE := Lib.hid (show (findR path l).getD nd0 = t ∧ (findR path l).isSome = decide (0 < path.length) by
        by_cases h0 : path.length = 0
        · have : path = [] := List.eq_nil_of_length_eq_zero h0
          rw [this]
          exact ⟨(HK0.out h0).2.symm, rfl⟩
        · rw [HK1.out (by omega), List.drop_length]
          exact ⟨rfl, by rw [decide_eq_true (by omega)]; rfl⟩)
      obtain ⟨b, hb⟩ : ∃ b, decide (0 < path.length) = b := ⟨_, rfl⟩
      have hb2 : decide ((0 : Int) < (path.length : Int)) = b := by rw [← hb]; by_cases h : 0 < path.length <;> simp [h]
      have HBB := Lib.hid hb
      clear hb
      go_wp2_with fail
      refine HCL.out.mono ?_
      rintro e w5 ⟨vl5, vn5, rfl, htl5, hnl5, hb5⟩
      have HF5 := Lib.hid (HFS.out.up hb5)
      obtain ⟨A5, c5, rfl, _⟩ := htl5.form
      obtain ⟨B5, d5, rfl, _⟩ := id hnl5.form
      have hwr5 := HF5.out.fb.lt
      have HTL5 := Lib.hid (show TL w5 (fun g => w.heap.size + 2 ≤ g) (.slice A5 t.list.length c5) t.list from htl5.mono (fun g hg => by omega))
      have HNL5 := Lib.hid (show NL w5 (fun g => w.heap.size + 2 ≤ g) (.slice B5 t.nodes.length d5) t.nodes from hnl5.mono (fun g hg => by omega))
      obtain ⟨⟨z0, z1, z2, z3, z4, z5⟩, y0, y1, y2, y3, y4, y5⟩ := zcF HF5.out.rb
      clear htl5 hnl5 hb5 p0 p1 p2 p3 p4 p5 HCL
      unfold ncA
      go_wp2_with fail
      have HRB := Lib.hid (show Blk (put6 w5 w.heap.size (.string t.name) (.int .i64 t.kind) (.int .i64 t.num) (.string t.text) (.slice A5 t.list.length c5) (.slice B5 t.nodes.length d5)) w.heap.size 48 (ncA t (.slice A5 t.list.length c5) (.slice B5 t.nodes.length d5)) from put6_blk HF5.out.rb)
      have HON := Lib.hid (put6_only w5 w.heap.size (.string t.name) (.int .i64 t.kind) (.int .i64 t.num) (.string t.text) (.slice A5 t.list.length c5) (.slice B5 t.nodes.length d5))
      have HTX := Lib.hid (tl_in (HTL5.out.keep (S' := fun g => w.heap.size + 2 ≤ g) (Kept.of_only HON.out (fun g hg e => by omega)) (fun g hg => hg)))
      have HNX := Lib.hid (nl_in (HNL5.out.keep (S' := fun g => w.heap.size + 2 ≤ g) (Kept.of_only HON.out (fun g hg e => by omega)) (fun g hg => hg)))
      have HBX := Lib.hid (HF5.out.bel.trans (HON.out.below HF5.out.bel.size (fun k e => by omega)))
      refine bodyPost_ret (results_cell_tmp rfl _ _ w.heap.size 48 (ncA t (.slice A5 t.list.length c5) (.slice B5 t.nodes.length d5)) _ rfl HRB.out Tryd.underlying48 rfl (by kernel_rfl)) rfl ?_
      unfold FindRet
      rw [HE.out.1, HE.out.2, HBB.out]
      exact ⟨_, _, rfl, HTX.out, HNX.out, HBX.out⟩
    have x0 : (k : Int) < (path.length : Int) := by omega
    have x1 : (0 : Int) ≤ (k : Int) := by omega
    obtain ⟨adp, s, rfl, hs, hadp, a0⟩ := (HP.out.up HFS.out.bel).at_ hlt
    have hdr : path.drop k = s :: path.drop (k + 1) := by
      obtain ⟨hk', e'⟩ := List.getElem?_eq_some_iff.1 hs
      rw [List.drop_eq_getElem_cons hk', e']
    have HDR := Lib.hid hdr
    have had2 : (adp.add k).block < wr.heap.size := by rw [block_of_add]; exact hadp
    have hbl := (Below.refl wr.heap.size wr).al (.cells #[.string s] 9)
    have HF1 := Lib.hid (HFS.out.up hbl)
    have HSC := Lib.hid (show (wr.alloc (.cells #[.string s] 9)).cell? ⟨wr.heap.size, 0, none⟩ = some (.string s) by rw [(Blk.new wr 9 #[.string s]).cell]; rfl)
    have HNONE := Lib.hid (show ∀ W', Blk W' w.heap.size 48 Z6 → Below w.heap.size w W' → findR path l = none → FindRet (findR path l) w (.returned (.tuple #[.agg Z6, .bool false])) W' from fun W' _ hb he => by
      rw [he]
      exact ⟨.slice none 0 0, .slice none 0 0, rfl, tl_nil _ _, nl_nil _ _, hb⟩)
    clear hs hdr hbl
    by_cases h0 : k = 0
    · have x5 : ¬ (0 : Int) < (k : Int) := by omega
      obtain ⟨hv, _⟩ := HK0.out h0
      subst hv
      have HLC := Lib.hid (HL.out.up HF1.out.bel)
      have HFR := Lib.hid (show findR path l = findR (s :: path.drop (k + 1)) l by rw [← HDR.out, h0, List.drop_zero])
      have HLS := Lib.hid HSM.out
      clear h0
      have hlen : l.length ≤ 1000000 := HLS.out.len
      obtain ⟨ix, hix⟩ : ∃ ix, l.findIdx? (isN s) = ix := ⟨_, rfl⟩
      have HIX := Lib.hid (show Calls Tryd.prog 46 #[.slice A l.length ca, .func (.func 47) #[] #[.pointer (some ⟨wr.heap.size, 0, none⟩)]] (wr.alloc (.cells #[.string s] 9)) (Ret (.int .i64 (optI ix)) (wr.alloc (.cells #[.string s] 9))) by rw [← hix]; exact index_find HLC.out hlen HSC.out rfl)
      have HIE := Lib.hid hix
      clear hix
      go_wp2_with fail
      refine HIX.out.mono ?_
      rintro e w5 ⟨rfl, hb5⟩
      have HF5 := Lib.hid (HF1.out.up hb5)
      have HL5 := Lib.hid (HLC.out.up hb5)
      have hwr5 := HF5.out.fb.lt
      clear hb5 p0 p1 p2 p3 p4 p5 g0 g1 g2 g3 g4 g5 z0 z1 z2 z3 z4 z5 y0 y1 y2 y3 y4 y5 HIX
      cases ix with
      | none =>
        have HE := Lib.hid (show findR path l = none from HFR.out.trans (findR_none HIE.out))
        have o1 : optI none = -1 := rfl
        obtain ⟨⟨z0, z1, z2, z3, z4, z5⟩, y0, y1, y2, y3, y4, y5⟩ := zcF HF5.out.rb
        go_wp2_with fail
        have HRB := Lib.hid (show Blk (put6 w5 w.heap.size (.string ⟨#[]⟩) (.int .i64 0) (.int .i64 0) (.string ⟨#[]⟩) (.slice none 0 0) (.slice none 0 0)) w.heap.size 48 Z6 from put6_blk HF5.out.rb)
        have HON := Lib.hid (put6_only w5 w.heap.size (.string ⟨#[]⟩) (.int .i64 0) (.int .i64 0) (.string ⟨#[]⟩) (.slice none 0 0) (.slice none 0 0))
        refine bodyPost_ret (results_cell_tmp rfl _ _ w.heap.size 48 Z6 _ rfl HRB.out Tryd.underlying48 rfl (by kernel_rfl)) rfl ?_
        exact (HNONE.out _ HRB.out (HF5.out.bel.trans (HON.out.below HF5.out.bel.size (fun k e => by omega))) HE.out)
      | some j =>
        obtain ⟨hj, _, _⟩ := List.findIdx?_eq_some_iff_getElem.1 HIE.out
        have o1 : optI (some j) = (j : Int) := rfl
        have x2 : ¬ (j : Int) < 0 := by omega
        have x3 : (0 : Int) ≤ (j : Int) := by omega
        have x4 : (j : Int) < (l.length : Int) := by omega
        obtain ⟨adl, u, ul, un, rfl, hu, _, hadl, h6, htl6, hnl6⟩ := HL5.out.at_ hj
        have hum := List.mem_of_getElem? hu
        have HU := Lib.hid (HFR.out.trans (findR_some HIE.out hu))
        have HUS := Lib.hid (And.intro (HLS.out.nodes hum) (HLS.out.list hum))
        have HFP := Lib.hid (HF5.out.put htl6 hnl6)
        obtain ⟨Au, cu, rfl, _⟩ := htl6.form
        obtain ⟨Bu, du, rfl, _⟩ := id hnl6.form
        obtain ⟨r0, r1, r2, r3, r4, r5⟩ := h6
        have hadl2 : (adl.add (j * 6)).block < w5.heap.size := by rw [block_of_add]; exact hadl
        have hfb := HF5.out.fb
        unfold ncA at hfb
        obtain ⟨q0, q1, q2, q3, q4, q5⟩ := nbx hfb
        have g0 := hfb.frozen 0
        have g1 := hfb.frozen 1
        have g2 := hfb.frozen 2
        have g3 := hfb.frozen 3
        have g4 := hfb.frozen 4
        have g5 := hfb.frozen 5
        clear hfb hu hum htl6 hnl6
        go_wp2_with fail
        go_roundw
        case rel => exact ⟨k + 1, u, _, _, by omega, by go_num, HFP.out, HUS.out.1, HUS.out.2, (fun h => by omega), fun _ => HU.out⟩
        case measure => simp [intOf]; omega
    · have x5 : (0 : Int) < (k : Int) := by omega
      have HC := Lib.hid (show findR path l = if t.kind = 4 then findR (s :: path.drop (k + 1)) t.nodes else none by
        rw [HK1.out (by omega), HDR.out]
        unfold contR
        rw [if_neg (by rw [List.length_cons]; omega)])
      by_cases h4 : t.kind = 4
      case neg =>
        have x6 : (t.kind != 4) = true := bne_iff_ne.2 h4
        have HE := Lib.hid (show findR path l = none by rw [HC.out, if_neg h4])
        have hfb1 := HF1.out.fb
        unfold ncA at hfb1
        have p1x := (nbx hfb1).2.1
        obtain ⟨⟨u0, u1, u2, u3, u4, u5⟩, v0, v1, v2, v3, v4, v5⟩ := zcF HF1.out.rb
        clear h4 h0 hfb1
        go_wp2_with fail
        have HRB := Lib.hid (show Blk (put6 (wr.alloc (.cells #[.string s] 9)) w.heap.size (.string ⟨#[]⟩) (.int .i64 0) (.int .i64 0) (.string ⟨#[]⟩) (.slice none 0 0) (.slice none 0 0)) w.heap.size 48 Z6 from put6_blk HF1.out.rb)
        have HON := Lib.hid (put6_only (wr.alloc (.cells #[.string s] 9)) w.heap.size (.string ⟨#[]⟩) (.int .i64 0) (.int .i64 0) (.string ⟨#[]⟩) (.slice none 0 0) (.slice none 0 0))
        refine bodyPost_ret (results_cell_tmp rfl _ _ w.heap.size 48 Z6 _ rfl HRB.out Tryd.underlying48 rfl (by kernel_rfl)) rfl ?_
        exact (HNONE.out _ HRB.out (HF1.out.bel.trans (HON.out.below HF1.out.bel.size (fun k e => by omega))) HE.out)
      have x6 : (t.kind != 4) = false := by rw [h4]; rfl
      have HFR := Lib.hid (show findR path l = findR (s :: path.drop (k + 1)) t.nodes by rw [HC.out, if_pos h4])
      have HLC := Lib.hid HF1.out.nl
      have HLS := Lib.hid HST.out
      clear h4 h0
      have hlen : t.nodes.length ≤ 1000000 := HLS.out.len
      obtain ⟨ix, hix⟩ : ∃ ix, t.nodes.findIdx? (isN s) = ix := ⟨_, rfl⟩
      have HIX := Lib.hid (show Calls Tryd.prog 46 #[.slice Bt t.nodes.length dt, .func (.func 47) #[] #[.pointer (some ⟨wr.heap.size, 0, none⟩)]] (wr.alloc (.cells #[.string s] 9)) (Ret (.int .i64 (optI ix)) (wr.alloc (.cells #[.string s] 9))) by rw [← hix]; exact index_find HLC.out hlen HSC.out rfl)
      have HIE := Lib.hid hix
      clear hix
      go_wp2_with fail
      refine HIX.out.mono ?_
      rintro e w5 ⟨rfl, hb5⟩
      have HF5 := Lib.hid (HF1.out.up hb5)
      have HL5 := Lib.hid (HLC.out.up hb5)
      have hwr5 := HF5.out.fb.lt
      clear hb5 p0 p1 p2 p3 p4 p5 g0 g1 g2 g3 g4 g5 z0 z1 z2 z3 z4 z5 y0 y1 y2 y3 y4 y5 HIX
      cases ix with
      | none =>
        have HE := Lib.hid (show findR path l = none from HFR.out.trans (findR_none HIE.out))
        have o1 : optI none = -1 := rfl
        obtain ⟨⟨z0, z1, z2, z3, z4, z5⟩, y0, y1, y2, y3, y4, y5⟩ := zcF HF5.out.rb
        go_wp2_with fail
        have HRB := Lib.hid (show Blk (put6 w5 w.heap.size (.string ⟨#[]⟩) (.int .i64 0) (.int .i64 0) (.string ⟨#[]⟩) (.slice none 0 0) (.slice none 0 0)) w.heap.size 48 Z6 from put6_blk HF5.out.rb)
        have HON := Lib.hid (put6_only w5 w.heap.size (.string ⟨#[]⟩) (.int .i64 0) (.int .i64 0) (.string ⟨#[]⟩) (.slice none 0 0) (.slice none 0 0))
        refine bodyPost_ret (results_cell_tmp rfl _ _ w.heap.size 48 Z6 _ rfl HRB.out Tryd.underlying48 rfl (by kernel_rfl)) rfl ?_
        exact (HNONE.out _ HRB.out (HF5.out.bel.trans (HON.out.below HF5.out.bel.size (fun k e => by omega))) HE.out)
      | some j =>
        obtain ⟨hj, _, _⟩ := List.findIdx?_eq_some_iff_getElem.1 HIE.out
        have o1 : optI (some j) = (j : Int) := rfl
        have x2 : ¬ (j : Int) < 0 := by omega
        have x3 : (0 : Int) ≤ (j : Int) := by omega
        have x4 : (j : Int) < (t.nodes.length : Int) := by omega
        obtain ⟨adl, u, ul, un, rfl, hu, _, hadl, h6, htl6, hnl6⟩ := HL5.out.at_ hj
        have hum := List.mem_of_getElem? hu
        have HU := Lib.hid (HFR.out.trans (findR_some HIE.out hu))
        have HUS := Lib.hid (And.intro (HLS.out.nodes hum) (HLS.out.list hum))
        have HFP := Lib.hid (HF5.out.put htl6 hnl6)
        obtain ⟨Au, cu, rfl, _⟩ := htl6.form
        obtain ⟨Bu, du, rfl, _⟩ := id hnl6.form
        obtain ⟨r0, r1, r2, r3, r4, r5⟩ := h6
        have hadl2 : (adl.add (j * 6)).block < w5.heap.size := by rw [block_of_add]; exact hadl
        have hfb := HF5.out.fb
        unfold ncA at hfb
        obtain ⟨q0, q1, q2, q3, q4, q5⟩ := nbx hfb
        have g0 := hfb.frozen 0
        have g1 := hfb.frozen 1
        have g2 := hfb.frozen 2
        have g3 := hfb.frozen 3
        have g4 := hfb.frozen 4
        have g5 := hfb.frozen 5
        clear hfb hu hum htl6 hnl6
        go_wp2_with fail
        go_roundw
        case rel => exact ⟨k + 1, u, _, _, by omega, by go_num, HFP.out, HUS.out.1, HUS.out.2, (fun h => by omega), fun _ => HU.out⟩
        case measure => simp [intOf]; omega
end Go.Proofs.YtfmdbmalmeimbaaDoor
/- Find of the reference. -/
namespace Go.Proofs.YtfmdbmalmeimbaaDoor
open Go.RowKit
set_option maxRecDepth 100000

/-! Find of the reference. -/
theorem TL.cell0 {w : World} {S : Nat → Prop} {A : Option Addr} {n c : Nat} {p : ByteArray} {ps : List ByteArray} (h : TL w S (.slice A n c) (p :: ps)) : ∃ ad, A = some ad ∧ n = ps.length + 1 ∧ n ≤ c ∧ ad.block < w.heap.size ∧ w.cell? ad = some (.string p) := by
  obtain ⟨A', c', e, hc, hh⟩ := h
  injection e with e1 e2 e3
  subst e1 e2 e3
  obtain ⟨ad, ea, hs, hlt, hcell⟩ := hh (by simp)
  have h0 := hcell 0 p rfl
  refine ⟨ad, ea, by simp, hc, hlt, ?_⟩
  unfold Addr.add at h0
  rw [if_pos rfl] at h0
  exact h0
theorem add_one (ad : Addr) : ad.add 1 = ⟨ad.block, ad.off + 1, none⟩ := by unfold Addr.add; rfl
theorem add_add (ad : Addr) (k : Nat) : (ad.add 1).add k = ad.add (k + 1) := by
  unfold Addr.add
  by_cases hk : k = 0
  · subst hk; simp
  · simp [hk]; omega
theorem TL.tail {w : World} {S : Nat → Prop} {ad : Addr} {n c c' : Nat} {p : ByteArray} {ps : List ByteArray} (h : TL w S (.slice (some ad) n c) (p :: ps)) (hc : ps.length ≤ c') : TL w S (.slice (some (ad.add 1)) ps.length c') ps := by
  obtain ⟨A', c2, e, hc2, hh⟩ := h
  injection e with e1 e2 e3
  subst e1 e2 e3
  obtain ⟨ad2, ea, hs, hlt, hcell⟩ := hh (by simp)
  injection ea with ea
  subst ea
  refine ⟨_, c', rfl, hc, fun _ => ⟨_, rfl, by rw [block_of_add]; exact hs, by rw [block_of_add]; exact hlt, fun k s hk => ?_⟩⟩
  rw [add_add]
  exact hcell (k + 1) s (by simpa using hk)
theorem nl_low {w : World} {S : Nat → Prop} {v : Value} {l : List Nd} (h : NL w S v l) : NL w (fun g => S g ∧ g < w.heap.size) v l :=
  ((h.mono (fun _ hg => And.intro hg trivial)).low (Q := fun _ => True)).mono (fun _ hg => ⟨hg.1, hg.2.2⟩)
/-- a call of the reference's Find: what it answers lies where the tree lies -/
def FindS (S : Nat → Prop) (o : Option Nd) (w : World) (e : Ending) (w' : World) : Prop := ∃ vl vn, e = .returned (.tuple #[.agg (ncA (o.getD nd0) vl vn), .bool o.isSome]) ∧ TL w' S vl (o.getD nd0).list ∧ NL w' S vn (o.getD nd0).nodes ∧ Below w.heap.size w w'
set_option maxHeartbeats 16000000 in
theorem rfind_any : ∀ (path : List ByteArray) (l : List Nd) {w : World} {S S' : Nat → Prop} {A B : Option Addr} {ca cb : Nat}, NL w S (.slice A l.length ca) l → TL w S' (.slice B path.length cb) path → Small l → path.length ≤ 1000000 →
    Calls Tryd.prog 24 #[.slice A l.length ca, .slice B path.length cb] w (FindS S (findR path l) w) := by
  intro path
  induction path with
  | nil =>
    intro l w S S' A B ca cb hl hp hsm _
    have hll := hsm.len
    have HZ := Lib.hid (Blk.new w 48 Z6)
    clear hl hp hsm
    show Calls Tryd.prog 24 #[.slice A l.length ca, .slice B 0 cb] w _
    have HE : ∀ W', Below w.heap.size w W' → FindS S (findR [] l) w (.returned (.tuple #[.agg Z6, .bool false])) W' := fun W' hb => ⟨.slice none 0 0, .slice none 0 0, rfl, tl_nil _ _, nl_nil _ _, hb⟩
    have HEE := Lib.hid HE
    clear HE
    go_enter Tryd.func24, Tryd.ntmps24
    go_wp2_with fail
    go_loopw [6] (fun i wr => i = .int .i64 0 ∧ wr = w.alloc (.cells #[.string ⟨#[]⟩, .int .i64 0, .int .i64 0, .string ⟨#[]⟩, .slice none 0 0, .slice none 0 0] 48)) (fun _ _ => 0)
    case atStart => exact ⟨rfl, rfl⟩
    case round =>
      obtain ⟨rfl, rfl⟩ := hrel
      by_cases h0 : 0 < l.length
      ·
        go_wp2_with fail
        have HRB := Lib.hid (show Blk (w.alloc (.cells #[.string ⟨#[]⟩, .int .i64 0, .int .i64 0, .string ⟨#[]⟩, .slice none 0 0, .slice none 0 0] 48)) w.heap.size 48 Z6 from HZ.out)
        refine bodyPost_ret (results_cell_tmp rfl _ _ w.heap.size 48 Z6 _ rfl HRB.out Tryd.underlying48 rfl (by kernel_rfl)) rfl ?_
        exact HEE.out _ ((Below.refl _ _).al _)
      ·
        go_wp2_with fail
        have HRB := Lib.hid (show Blk (w.alloc (.cells #[.string ⟨#[]⟩, .int .i64 0, .int .i64 0, .string ⟨#[]⟩, .slice none 0 0, .slice none 0 0] 48)) w.heap.size 48 Z6 from HZ.out)
        refine bodyPost_ret (results_cell_tmp rfl _ _ w.heap.size 48 Z6 _ rfl HRB.out Tryd.underlying48 rfl (by kernel_rfl)) rfl ?_
        exact HEE.out _ ((Below.refl _ _).al _)
  | cons p ps ih =>
    intro l w S S' A B ca cb hl hp hsm hpl
    obtain ⟨adp, rfl, hn, hcb, hadp, a0⟩ := hp.cell0
    have hll := hsm.len
    have hpl2 : ps.length ≤ 1000000 := by simp at hpl; omega
    have HL := Lib.hid (nl_low hl)
    have HP := Lib.hid hp
    have HSM := Lib.hid hsm
    have HIH := Lib.hid ih
    have HA0 := Lib.hid a0
    have hcb2 : ps.length + 1 ≤ cb := by simp at hcb; omega
    clear hl hp hsm ih a0 hn hcb hpl
    show Calls Tryd.prog 24 #[.slice A l.length ca, .slice (some adp) (ps.length + 1) cb] w _
    have HNONE := Lib.hid (show ∀ W', Below w.heap.size w W' → findR (p :: ps) l = none → FindS S (findR (p :: ps) l) w (.returned (.tuple #[.agg Z6, .bool false])) W' from fun W' hb he => by
      rw [he]
      exact ⟨.slice none 0 0, .slice none 0 0, rfl, tl_nil _ _, nl_nil _ _, hb⟩)
    go_enter Tryd.func24, Tryd.ntmps24
    go_wp2_with fail
    go_loopw [6] (fun i wr => ∃ k : Nat, k ≤ l.length ∧ i = .int .i64 (k : Int) ∧ (∀ x ∈ l.take k, isN p x = false) ∧ Blk wr w.heap.size 48 Z6 ∧ Below w.heap.size w wr) (fun i _ => l.length - (intOf i).toNat)
    case atStart => exact ⟨0, Nat.zero_le _, rfl, by simp, Blk.new _ _ _, (Below.refl _ _).al _⟩
    case round =>
      obtain ⟨k, hk, rfl, hx, hz, hb⟩ := hrel
      have HX := Lib.hid hx
      have HB := Lib.hid hb
      have HZ := Lib.hid hz
      have hwr := hz.lt
      obtain ⟨⟨z0, z1, z2, z3, z4, z5⟩, y0, y1, y2, y3, y4, y5⟩ := zcF hz
      have w1 : IntKind.i64.wrap ((ps.length : Int) + 1) = (ps.length : Int) + 1 := IntWalk.i64_in _ (by omega)
      have w2 : (0 : Int) < (ps.length : Int) + 1 := by omega
      have w2' : decide ((0 : Int) < (ps.length : Int) + 1) = true := decide_eq_true w2
      have a0 : wr.cell? adp = some (.string p) := (hb.cell (p := adp) hadp).trans HA0.out
      have hadp2 : adp.block < wr.heap.size := by omega
      clear hx hb hz
      by_cases hlt : k < l.length
      case neg =>
        obtain rfl : k = l.length := by omega
        have HE := Lib.hid (show findR (p :: ps) l = none from findR_none (List.findIdx?_eq_none_iff.2 (by have := HX.out; rw [List.take_length] at this; exact this)))
        go_wp2_with fail
        refine bodyPost_ret (results_cell_tmp rfl _ _ w.heap.size 48 Z6 _ rfl (show Blk (put6 wr w.heap.size (.string ⟨#[]⟩) (.int .i64 0) (.int .i64 0) (.string ⟨#[]⟩) (.slice none 0 0) (.slice none 0 0)) w.heap.size 48 Z6 from put6_blk HZ.out) Tryd.underlying48 rfl (by kernel_rfl)) rfl ?_
        exact HNONE.out _ (HB.out.trans ((put6_only wr w.heap.size _ _ _ _ _ _).below HB.out.size (fun k e => by omega))) HE.out
      have x0 : (k : Int) < (l.length : Int) := by omega
      have x0' : decide ((k : Int) < (l.length : Int)) = true := decide_eq_true x0
      have x1 : (0 : Int) ≤ (k : Int) := by omega
      obtain ⟨ad, t, vl, vn, rfl, ht, _, had, h6, htl, hnl⟩ := (HL.out.up HB.out).at_ hlt
      have had2 : (ad.add (k * 6)).block < wr.heap.size := by rw [block_of_add]; exact had
      have htm := List.mem_of_getElem? ht
      have HT := Lib.hid ht
      obtain ⟨At, ct, rfl, _⟩ := htl.form
      obtain ⟨Bt, dt, rfl, _⟩ := id hnl.form
      obtain ⟨r0, r1, r2, r3, r4, r5⟩ := h6
      have HTL := Lib.hid htl
      have HNL := Lib.hid hnl
      clear ht htl hnl
      by_cases htn : t.name = p
      case neg =>
        have q1 : (t.name.toList == p.toList) = false := by rw [bytes_beq2, decide_eq_false htn]
        have q2 : (t.name.toList != p.toList) = true := by unfold bne; rw [q1]; rfl
        have HN := Lib.hid (none_next HT.out HX.out (show isN p t = false from decide_eq_false htn))
        clear htn
        go_wp2_with fail
        go_quiet (fail)
        go_wp2_with fail
        go_roundw
        case rel => exact ⟨k + 1, by omega, by go_num, HN.out, HZ.out.below (below_drewN (Below.refl _ _) _) HZ.out.lt, below_drewN HB.out _⟩
        case measure => simp [intOf]; omega
      have q1 : (t.name.toList == p.toList) = true := by rw [htn]; simp
      have q2 : (t.name.toList != p.toList) = false := by rw [htn]; simp
      have HFI := Lib.hid (show findR (p :: ps) l = contR t ps from findR_some (findIdx_at HT.out HX.out (show isN p t = true from decide_eq_true htn)) HT.out)
      clear htn
      go_wp2_with fail
      go_quiet (fail)
      obtain ⟨wq, hwq⟩ : ∃ wq, wr.drewN nq = wq := ⟨_, rfl⟩
      have hbq : Below wr.heap.size wr wq := by rw [← hwq]; exact below_drewN (Below.refl _ _) _
      rw [hwq]
      clear hwq
      have HBQ := Lib.hid (HB.out.next hbq)
      have HZQ := Lib.hid (HZ.out.below hbq HZ.out.lt)
      have HTQ := Lib.hid (HTL.out.up hbq)
      have HNQ := Lib.hid (HNL.out.up hbq)
      have s0 : wq.cell? (ad.add (k * 6)) = some (.string t.name) := (hbq.cell (p := ad.add (k * 6)) had2).trans r0
      have s1 : wq.cell? ⟨(ad.add (k * 6)).block, (ad.add (k * 6)).off + 1, none⟩ = some (.int .i64 t.kind) := (hbq.cell (p := ⟨(ad.add (k * 6)).block, (ad.add (k * 6)).off + 1, none⟩) had2).trans r1
      have s2 : wq.cell? ⟨(ad.add (k * 6)).block, (ad.add (k * 6)).off + 2, none⟩ = some (.int .i64 t.num) := (hbq.cell (p := ⟨(ad.add (k * 6)).block, (ad.add (k * 6)).off + 2, none⟩) had2).trans r2
      have s3 : wq.cell? ⟨(ad.add (k * 6)).block, (ad.add (k * 6)).off + 3, none⟩ = some (.string t.text) := (hbq.cell (p := ⟨(ad.add (k * 6)).block, (ad.add (k * 6)).off + 3, none⟩) had2).trans r3
      have s4 : wq.cell? ⟨(ad.add (k * 6)).block, (ad.add (k * 6)).off + 4, none⟩ = some (.slice At t.list.length ct) := (hbq.cell (p := ⟨(ad.add (k * 6)).block, (ad.add (k * 6)).off + 4, none⟩) had2).trans r4
      have s5 : wq.cell? ⟨(ad.add (k * 6)).block, (ad.add (k * 6)).off + 5, none⟩ = some (.slice Bt t.nodes.length dt) := (hbq.cell (p := ⟨(ad.add (k * 6)).block, (ad.add (k * 6)).off + 5, none⟩) had2).trans r5
      have had3 : (ad.add (k * 6)).block < wq.heap.size := Nat.lt_of_lt_of_le had2 hbq.size
      have hwq2 := HZQ.out.lt
      clear z0 z1 z2 z3 z4 z5 y0 y1 y2 y3 y4 y5 r0 r1 r2 r3 r4 r5 hbq a0 HTL HNL HZ had2
      obtain ⟨⟨z0, z1, z2, z3, z4, z5⟩, y0, y1, y2, y3, y4, y5⟩ := zcF HZQ.out
      by_cases hps : ps.length = 0
      · have x5 : ((ps.length : Int) + 1 == 1) = true := beq_iff_eq.2 (by omega)
        have HE := Lib.hid (show findR (p :: ps) l = some t by rw [HFI.out]; unfold contR; rw [if_pos hps])
        clear hps
        go_wp2_with fail
        have HRB := Lib.hid (show Blk (put6 wq w.heap.size (.string t.name) (.int .i64 t.kind) (.int .i64 t.num) (.string t.text) (.slice At t.list.length ct) (.slice Bt t.nodes.length dt)) w.heap.size 48 (ncA t (.slice At t.list.length ct) (.slice Bt t.nodes.length dt)) from put6_blk HZQ.out)
        have HON := Lib.hid (put6_only wq w.heap.size (.string t.name) (.int .i64 t.kind) (.int .i64 t.num) (.string t.text) (.slice At t.list.length ct) (.slice Bt t.nodes.length dt))
        have HTX := Lib.hid (HTQ.out.keep (S' := S) (Kept.of_only HON.out (fun g hg e => by have := hg.2; omega)) (fun g hg => hg.1))
        have HNX := Lib.hid (HNQ.out.keep (S' := S) (Kept.of_only HON.out (fun g hg e => by have := hg.2; omega)) (fun g hg => hg.1))
        have HBX := Lib.hid (HBQ.out.trans (HON.out.below HBQ.out.size (fun k e => by omega)))
        refine bodyPost_ret (results_cell_tmp rfl _ _ w.heap.size 48 (ncA t (.slice At t.list.length ct) (.slice Bt t.nodes.length dt)) _ rfl HRB.out Tryd.underlying48 rfl (by kernel_rfl)) rfl ?_
        unfold FindS
        rw [HE.out]
        exact ⟨_, _, rfl, HTX.out, HNX.out, HBX.out⟩
      have x5 : ((ps.length : Int) + 1 == 1) = false := beq_eq_false_iff_ne.2 (by omega)
      have HC := Lib.hid (show findR (p :: ps) l = if t.kind = 4 then findR ps t.nodes else none by rw [HFI.out]; unfold contR; rw [if_neg hps])
      by_cases h4 : t.kind = 4
      case neg =>
        have x6 : (t.kind != 4) = true := bne_iff_ne.2 h4
        have HE := Lib.hid (show findR (p :: ps) l = none by rw [HC.out, if_neg h4])
        clear h4 hps
        go_wp2_with fail
        refine bodyPost_ret (results_cell_tmp rfl _ _ w.heap.size 48 Z6 _ rfl (show Blk (put6 wq w.heap.size (.string ⟨#[]⟩) (.int .i64 0) (.int .i64 0) (.string ⟨#[]⟩) (.slice none 0 0) (.slice none 0 0)) w.heap.size 48 Z6 from put6_blk HZQ.out) Tryd.underlying48 rfl (by kernel_rfl)) rfl ?_
        exact HNONE.out _ (HBQ.out.trans ((put6_only wq w.heap.size _ _ _ _ _ _).below HBQ.out.size (fun k e => by omega))) HE.out
      have x6 : (t.kind != 4) = false := by rw [h4]; rfl
      have HE := Lib.hid (show findR (p :: ps) l = findR ps t.nodes by rw [HC.out, if_pos h4])
      have HR := Lib.hid (fun (cb' : Nat) (hcb' : ps.length ≤ cb') => HIH.out t.nodes (w := wq.drew) (HNQ.out.up (Below.refl _ _).drew) (add_one adp ▸ (HP.out.up (HBQ.out.next (Below.refl _ _).drew)).tail hcb') (HSM.out.nodes htm) hpl2)
      have hcb1 : ¬ cb = 1 := by omega
      have v1 : (1 : Int) ≤ (ps.length : Int) + 1 := by omega
      have v2 : ((ps.length : Int) + 1).toNat = ps.length + 1 := by omega
      clear h4 hps
      go_wp2_with fail
      go_region_law (first
        | (go_simp; go_at_call 24; refine (HR.out _ (by omega)).mono ?_; rintro e w5 ⟨vl5, vn5, rfl, htl5, hnl5, hb5⟩; obtain ⟨A5, c5, rfl, _⟩ := htl5.form; obtain ⟨B5, d5, rfl, _⟩ := id hnl5.form; have HB5 := Lib.hid (HBQ.out.drew.next hb5); have HZ5 := Lib.hid (HZQ.out.below ((Below.refl _ _).drew.next hb5) HZQ.out.lt); have HTL5 := Lib.hid htl5; have HNL5 := Lib.hid hnl5; obtain ⟨⟨z0, z1, z2, z3, z4, z5⟩, y0, y1, y2, y3, y4, y5⟩ := zcF HZ5.out; clear htl5 hnl5 hb5; unfold ncA; skip))
      all_goals
        go_wp2_with fail
        have HRB := Lib.hid (show Blk (put6 w5 w.heap.size (.string ((findR ps t.nodes).getD nd0).name) (.int .i64 ((findR ps t.nodes).getD nd0).kind) (.int .i64 ((findR ps t.nodes).getD nd0).num) (.string ((findR ps t.nodes).getD nd0).text) (.slice A5 ((findR ps t.nodes).getD nd0).list.length c5) (.slice B5 ((findR ps t.nodes).getD nd0).nodes.length d5)) w.heap.size 48 (ncA ((findR ps t.nodes).getD nd0) (.slice A5 ((findR ps t.nodes).getD nd0).list.length c5) (.slice B5 ((findR ps t.nodes).getD nd0).nodes.length d5)) from put6_blk HZ5.out)
        have HON := Lib.hid (put6_only w5 w.heap.size (.string ((findR ps t.nodes).getD nd0).name) (.int .i64 ((findR ps t.nodes).getD nd0).kind) (.int .i64 ((findR ps t.nodes).getD nd0).num) (.string ((findR ps t.nodes).getD nd0).text) (.slice A5 ((findR ps t.nodes).getD nd0).list.length c5) (.slice B5 ((findR ps t.nodes).getD nd0).nodes.length d5))
        have HTX := Lib.hid (HTL5.out.keep (S' := S) (Kept.of_only HON.out (fun g hg e => by have := hg.2; omega)) (fun g hg => hg.1))
        have HNX := Lib.hid (HNL5.out.keep (S' := S) (Kept.of_only HON.out (fun g hg e => by have := hg.2; omega)) (fun g hg => hg.1))
        have HBX := Lib.hid (HB5.out.trans (HON.out.below HB5.out.size (fun k e => by omega)))
        refine bodyPost_ret (results_cell_tmp rfl _ _ w.heap.size 48 (ncA ((findR ps t.nodes).getD nd0) (.slice A5 ((findR ps t.nodes).getD nd0).list.length c5) (.slice B5 ((findR ps t.nodes).getD nd0).nodes.length d5)) _ rfl HRB.out Tryd.underlying48 rfl (by kernel_rfl)) rfl ?_
        unfold FindS
        rw [HE.out]
        exact ⟨_, _, rfl, HTX.out, HNX.out, HBX.out⟩
end Go.Proofs.YtfmdbmalmeimbaaDoor
