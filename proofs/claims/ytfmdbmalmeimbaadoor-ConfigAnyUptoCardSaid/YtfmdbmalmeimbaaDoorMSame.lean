/- Merged: RSame, RSame2. -/
import Derived.Test.YtfmdbmalmeimbaaDoorTree
import Derived.Test.YtfmdbmalmeimbaaDoorParse
import Derived.Deep.RegionHeld3
import Derived.StillTailTactics
/- Same of the reference: two lists of texts, two lists of nodes. -/
namespace Go.Proofs.YtfmdbmalmeimbaaDoor
open Go.RowKit
set_option maxRecDepth 100000

theorem TL.at_ {w : World} {S : Nat → Prop} {A : Option Addr} {n c k : Nat} {l : List ByteArray} (h : TL w S (.slice A n c) l) (hk : k < l.length) : ∃ ad s, A = some ad ∧ l[k]? = some s ∧ ad.block < w.heap.size ∧ w.cell? (ad.add k) = some (.string s) := by
  obtain ⟨A', c', e, hc, hh⟩ := h
  injection e with e1 e2 e3
  obtain ⟨ad, ea, hs, hlt, hcell⟩ := hh (by omega)
  exact ⟨ad, l[k], e1.trans ea, List.getElem?_eq_getElem hk, hlt, hcell k _ (List.getElem?_eq_getElem hk)⟩
theorem TL.form {w : World} {S : Nat → Prop} {v : Value} {l : List ByteArray} (h : TL w S v l) : ∃ A c, v = .slice A l.length c ∧ l.length ≤ c := by
  obtain ⟨A, c, e, hc, _⟩ := h
  exact ⟨A, c, e, hc⟩
theorem bytes_beq2 (a b : ByteArray) : (a.toList == b.toList) = decide (a = b) := by
  rw [ByteArray.toList_eq, ByteArray.toList_eq]
  by_cases h : a = b
  · subst h; simp
  · rw [decide_eq_false h]
    refine beq_eq_false_iff_ne.2 fun e => h ?_
    obtain ⟨⟨l⟩⟩ := a
    obtain ⟨⟨m⟩⟩ := b
    simp only at e
    subst e
    rfl
theorem take_eq_next {α : Type} {l m : List α} {k : Nat} {x : α} (h : l.take k = m.take k) (hl : l[k]? = some x) (hm : m[k]? = some x) : l.take (k + 1) = m.take (k + 1) := by
  obtain ⟨h1, e1⟩ := List.getElem?_eq_some_iff.1 hl
  obtain ⟨h2, e2⟩ := List.getElem?_eq_some_iff.1 hm
  rw [List.take_succ_eq_append_getElem h1, List.take_succ_eq_append_getElem h2, h, e1, e2]

set_option maxHeartbeats 4000000 in
theorem rsame_texts {w : World} {S S' : Nat → Prop} {A A' : Option Addr} {c c' : Nat} {l m : List ByteArray} (hl : TL w S (.slice A l.length c) l) (hm : TL w S' (.slice A' m.length c') m) {b : Bool} (hb : b = true ↔ l = m) (bl : l.length < 4611686018427387904) (_bm : m.length < 4611686018427387904) :
    Calls Tryd.prog 42 #[.slice A l.length c, .slice A' m.length c'] w (Ret (.bool b) w) := by
  have HL := Lib.hid hl
  have HM := Lib.hid hm
  have HB := Lib.hid hb
  clear hl hm hb
  by_cases hlen : l.length = m.length
  · have q : ((l.length : Int) != (m.length : Int)) = false := by simp [hlen]
    go_enter Tryd.func42, Tryd.ntmps42
    go_wp2_with fail
    go_loopw [5] (fun v wr => ∃ k : Nat, k ≤ l.length ∧ v = .int .i64 (k : Int) ∧ l.take k = m.take k ∧ Below w.heap.size w wr) (fun v _ => l.length - (intOf v).toNat)
    case atStart => exact ⟨0, by omega, rfl, by simp, Below.refl _ _⟩
    case round =>
      obtain ⟨k, hk, rfl, hx, hbw⟩ := hrel
      have HX := Lib.hid hx
      have HW := Lib.hid hbw
      clear hx hbw
      by_cases hlt : k < l.length
      · have j0 : (k : Int) < (l.length : Int) := by omega
        have j1 : (0 : Int) ≤ (k : Int) := by omega
        have j2 : (k : Int) < (m.length : Int) := by omega
        obtain ⟨ad, x, rfl, hx, had, a0⟩ := (HL.out.up HW.out).at_ hlt
        obtain ⟨ad', y, rfl, hy, had', a1⟩ := (HM.out.up HW.out).at_ (k := k) (by omega)
        have HXX := Lib.hid hx
        have HYY := Lib.hid hy
        clear hx hy
        by_cases hxy : x = y
        · subst hxy
          have HN := Lib.hid (take_eq_next HX.out HXX.out HYY.out)
          clear HXX HYY
          go_wp2_with fail
          go_region_held3 (fun w' => w'.cell? (ad.add k) = some (.string x) ∧ w'.cell? (ad'.add k) = some (.string x)) (go_keep) (first | fail)
          all_goals
            go_wp2_with fail
            go_roundw
            case rel => exact ⟨k + 1, by omega, by go_num, HN.out, HW.out.drew⟩
            case measure => simp [intOf]; omega
        · have q2 : (x.toList == y.toList) = false := by rw [bytes_beq2, decide_eq_false hxy]
          have HN := Lib.hid (show b = false by
            cases b with
            | false => rfl
            | true => exact absurd (HB.out.1 rfl) (fun e => hxy (by have h1 := HXX.out; rw [e, HYY.out] at h1; injection h1 with h1; exact h1.symm)))
          clear HXX HYY
          go_wp2_with fail
          go_region_held3 (fun w' => w'.cell? (ad.add k) = some (.string x) ∧ w'.cell? (ad'.add k) = some (.string y)) (go_keep) (first | fail)
          all_goals
            go_wp2_with fail
            go_ret
            exact ⟨by rw [HN.out]; rfl, HW.out.drew⟩
      · obtain rfl : k = l.length := by omega
        have HE := Lib.hid (show b = true from HB.out.2 (by have := HX.out; rw [List.take_length, hlen, List.take_length] at this; exact this))
        go_wp2_with fail
        go_ret
        exact ⟨by rw [HE.out]; rfl, HW.out⟩
  · have q : ((l.length : Int) != (m.length : Int)) = true := by simp; omega
    have HE := Lib.hid (show b = false by
      cases b with
      | false => rfl
      | true => exact absurd (congrArg List.length (HB.out.1 rfl)) hlen)
    go_enter Tryd.func42, Tryd.ntmps42
    go_wp2_with fail
    go_ret
    exact ⟨by rw [HE.out]; rfl, Below.refl _ _⟩
end Go.Proofs.YtfmdbmalmeimbaaDoor
/- Same of the reference, of two trees. -/
namespace Go.Proofs.YtfmdbmalmeimbaaDoor
open Go.RowKit
set_option maxRecDepth 100000

/-- no list of a tree is long -/
inductive Small : List Nd → Prop where
  | mk (l : List Nd) (h : l.length ≤ 1000000) (hl : ∀ t ∈ l, t.list.length ≤ 1000000) (hn : ∀ t ∈ l, Small t.nodes) : Small l
theorem Small.len {l : List Nd} (h : Small l) : l.length ≤ 1000000 := by cases h; assumption
theorem Small.list {l : List Nd} (h : Small l) {t : Nd} (ht : t ∈ l) : t.list.length ≤ 1000000 := by cases h with | mk _ _ hl _ => exact hl t ht
theorem Small.nodes {l : List Nd} (h : Small l) {t : Nd} (ht : t ∈ l) : Small t.nodes := by cases h with | mk _ _ _ hn => exact hn t ht
theorem Small.nil : Small [] := .mk [] (by simp) (by simp) (by simp)
/-- two nodes are one -/
theorem nd_eq {x y : Nd} (h0 : (x.name.toList == y.name.toList) = true) (h1 : (x.kind == y.kind) = true) (h2 : (x.num == y.num) = true) (h3 : (x.text.toList == y.text.toList) = true) (h4 : x.list = y.list) (h5 : x.nodes = y.nodes) : x = y := by
  rw [bytes_beq2] at h0 h3
  exact Nd.ext (of_decide_eq_true h0) (beq_iff_eq.1 h1) (beq_iff_eq.1 h2) (of_decide_eq_true h3) h4 h5
theorem bool_false {b : Bool} {p : Prop} (h : b = true ↔ p) (hn : ¬ p) : b = false := by
  cases b with
  | false => rfl
  | true => exact absurd (h.1 rfl) hn
def SixS (p q : Addr) (x y : Nd) (xl xn yl yn : Value) (w : World) : Prop :=
  (w.cell? p = some (.string x.name) ∧ w.cell? ⟨p.block, p.off + 1, none⟩ = some (.int .i64 x.kind) ∧ w.cell? ⟨p.block, p.off + 2, none⟩ = some (.int .i64 x.num) ∧ w.cell? ⟨p.block, p.off + 3, none⟩ = some (.string x.text) ∧ w.cell? ⟨p.block, p.off + 4, none⟩ = some xl ∧ w.cell? ⟨p.block, p.off + 5, none⟩ = some xn) ∧
  (w.cell? q = some (.string y.name) ∧ w.cell? ⟨q.block, q.off + 1, none⟩ = some (.int .i64 y.kind) ∧ w.cell? ⟨q.block, q.off + 2, none⟩ = some (.int .i64 y.num) ∧ w.cell? ⟨q.block, q.off + 3, none⟩ = some (.string y.text) ∧ w.cell? ⟨q.block, q.off + 4, none⟩ = some yl ∧ w.cell? ⟨q.block, q.off + 5, none⟩ = some yn)

theorem SixS.up {p q : Addr} {x y : Nd} {xl xn yl yn : Value} {w w' : World} (h : SixS p q x y xl xn yl yn w) (hp : p.block < w.heap.size) (hq : q.block < w.heap.size) (hb : Below w.heap.size w w') : SixS p q x y xl xn yl yn w' := by
  obtain ⟨⟨p0, p1, p2, p3, p4, p5⟩, q0, q1, q2, q3, q4, q5⟩ := h
  have kp : ∀ o, w'.cell? ⟨p.block, o, none⟩ = w.cell? ⟨p.block, o, none⟩ := fun o => hb.cell hp
  have kq : ∀ o, w'.cell? ⟨q.block, o, none⟩ = w.cell? ⟨q.block, o, none⟩ := fun o => hb.cell hq
  exact ⟨⟨(hb.cell hp).trans p0, (kp _).trans p1, (kp _).trans p2, (kp _).trans p3, (kp _).trans p4, (kp _).trans p5⟩, (hb.cell hq).trans q0, (kq _).trans q1, (kq _).trans q2, (kq _).trans q3, (kq _).trans q4, (kq _).trans q5⟩
theorem cell_fst {w : World} {cs : Array Value} {t : TypeId} {o : Obj} {k : Nat} {u : Value} (h : cs[k]? = some u) : ((w.alloc (.cells cs t)).alloc o).drew.cell? ⟨w.heap.size, k, none⟩ = some u := by
  rw [(blk_two o rfl).cell]; exact h
theorem cell_snd {w : World} {cs : Array Value} {t : TypeId} {o : Obj} {k : Nat} {u : Value} (h : cs[k]? = some u) : ((w.alloc o).alloc (.cells cs t)).drew.cell? ⟨w.heap.size + 1, k, none⟩ = some u := by
  have b := Blk.new (w.alloc o) t cs
  rw [show (w.alloc o).heap.size = w.heap.size + 1 by simp] at b
  exact (b.cell k).trans h
set_option maxHeartbeats 8000000 in
theorem rsame_nodes : ∀ (N : Nat) (l m : List Nd), SizeOf.sizeOf l < N → ∀ {w : World} {S S' : Nat → Prop} {A A' : Option Addr} {c c' : Nat} {b : Bool}, NL w S (.slice A l.length c) l → NL w S' (.slice A' m.length c') m → (b = true ↔ l = m) → Small l → Small m →
    Calls Tryd.prog 20 #[.slice A l.length c, .slice A' m.length c'] w (Ret (.bool b) w) := by
  intro N
  induction N with
  | zero => intro l m h; exact absurd h (Nat.not_lt_zero _)
  | succ N ih =>
  intro l m hN w S S' A A' c c' b hl hm hb sl sm
  have HL := Lib.hid hl
  have HM := Lib.hid hm
  have HB := Lib.hid hb
  have HSL := Lib.hid sl
  have HSM := Lib.hid sm
  have bl := sl.len
  have bm := sm.len
  clear hl hm hb sl sm
  by_cases hlen : l.length = m.length
  · have q : ((l.length : Int) != (m.length : Int)) = false := by simp [hlen]
    have HLEN := Lib.hid hlen
    clear hlen
    go_enter Tryd.func20, Tryd.ntmps20
    go_wp2_with fail
    go_loopw [5] (fun v wr => ∃ k : Nat, k ≤ l.length ∧ v = .int .i64 (k : Int) ∧ l.take k = m.take k ∧ Below w.heap.size w wr) (fun v _ => l.length - (intOf v).toNat)
    case atStart => exact ⟨0, by omega, rfl, by simp, Below.refl _ _⟩
    case round =>
      obtain ⟨k, hk, rfl, hx, hbw⟩ := hrel
      have HX := Lib.hid hx
      have HW := Lib.hid hbw
      clear hx hbw
      by_cases hlt : k < l.length
      · have j0 : (k : Int) < (l.length : Int) := by omega
        have j1 : (0 : Int) ≤ (k : Int) := by omega
        have j2 : (k : Int) < (m.length : Int) := by have := HLEN.out; omega
        obtain ⟨ad, x, xl, xn, rfl, hx, _, had, h6, htl, hnl⟩ := (HL.out.up HW.out).at_ hlt
        obtain ⟨ad', y, yl, yn, rfl, hy, _, had', h6', htl', hnl'⟩ := (HM.out.up HW.out).at_ (k := k) (by have := HLEN.out; omega)
        have HXX := Lib.hid hx
        have HYY := Lib.hid hy
        obtain ⟨Ax, cx, rfl, _⟩ := htl.form
        obtain ⟨Ay, cy, rfl, _⟩ := htl'.form
        obtain ⟨Bx, dx, rfl, _⟩ := hnl.form
        obtain ⟨By, dy, rfl, _⟩ := hnl'.form
        have hxm := List.mem_of_getElem? hx
        have hym := List.mem_of_getElem? hy
        obtain ⟨b4, hb4⟩ : ∃ b4 : Bool, b4 = true ↔ x.list = y.list := ⟨decide _, decide_eq_true_iff⟩
        obtain ⟨b5, hb5⟩ : ∃ b5 : Bool, b5 = true ↔ x.nodes = y.nodes := ⟨@decide _ (Classical.propDecidable _), @decide_eq_true_iff _ (Classical.propDecidable _)⟩
        have HT := Lib.hid (show ∀ (gx gy : Nat) w', Below wr.heap.size wr w' → w'.cell? ⟨gx, 5, none⟩ = some (.slice Bx x.nodes.length dx) → w'.cell? ⟨gy, 5, none⟩ = some (.slice By y.nodes.length dy) → Calls Tryd.prog 42 #[.slice Ax x.list.length cx, .slice Ay y.list.length cy] w' (fun e w'' => e = .returned (.bool b4) ∧ Below wr.heap.size wr w'' ∧ w''.cell? ⟨gx, 5, none⟩ = some (.slice Bx x.nodes.length dx) ∧ w''.cell? ⟨gy, 5, none⟩ = some (.slice By y.nodes.length dy)) from fun gx gy w' hb h1 h2 => (rsame_texts (htl.up hb) (htl'.up hb) hb4 (by have := HSL.out.list hxm; omega) (by have := HSM.out.list hym; omega)).mono fun _ _ h => ⟨h.1, hb.next h.2, (h.2.cell (block_lt_of_cell h1)).trans h1, (h.2.cell (block_lt_of_cell h2)).trans h2⟩)
        have HN := Lib.hid (show ∀ w', Below wr.heap.size wr w' → Calls Tryd.prog 20 #[.slice Bx x.nodes.length dx, .slice By y.nodes.length dy] w' (fun e w'' => e = .returned (.bool b5) ∧ Below wr.heap.size wr w'') from fun w' hb => (ih x.nodes y.nodes (by have := Nd.nodes_lt_of hxm; omega) (hnl.up hb) (hnl'.up hb) hb5 (HSL.out.nodes hxm) (HSM.out.nodes hym)).mono fun _ _ h => ⟨h.1, hb.next h.2⟩)
        have hne : b = true → x = y := fun e => by have h1 := HXX.out; rw [HB.out.1 e, HYY.out] at h1; injection h1 with h1; exact h1.symm
        have N0 := Lib.hid (show ¬ x.name.toList = y.name.toList → b = false from fun h => by cases hb : b with | false => rfl | true => exact absurd (by rw [hne hb]) h)
        have N1 := Lib.hid (show ¬ x.kind = y.kind → b = false from fun h => by cases hb : b with | false => rfl | true => exact absurd (by rw [hne hb]) h)
        have N2 := Lib.hid (show ¬ x.num = y.num → b = false from fun h => by cases hb : b with | false => rfl | true => exact absurd (by rw [hne hb]) h)
        have N3 := Lib.hid (show ¬ x.text.toList = y.text.toList → b = false from fun h => by cases hb : b with | false => rfl | true => exact absurd (by rw [hne hb]) h)
        have N4 := Lib.hid (show b4 = false → b = false from fun h => by cases hb : b with | false => rfl | true => rw [hb4.2 (by rw [hne hb])] at h; cases h)
        have N5 := Lib.hid (show b5 = false → b = false from fun h => by cases hb : b with | false => rfl | true => rw [hb5.2 (by rw [hne hb])] at h; cases h)
        have HNX := Lib.hid (fun (h0 : x.name.toList = y.name.toList) (h1 : x.kind = y.kind) (h2 : x.num = y.num) (h3 : x.text.toList = y.text.toList) (h4 : b4 = true) (h5 : b5 = true) => by
          have e := nd_eq (beq_iff_eq.2 h0) (beq_iff_eq.2 h1) (beq_iff_eq.2 h2) (beq_iff_eq.2 h3) (hb4.1 h4) (hb5.1 h5)
          have h := HYY.out
          rw [← e] at h
          exact take_eq_next HX.out HXX.out h)
        obtain ⟨p0, p1, p2, p3, p4, p5⟩ := h6
        obtain ⟨q0, q1, q2, q3, q4, q5⟩ := h6'
        have had2 : (ad.add (k * 6)).block < wr.heap.size := by rw [block_of_add]; exact had
        have had3 : (ad'.add (k * 6)).block < wr.heap.size := by rw [block_of_add]; exact had'
        have HS := Lib.hid (show SixS (ad.add (k * 6)) (ad'.add (k * 6)) x y (.slice Ax x.list.length cx) (.slice Bx x.nodes.length dx) (.slice Ay y.list.length cy) (.slice By y.nodes.length dy) wr from ⟨⟨p0, p1, p2, p3, p4, p5⟩, q0, q1, q2, q3, q4, q5⟩)
        clear p0 p1 p2 p3 p4 p5 q0 q1 q2 q3 q4 q5
        clear hx hy htl htl' hnl hnl' hb4 hb5 hne HX HXX HYY
        go_wp2_with fail
        go_region_held3 (fun w' => (w'.cell? (ad.add (k * 6)) = some (.string x.name) ∧ w'.cell? ⟨(ad.add (k * 6)).block, (ad.add (k * 6)).off + 1, none⟩ = some (.int .i64 x.kind) ∧ w'.cell? ⟨(ad.add (k * 6)).block, (ad.add (k * 6)).off + 2, none⟩ = some (.int .i64 x.num) ∧ w'.cell? ⟨(ad.add (k * 6)).block, (ad.add (k * 6)).off + 3, none⟩ = some (.string x.text) ∧ w'.cell? ⟨(ad.add (k * 6)).block, (ad.add (k * 6)).off + 4, none⟩ = some (.slice Ax x.list.length cx) ∧ w'.cell? ⟨(ad.add (k * 6)).block, (ad.add (k * 6)).off + 5, none⟩ = some (.slice Bx x.nodes.length dx)) ∧
          (w'.cell? (ad'.add (k * 6)) = some (.string y.name) ∧ w'.cell? ⟨(ad'.add (k * 6)).block, (ad'.add (k * 6)).off + 1, none⟩ = some (.int .i64 y.kind) ∧ w'.cell? ⟨(ad'.add (k * 6)).block, (ad'.add (k * 6)).off + 2, none⟩ = some (.int .i64 y.num) ∧ w'.cell? ⟨(ad'.add (k * 6)).block, (ad'.add (k * 6)).off + 3, none⟩ = some (.string y.text) ∧ w'.cell? ⟨(ad'.add (k * 6)).block, (ad'.add (k * 6)).off + 4, none⟩ = some (.slice Ay y.list.length cy) ∧ w'.cell? ⟨(ad'.add (k * 6)).block, (ad'.add (k * 6)).off + 5, none⟩ = some (.slice By y.nodes.length dy)))
          (first | exact HS.out.up had2 had3 (Below.refl _ _).drew | exact HS.out.up had2 had3 ((Below.refl _ _).al _).drew | exact HS.out.up had2 had3 (((Below.refl _ _).al _).al _).drew) (first | fail)
        all_goals
          go_wp2_with fail
        all_goals first
          | (go_ret; exact ⟨by rw [N0.out (by assumption)]; rfl, HW.out.next (((Below.refl _ _).al _).al _).drew⟩)
          | (go_ret; exact ⟨by rw [N1.out (by assumption)]; rfl, HW.out.next (((Below.refl _ _).al _).al _).drew⟩)
          | (go_ret; exact ⟨by rw [N2.out (by assumption)]; rfl, HW.out.next (((Below.refl _ _).al _).al _).drew⟩)
          | (go_ret; exact ⟨by rw [N3.out (by assumption)]; rfl, HW.out.next (((Below.refl _ _).al _).al _).drew⟩)
          | skip
        all_goals
          have hnx := HNX.out (by assumption) (by assumption) (by assumption) (by assumption)
          first
            | refine (HT.out wr.heap.size (wr.heap.size + 1) _ (((Below.refl _ _).al _).al _).drew (cell_fst rfl) (cell_snd rfl)).mono ?_
            | refine (HT.out (wr.heap.size + 1) wr.heap.size _ (((Below.refl _ _).al _).al _).drew (cell_snd rfl) (cell_fst rfl)).mono ?_
          rintro e w5 ⟨rfl, hb5, cx5, cy5⟩
          have HB5 := Lib.hid hb5
          clear hb5 HT
          cases b4 with
          | false =>
            have HE := Lib.hid (N4.out rfl)
            go_wp2_with fail
            go_ret
            exact ⟨by rw [HE.out]; rfl, HW.out.next HB5.out⟩
          | true =>
            go_wp2_with fail
            refine (HN.out _ HB5.out).mono ?_
            rintro e w6 ⟨rfl, hb6⟩
            have HB6 := Lib.hid hb6
            clear hb6
            cases b5 with
            | false =>
              have HE := Lib.hid (N5.out rfl)
              go_wp2_with fail
              go_ret
              exact ⟨by rw [HE.out]; rfl, HW.out.next HB6.out⟩
            | true =>
              have HK := Lib.hid (hnx (by trivial) (by trivial))
              go_wp2_with fail
              go_roundw
              case rel => exact ⟨k + 1, by omega, by go_num, HK.out, HW.out.next HB6.out⟩
              case measure => simp [intOf]; omega
      · obtain rfl : k = l.length := by omega
        have HE := Lib.hid (show b = true from HB.out.2 (by have := HX.out; rw [List.take_length, HLEN.out, List.take_length] at this; exact this))
        go_wp2_with fail
        go_ret
        exact ⟨by rw [HE.out]; rfl, HW.out⟩
  · have q : ((l.length : Int) != (m.length : Int)) = true := by simp; omega
    have HE := Lib.hid (show b = false from bool_false HB.out (fun e => hlen (congrArg List.length e)))
    go_enter Tryd.func20, Tryd.ntmps20
    go_wp2_with fail
    go_ret
    exact ⟨by rw [HE.out]; rfl, Below.refl _ _⟩
end Go.Proofs.YtfmdbmalmeimbaaDoor
