/- The scanner's steps: a blank, a sign, a comment. -/
import Derived.Test.YtfmdbmalmeimbaaDoorAdd
namespace Go.Proofs.YtfmdbmalmeimbaaDoor
open Go.RowKit
set_option maxRecDepth 100000

section
variable {base g i : Nat} {s : ByteArray} {v : Value} {out : List Tk} {w w' : World}
theorem SC.below (h : SC base w g s i v out) (hb : Below w.heap.size w w') : SC base w' g s i v out :=
  ⟨h.blk.only (Only.of_below (fun _ => False) hb) (fun h => h), own_only h.own (Only.of_below (fun _ => False) hb) (fun _ _ h => h), h.le, h.ge, h.ne, h.num⟩
theorem SC.drew (h : SC base w g s i v out) : SC base w.drew g s i v out := h.below (Below.refl _ _).drew
theorem SC.drewN (h : SC base w g s i v out) (n : Nat) : SC base (w.drewN n) g s i v out := h.below (below_drewN (Below.refl _ _) n)
theorem SC.moved {n : Nat} (h : SC base w g s i v out) (hn : i + n ≤ s.size) (hb : Blk w' g 102 (scb s (i + n) v)) (ho : Only (· = g) w w') : SC base w' g s (i + n) v out :=
  ⟨hb, own_only h.own ho h.ne, hn, h.ge, h.ne, by have := h.num; omega⟩
theorem ScRet.of_move {n : Nat} {a : World} {x : Value} (h : SC base w g s i v out) (hn : i + n ≤ s.size) (ha : Only (FS g v) a w) (hb : Blk w' g 102 (scb s (i + n) v)) (ho : Only (· = g) w w') : ScRet base g s (i + n) v out x a (.returned x) w' :=
  ⟨rfl, v, h.moved hn hb ho, ha.trans (ho.mono fun _ _ hk => .inl hk), fun _ hk => .inl hk⟩
theorem SC.c0 (h : SC base w g s i v out) : w.cell? ⟨g, 0, none⟩ = some (.string s) := by rw [h.blk.cell]; rfl
theorem SC.c1 (h : SC base w g s i v out) : w.cell? ⟨g, 1, none⟩ = some (.int .i64 (i : Int)) := by rw [h.blk.cell]; rfl

set_option maxRecDepth 100000 in
set_option maxHeartbeats 2000000 in
theorem blank_any (h : SC base w g s i v out) (hn : i + 1 ≤ s.size) (hs : s.size ≤ 100000) :
    Calls Tryd.prog 83 #[.pointer (some ⟨g, 0, none⟩)] w (ScRet base g s (i + 1) v out (.int .i64 0) w) := by
  have H := Lib.hid h
  have HM := Lib.hid (move_any g s i 1 v w h.blk hn hs)
  clear h
  go_enter Tryd.func83, Tryd.ntmps83
  go_wp2_with fail
  refine HM.out.mono ?_
  rintro e w1 ⟨rfl, hb, ho⟩
  have HR := Lib.hid (ScRet.of_move (x := .int .i64 0) H.out hn (Only.refl _ _) hb ho)
  clear hb ho
  go_wp2_with fail
  go_ret
  exact HR.out

set_option maxRecDepth 100000 in
set_option maxHeartbeats 2000000 in
theorem sign_any {c : UInt8} (h : SC base w g s i v out) (hc : s.data.toList[i]? = some c) (hs : s.size ≤ 100000) :
    Calls Tryd.prog 82 #[.pointer (some ⟨g, 0, none⟩)] w (ScRet base g s (i + 1) v (out ++ [⟨4, ⟨#[c]⟩, 0, (posAt s.data.toList i).1, (posAt s.data.toList i).2⟩]) (.int .i64 0) w) := by
  have hi : i < s.size := by have := (List.getElem?_eq_some_iff.1 hc).1; rwa [size_list] at this
  have H := Lib.hid h
  have c0 := h.c0
  have c1 := h.c1
  have hx : s.extract i (i + 1) = ⟨#[c]⟩ := by
    rw [one_byte s i hi]
    rw [byte_at s i hi] at hc
    injection hc with hc
    rw [hc]
  have HAD := Lib.hid (add_any base g s i 1 v out 4 0 0 0 ⟨#[c]⟩ w.drew h.drew (by omega) hs (.inl (Nat.le_refl _)))
  rw [← hx] at HAD
  have HX := Lib.hid hx
  have iw : IntKind.i64.wrap ((i : Int) + 1) = (i : Int) + 1 := IntWalk.i64_in _ (by omega)
  have j0 : (i : Int) + 1 ≤ (s.size : Int) := by omega
  have j1 : ((i : Int) + 1).toNat = i + 1 := by omega
  have j2 : (i : Int) ≤ (i : Int) + 1 := by omega
  have j3 : 0 ≤ (i : Int) + 1 := by omega
  clear h hc hx
  go_enter Tryd.func82, Tryd.ntmps82
  go_wp2_with fail
  go_still_tail 16, (by kernel_rfl)
  change wpList _ _ _ _ _ w.drew
  go_wp2_with fail
  refine HAD.out.mono ?_
  rintro e w1 ⟨rfl, v', h1, h2, h3⟩
  have HR := Lib.hid (show ScRet base g s (i + 1) v (out ++ [⟨4, ⟨#[c]⟩, 0, (posAt s.data.toList i).1, (posAt s.data.toList i).2⟩]) (.int .i64 0) w (.returned (.int .i64 0)) w1 from ⟨rfl, v', by rw [HX.out] at h1; exact h1, ((Only.refl (FS g v) w).drew).trans h2, h3⟩)
  clear h1 h2 h3
  go_wp2_with fail
  go_ret
  exact HR.out

/-- bytes up to a line's end -/
def lineL (d : List UInt8) : List UInt8 := d.takeWhile (fun c => decide (c.toNat ≠ 10))
theorem index_line (d : List UInt8) : Lib.indexByte d 10 = if (lineL d).length = d.length then -1 else ((lineL d).length : Int) := by
  induction d with
  | nil => rfl
  | cons c d ih =>
    unfold lineL at ih ⊢
    rw [List.takeWhile_cons]
    unfold Lib.indexByte
    by_cases h : c = 10
    · subst h
      simp
    · have hn : c.toNat ≠ 10 := fun e => h (UInt8.toNat_inj.1 (by rw [e]; rfl))
      have hb : (c == 10) = false := beq_eq_false_iff_ne.2 h
      have hd : decide (c.toNat ≠ 10) = true := decide_eq_true hn
      rw [if_neg (by rw [hb]; exact Bool.false_ne_true), ih, if_pos hd, List.length_cons, List.length_cons]
      by_cases hl : (List.takeWhile (fun c => decide (c.toNat ≠ 10)) d).length = d.length
      · rw [if_pos hl, if_pos (show ((-1 : Int) == -1) = true from rfl), if_pos (by omega)]
      · have : ((List.takeWhile (fun c => decide (c.toNat ≠ 10)) d).length : Int) ≠ -1 := by omega
        rw [if_neg hl, if_neg (by rw [beq_eq_false_iff_ne.2 this]; exact Bool.false_ne_true), if_neg (by omega)]
        omega
theorem line_le (d : List UInt8) : (lineL d).length ≤ d.length := (List.takeWhile_sublist _).length_le
set_option maxRecDepth 100000 in
set_option maxHeartbeats 2000000 in
theorem comment_any (h : SC base w g s i v out) (hs : s.size ≤ 100000) :
    Calls Tryd.prog 84 #[.pointer (some ⟨g, 0, none⟩)] w (ScRet base g s (i + (lineL (s.data.toList.drop i)).length) v out (.int .i64 0) w) := by
  have H := Lib.hid h
  have hle := h.le
  have c0 := h.c0
  have c1 := h.c1
  have hd : (s.extract i s.size).data.toList = s.data.toList.drop i := by rw [Lib.extract_data, List.take_of_length_le (by rw [List.length_drop, size_list]; omega)]
  have hll := line_le (s.data.toList.drop i)
  rw [List.length_drop, size_list] at hll
  obtain ⟨x, hx⟩ : ∃ x, Lib.indexByte (s.data.toList.drop i) 10 = x := ⟨_, rfl⟩
  have HI := Lib.hid (fun w => index_any (s.extract i s.size) 10 x w (by rw [hd]; exact hx))
  rw [index_line] at hx
  generalize hn : (lineL (s.data.toList.drop i)).length = n at hx hll ⊢
  rw [List.length_drop, size_list] at hx
  have j0 : (i : Int) ≤ (s.size : Int) := by omega
  clear h hd hn
  by_cases he : n = s.size - i
  · rw [if_pos he] at hx
    subst hx
    have HM := Lib.hid (fun w h => move_any g s i n v w h (by omega) hs)
    have iw : IntKind.i64.wrap ((s.size : Int) - (i : Int)) = (n : Int) := by rw [IntWalk.i64_in _ (by omega)]; omega
    have HE := Lib.hid he
    clear he
    go_enter Tryd.func84, Tryd.ntmps84
    go_wp2_with fail
    go_quiet ((go_at_call 97; exact quiet_left (HI.out _)))
    have H1 := Lib.hid (H.out.drewN nq)
    have HO1 := Lib.hid ((Only.refl (FS g v) w).drewN nq)
    generalize w.drewN nq = w1 at *
    have c0 := H1.out.c0
    have c1 := H1.out.c1
    go_wp2_with fail
    go_quiet (fail)
    have H2 := Lib.hid (H1.out.drewN nq)
    have HO2 := Lib.hid (HO1.out.drewN nq)
    generalize w1.drewN nq = w2 at *
    clear H1 HO1 c0 c1
    go_wp2_with fail
    refine (HM.out _ H2.out.blk).mono ?_
    rintro e w3 ⟨rfl, hb, ho⟩
    have HR := Lib.hid (ScRet.of_move (x := .int .i64 0) H2.out (by have := HE.out; omega) HO2.out hb ho)
    clear hb ho
    go_wp2_with fail
    go_ret
    exact HR.out
  · rw [if_neg he] at hx
    subst hx
    have HM := Lib.hid (fun w h => move_any g s i n v w h (by omega) hs)
    go_enter Tryd.func84, Tryd.ntmps84
    go_wp2_with fail
    go_quiet ((go_at_call 97; exact quiet_left (HI.out _)))
    have H1 := Lib.hid (H.out.drewN nq)
    have HO1 := Lib.hid ((Only.refl (FS g v) w).drewN nq)
    generalize w.drewN nq = w1 at *
    go_wp2_with fail
    refine (HM.out _ H1.out.blk).mono ?_
    rintro e w3 ⟨rfl, hb, ho⟩
    have HR := Lib.hid (ScRet.of_move (x := .int .i64 0) H1.out (by omega) HO1.out hb ho)
    clear hb ho
    go_wp2_with fail
    go_ret
    exact HR.out
end
end Go.Proofs.YtfmdbmalmeimbaaDoor
