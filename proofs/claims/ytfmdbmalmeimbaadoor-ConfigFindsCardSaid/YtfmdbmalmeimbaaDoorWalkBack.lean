/- ConfigBack: the walk. -/
import Derived.Test.YtfmdbmalmeimbaaDoorWalkWrites
namespace Go.Proofs.YtfmdbmalmeimbaaDoor
open Go.RowKit
set_option maxRecDepth 100000

/-- a tree that can be written -/
structure FT (l : List Nd) : Prop where
  fit : Fit l
  cnt : cntL l ≤ 1000000
  lines : (linesF 8 0 l).length ≤ 140737488355328
  small : Small l
theorem ft_made {l : List Nd} (h : Made 3 l) : FT l := ⟨made_fit h, by have := made_cnt h; omega, made_lines h, made_small h⟩
theorem ft_parse (b : List UInt8) : FT (parseR b).1 := by
  obtain ⟨h1, h2, h3, h4⟩ := parseR_good b
  refine ⟨h2.fit (by omega), by omega, ?_, h2.small (by omega)⟩
  have h5 := lines_len 8 0 (Nat.le_refl _) _ h2
  have h6 : cntL (parseR b).1 * 20000000000 ≤ 1024 * 20000000000 := Nat.mul_le_mul_right _ h3
  omega
/-- a tree that can be written, in memory, at a world behind -/
structure GTr (W w : World) (v : Value) (l : List Nd) : Prop where
  ft : FT l
  nl : NL w (fun g => g < w.heap.size) v l
  bel : Below W.heap.size W w
theorem GTr.up {W w w' : World} {v : Value} {l : List Nd} (h : GTr W w v l) (hb : Below w.heap.size w w') : GTr W w' v l := ⟨h.ft, nl_in (h.nl.up hb), h.bel.next hb⟩
theorem GTr.form {W w : World} {v : Value} {l : List Nd} (h : GTr W w v l) : ∃ A c, v = .slice A l.length c := by obtain ⟨A, c, e, _⟩ := h.nl.form; exact ⟨A, c, e⟩
theorem GTr.of {W w : World} {v : Value} {l : List Nd} (h : MT W w v l) : GTr W w v l := ⟨ft_made h.made, h.nl, h.bel⟩
theorem GTr.fmt {W w : World} {A : Option Addr} {c : Nat} {l : List Nd} (h : GTr W w (.slice A l.length c) l) (ht : Lib.TabIs Tryd.prog w "internal/strconv.uint64pow10" .u64 Lib.pow10Tab) : Calls Tryd.prog 18 #[.slice A l.length c] w (FormatRet l w) :=
  format_all h.nl h.ft.fit h.ft.cnt h.ft.lines ht
theorem GTr.rsame {W w : World} {A B : Option Addr} {c d : Nat} {l : List Nd} (h : GTr W w (.slice A l.length c) l) (h2 : GTr W w (.slice B l.length d) l) : Calls Tryd.prog 20 #[.slice A l.length c, .slice B l.length d] w (Ret (.bool true) w) :=
  rsame_nodes _ l l (Nat.lt_succ_self _) h.nl h2.nl (by simp) h.ft.small h.ft.small
theorem GTr.csame {W w : World} {A B : Option Addr} {c d : Nat} {l : List Nd} (h : GTr W w (.slice A l.length c) l) (h2 : GTr W w (.slice B l.length d) l) : Calls Tryd.prog 22 #[.slice A l.length c, .slice B l.length d] w (Ret (.bool true) w) :=
  csame_any _ l l (Nat.lt_succ_self _) h.nl h2.nl (by simp) h.ft.small h.ft.small
/-- Parse at a world behind -/
theorem parse_g {W w : World} (t : ByteArray) (hb : Below W.heap.size W w) {l : List Nd} {li co : Nat} {er : Int} (hr : parseR t.data.toList = (l, li, co, er)) : Calls Tryd.prog 19 #[.string t] w (fun e w' => ∃ A c, e = .returned (.tuple #[.slice A l.length c, .agg #[.int .i64 (li : Int), .int .i64 (co : Int)], .int .i64 er]) ∧ GTr W w' (.slice A l.length c) l ∧ Below w.heap.size w w') := by
  have h := pparse_any t w
  have hf := ft_parse t.data.toList
  rw [hr] at h hf
  refine h.mono fun e w' ⟨v, he, hnl, hbw⟩ => ?_
  obtain ⟨A, c, rfl, _⟩ := id hnl.form
  exact ⟨A, c, he, ⟨hf, nl_in hnl, hb.next hbw⟩, hbw⟩
/-- what Format answers of a tree: the text is read back as this tree -/
theorem format_what (l : List Nd) : (∃ er, (formatR l).2 = er ∧ er ≠ 0) ∨ ((formatR l).2 = 0 ∧ parseR (formatR l).1.data.toList = (l, 0, 0, 0)) := by
  by_cases h : (formatR l).2 = 0
  · rcases format_back (format_ok h) with h2 | h2
    · rw [h2.1] at h; exact absurd h (by decide)
    · exact .inr h2
  · exact .inl ⟨_, rfl, h⟩
set_option maxHeartbeats 16000000 in
theorem back_walk (A : Option Addr) (n c : Nat) (zs : List Int) (raw : ByteArray) (W : World) (hn : n ≤ c) (hc : c ≤ maxLen) (hr : Reads W W.heap.size 1 A n (I zs)) (ht : Tab10 W) :
    Calls Tryd.prog 5 #[.slice A n c, .string raw] W (Ret (.bool true) W) := by
  have HT := Lib.hid (show ∀ W', Below W.heap.size W W' → Lib.TabIs Tryd.prog W' "internal/strconv.uint64pow10" .u64 Lib.pow10Tab from Lib.tabBelow_of_tabIs ht)
  have HN := Lib.hid (srcNew_any A n c zs W hn hc hr)
  clear ht hr hn hc
  by_cases h3 : 300 < raw.size
  · have z : (300 : Int) < (raw.size : Int) := by omega
    go_enter Tryd.func5, Tryd.ntmps5
    go_wp2_with fail
    refine (awake_any (HT.out _ (Below.refl _ _))).mono ?_
    rintro e w1 ⟨rfl, hb1⟩
    go_wp2_with fail
    go_ret
    exact ⟨rfl, hb1⟩
  have z : ¬ (300 : Int) < (raw.size : Int) := by omega
  obtain ⟨⟨y, li, co, er⟩, hpr⟩ : ∃ r, parseR raw.data.toList = r := ⟨_, rfl⟩
  have HPR := Lib.hid hpr
  have HYF := Lib.hid (show formedF 8 y = true by have := (parseR_good raw.data.toList).1; rw [hpr] at this; exact this)
  clear h3 hpr
  go_enter Tryd.func5, Tryd.ntmps5
  go_wp2_with fail
  refine HN.out.mono ?_
  rintro e w1 ⟨rfl, hs1, hb1⟩
  have HTR := Lib.hid (tree3 hs1 hb1)
  clear hs1 hb1 HN
  go_wp2_with fail
  refine HTR.out.mono ?_
  rintro e w2 ⟨v, l, rfl, hm⟩
  obtain ⟨A2, c2, rfl⟩ := hm.form
  have HM := Lib.hid (GTr.of hm)
  have hf := HM.out.fmt (HT.out _ HM.out.bel)
  have hw := format_what l
  unfold FormatRet at hf
  obtain ⟨⟨t, e1⟩, hfr⟩ : ∃ r, formatR l = r := ⟨_, rfl⟩
  rw [hfr] at hf hw
  simp only at hf hw
  have HF := Lib.hid hf
  clear hm hf hfr HTR
  go_wp2_with fail
  refine HF.out.mono ?_
  rintro e w3 ⟨rfl, hb3⟩
  have HM3 := Lib.hid (HM.out.up hb3)
  clear hb3 HM HF
  rcases hw with ⟨_, rfl, he1⟩ | ⟨rfl, hp1⟩
  · have q1 : (e1 == 0) = false := beq_eq_false_iff_ne.2 he1
    have HBX := Lib.hid HM3.out.bel
    clear he1 HM3
    by_cases he : er = 0
    case neg =>
      have q9 : (er == 0) = false := beq_eq_false_iff_ne.2 he
      clear he
      go_wp2_with fail
      refine (parse_g raw HBX.out HPR.out).mono ?_
      rintro e w5 ⟨A5, c5, rfl, hg5, hb5⟩
      have HB5 := Lib.hid (hg5.bel.al (.cells #[.int .i64 (li : Int), .int .i64 (co : Int)] 37))
      clear hg5 hb5
      go_wp2_with fail
      refine (awake_any (HT.out _ HB5.out)).mono ?_
      rintro e w6 ⟨rfl, hb6⟩
      have HB6 := Lib.hid (HB5.out.next hb6)
      clear hb6
      go_wp2_with fail
      go_ret
      exact ⟨rfl, HB6.out⟩
    subst he
    go_wp2_with fail
    refine (parse_g raw HBX.out HPR.out).mono ?_
    rintro e w5 ⟨A5, c5, rfl, hg5, hb5⟩
    have HG5 := Lib.hid (hg5.up ((Below.refl _ _).al (.cells #[.int .i64 (li : Int), .int .i64 (co : Int)] 37)))
    have hf2 := HG5.out.fmt (HT.out _ HG5.out.bel)
    have hw2 := format_back HYF.out
    unfold FormatRet at hf2
    obtain ⟨⟨t2, e2⟩, hfr2⟩ : ∃ r, formatR y = r := ⟨_, rfl⟩
    rw [hfr2] at hf2 hw2
    simp only at hf2 hw2
    have HF2 := Lib.hid hf2
    clear hg5 hb5 hf2 hfr2
    go_wp2_with fail
    refine HF2.out.mono ?_
    rintro e w6 ⟨rfl, hb6⟩
    have HG6 := Lib.hid (HG5.out.up hb6)
    clear hb6 HG5 HF2
    rcases hw2 with ⟨rfl, rfl⟩ | ⟨rfl, hp2⟩
    · obtain ⟨⟨z2, li2, co2, er2⟩, hpr2⟩ : ∃ r, parseR (⟨#[]⟩ : ByteArray).data.toList = r := ⟨_, rfl⟩
      have HPR2 := Lib.hid hpr2
      clear hpr2
      go_wp2_with fail
      refine (parse_g ⟨#[]⟩ HG6.out.bel HPR2.out).mono ?_
      rintro e w7 ⟨A7, c7, rfl, hg7, hb7⟩
      have HB7 := Lib.hid (hg7.bel.al (.cells #[.int .i64 (li2 : Int), .int .i64 (co2 : Int)] 37))
      clear hg7 hb7
      go_wp2_with fail
      refine (awake_any (HT.out _ HB7.out)).mono ?_
      rintro e w8 ⟨rfl, hb8⟩
      have HB8 := Lib.hid (HB7.out.next hb8)
      clear hb8
      go_wp2_with fail
      go_ret
      exact ⟨rfl, HB8.out⟩
    · have HPR2 := Lib.hid hp2
      clear hp2
      go_wp2_with fail
      refine (parse_g t2 HG6.out.bel HPR2.out).mono ?_
      rintro e w7 ⟨A7, c7, rfl, hg7, hb7⟩
      have HG7 := Lib.hid (hg7.up ((Below.refl _ _).al (.cells #[.int .i64 0, .int .i64 0] 37)))
      have HG67 := Lib.hid ((HG6.out.up hb7).up ((Below.refl _ _).al (.cells #[.int .i64 0, .int .i64 0] 37)))
      clear hg7 hb7
      go_wp2_with fail
      refine (HG67.out.rsame HG7.out).mono ?_
      rintro e w8 ⟨rfl, hb8⟩
      have HB8 := Lib.hid (HG7.out.bel.next hb8)
      clear hb8
      go_wp2_with fail
      refine (awake_any (HT.out _ HB8.out)).mono ?_
      rintro e w9 ⟨rfl, hb9⟩
      have HB9 := Lib.hid (HB8.out.next hb9)
      clear hb9
      go_wp2_with fail
      go_ret
      exact ⟨rfl, HB9.out⟩
  · have HP1 := Lib.hid hp1
    clear hp1
    go_wp2_with fail
    refine (parse_g t HM3.out.bel HP1.out).mono ?_
    rintro e w4 ⟨A4, c4, rfl, hg4, hb4⟩
    have HG4 := Lib.hid (hg4.up ((Below.refl _ _).al (.cells #[.int .i64 0, .int .i64 0] 37)))
    have HM4 := Lib.hid ((HM3.out.up hb4).up ((Below.refl _ _).al (.cells #[.int .i64 0, .int .i64 0] 37)))
    clear hg4 hb4 HM3
    go_wp2_with fail
    refine (HM4.out.rsame HG4.out).mono ?_
    rintro e wx ⟨rfl, hbx⟩
    have HBX := Lib.hid (HG4.out.bel.next hbx)
    clear hbx HM4 HG4
    by_cases he : er = 0
    case neg =>
      have q9 : (er == 0) = false := beq_eq_false_iff_ne.2 he
      clear he
      go_wp2_with fail
      refine (parse_g raw HBX.out HPR.out).mono ?_
      rintro e w5 ⟨A5, c5, rfl, hg5, hb5⟩
      have HB5 := Lib.hid (hg5.bel.al (.cells #[.int .i64 (li : Int), .int .i64 (co : Int)] 37))
      clear hg5 hb5
      go_wp2_with fail
      refine (awake_any (HT.out _ HB5.out)).mono ?_
      rintro e w6 ⟨rfl, hb6⟩
      have HB6 := Lib.hid (HB5.out.next hb6)
      clear hb6
      go_wp2_with fail
      go_ret
      exact ⟨rfl, HB6.out⟩
    subst he
    go_wp2_with fail
    refine (parse_g raw HBX.out HPR.out).mono ?_
    rintro e w5 ⟨A5, c5, rfl, hg5, hb5⟩
    have HG5 := Lib.hid (hg5.up ((Below.refl _ _).al (.cells #[.int .i64 (li : Int), .int .i64 (co : Int)] 37)))
    have hf2 := HG5.out.fmt (HT.out _ HG5.out.bel)
    have hw2 := format_back HYF.out
    unfold FormatRet at hf2
    obtain ⟨⟨t2, e2⟩, hfr2⟩ : ∃ r, formatR y = r := ⟨_, rfl⟩
    rw [hfr2] at hf2 hw2
    simp only at hf2 hw2
    have HF2 := Lib.hid hf2
    clear hg5 hb5 hf2 hfr2
    go_wp2_with fail
    refine HF2.out.mono ?_
    rintro e w6 ⟨rfl, hb6⟩
    have HG6 := Lib.hid (HG5.out.up hb6)
    clear hb6 HG5 HF2
    rcases hw2 with ⟨rfl, rfl⟩ | ⟨rfl, hp2⟩
    · obtain ⟨⟨z2, li2, co2, er2⟩, hpr2⟩ : ∃ r, parseR (⟨#[]⟩ : ByteArray).data.toList = r := ⟨_, rfl⟩
      have HPR2 := Lib.hid hpr2
      clear hpr2
      go_wp2_with fail
      refine (parse_g ⟨#[]⟩ HG6.out.bel HPR2.out).mono ?_
      rintro e w7 ⟨A7, c7, rfl, hg7, hb7⟩
      have HB7 := Lib.hid (hg7.bel.al (.cells #[.int .i64 (li2 : Int), .int .i64 (co2 : Int)] 37))
      clear hg7 hb7
      go_wp2_with fail
      refine (awake_any (HT.out _ HB7.out)).mono ?_
      rintro e w8 ⟨rfl, hb8⟩
      have HB8 := Lib.hid (HB7.out.next hb8)
      clear hb8
      go_wp2_with fail
      go_ret
      exact ⟨rfl, HB8.out⟩
    · have HPR2 := Lib.hid hp2
      clear hp2
      go_wp2_with fail
      refine (parse_g t2 HG6.out.bel HPR2.out).mono ?_
      rintro e w7 ⟨A7, c7, rfl, hg7, hb7⟩
      have HG7 := Lib.hid (hg7.up ((Below.refl _ _).al (.cells #[.int .i64 0, .int .i64 0] 37)))
      have HG67 := Lib.hid ((HG6.out.up hb7).up ((Below.refl _ _).al (.cells #[.int .i64 0, .int .i64 0] 37)))
      clear hg7 hb7
      go_wp2_with fail
      refine (HG67.out.rsame HG7.out).mono ?_
      rintro e w8 ⟨rfl, hb8⟩
      have HB8 := Lib.hid (HG7.out.bel.next hb8)
      clear hb8
      go_wp2_with fail
      refine (awake_any (HT.out _ HB8.out)).mono ?_
      rintro e w9 ⟨rfl, hb9⟩
      have HB9 := Lib.hid (HB8.out.next hb9)
      clear hb9
      go_wp2_with fail
      go_ret
      exact ⟨rfl, HB9.out⟩
end Go.Proofs.YtfmdbmalmeimbaaDoor
