/- The walk of LexerQuotes. -/
import Derived.Test.YtjcampfodfbdcaaQuoteR
namespace Go.Proofs.Ytjcampfodfbdcaa
open Go.RowKit

theorem qok_range {c : UInt8} (h : qok c = true) : c.toNat = 10 ∨ (32 ≤ c.toNat ∧ c.toNat ≤ 126) := by
  unfold qok at h
  simpa using h
/-- a quoted text is read back -/
theorem txt_quote (l : List UInt8) (h : l.all qok = true) (r : List UInt8) : ∀ acc, txt (escL l ++ 34 :: r) acc = some (acc ++ l, (escL l).length + 1) := by
  induction l with
  | nil =>
    intro acc
    rw [show escL [] ++ 34 :: r = 34 :: r from rfl, txt_end rfl, List.append_nil]
    rfl
  | cons c l ih =>
    intro acc
    rw [List.all_cons, Bool.and_eq_true] at h
    have hc := qok_range h.1
    have hl := ih h.2
    rw [show escL (c :: l) = escB c ++ escL l from rfl, List.append_assoc]
    by_cases h10 : c.toNat = 10
    · have hcc : c = 10 := UInt8.toNat_inj.1 h10
      rw [escB_n h10, show ([92, 110] : List UInt8) ++ (escL l ++ 34 :: r) = 92 :: 110 :: (escL l ++ 34 :: r) from rfl, txt_escn rfl rfl, hl]
      subst hcc
      simp
    by_cases hq : c.toNat = 34 ∨ c.toNat = 92
    · rw [escB_q hq, show ([92, c] : List UInt8) ++ (escL l ++ 34 :: r) = 92 :: c :: (escL l ++ 34 :: r) from rfl, txt_esc rfl hq, hl]
      simp
    · rw [escB_p h10 hq, show [c] ++ (escL l ++ 34 :: r) = c :: (escL l ++ 34 :: r) from rfl, txt_plain (by omega) (by omega) (by omega), hl]
      simp
theorem quote_len (l : List UInt8) : (quoteL l).length = (escL l).length + 2 := by unfold quoteL; rw [List.length_cons, List.length_append]; rfl
theorem step_quote (l : List UInt8) (h : l.all qok = true) (r : List UInt8) : stepD (quoteL l ++ r) = .tok 3 l 0 (quoteL l).length := by
  unfold quoteL
  rw [List.cons_append, step_text rfl]
  unfold textS
  rw [List.append_assoc, List.singleton_append, txt_quote l h r []]
  show St.tok 3 ([] ++ l) 0 (1 + ((escL l).length + 1)) = _
  rw [List.nil_append, List.length_cons, List.length_append]
  congr 1
  show _ = (escL l).length + 1 + 1
  omega
theorem lex_quote (l : List UInt8) (h : l.all qok = true) (hl : l.length ≤ 400) : ∃ L C, lexR (32 :: quoteL l) = ⟨[⟨3, ⟨l.toArray⟩, 0, 1, 2⟩, ⟨5, ⟨#[]⟩, 0, L, C⟩], 0, 0, 0⟩ := by
  have h1 := escL_len l
  have h2 := quote_len l
  have hb : (32 :: quoteL l).length = (escL l).length + 3 := by rw [List.length_cons, h2]
  unfold lexR
  rw [if_neg (by omega)]
  rw [lexW_skip (b := 32 :: quoteL l) (i := 0) (n := 1) (by omega) (step_blank (c := 32) (r := quoteL l) (.inl rfl)) (by omega)]
  rw [lexW_tok (b := 32 :: quoteL l) (i := 0 + 1) (kind := 3) (text := l) (num := 0) (n := (quoteL l).length) (by omega) (by
    have := step_quote l h []
    rw [List.append_nil] at this
    exact this) (by omega)]
  rw [lexW_end (by omega)]
  exact ⟨_, _, rfl⟩

set_option maxRecDepth 100000 in
set_option maxHeartbeats 8000000 in
theorem quotes_walk (s : ByteArray) (W : World) :
    Calls Try.prog 8 #[.string s] W (Ret (.bool true) W) := by
  by_cases h80 : 400 < s.size
  · have i0 : 400 < (s.size : Int) := by omega
    go_enter Try.func8, Try.ntmps8
    go_wp2_with fail
    refine (awake_any W).mono ?_
    rintro e w1 ⟨rfl, hb1⟩
    have HB := Lib.hid hb1
    clear hb1
    go_wp2_with fail
    go_ret
    exact ⟨rfl, HB.out⟩
  · have i0 : ¬ 400 < (s.size : Int) := by omega
    have HC := Lib.hid (quote_any s W (by omega))
    have HD := Lib.hid (fun w => rquote_any s w (by omega))
    cases hq : s.data.toList.all qok with
    | false =>
      rw [show quoteV s.data.toList = .tuple #[.string ⟨#[]⟩, .int .i64 2] by unfold quoteV; rw [hq]; rfl] at HC HD
      clear hq h80
      go_enter Try.func8, Try.ntmps8
      go_wp2_with fail
      refine HC.out.mono ?_
      rintro e w1 ⟨rfl, hb1⟩
      have HB1 := Lib.hid hb1
      clear hb1 HC
      go_wp2_with fail
      refine (HD.out w1).mono ?_
      rintro e w2 ⟨rfl, rfl⟩
      clear HD
      go_wp2_with fail
      refine (awake_any w1).mono ?_
      rintro e w2 ⟨rfl, hb2⟩
      have HB2 := Lib.hid (HB1.out.next hb2)
      clear hb2
      go_wp2_with fail
      go_ret
      exact ⟨rfl, HB2.out⟩
    | true =>
      rw [show quoteV s.data.toList = .tuple #[.string ⟨(quoteL s.data.toList).toArray⟩, .int .i64 0] by unfold quoteV; rw [hq]; rfl] at HC HD
      obtain ⟨L, C, hlx⟩ := lex_quote s.data.toList hq (by rw [size_list]; omega)
      obtain ⟨qb, hqb⟩ : ∃ qb : ByteArray, (⟨(quoteL s.data.toList).toArray⟩ : ByteArray) = qb := ⟨_, rfl⟩
      have hqs : qb.size ≤ 1000 := by
        rw [← hqb]
        show (quoteL s.data.toList).toArray.size ≤ _
        rw [List.size_toArray, quote_len]
        have := escL_len s.data.toList
        rw [size_list] at this
        omega
      have HLX := Lib.hid (show lexR ((⟨#[32]⟩ : ByteArray) ++ qb).data.toList = ⟨[⟨3, ⟨s.data.toList.toArray⟩, 0, 1, 2⟩, ⟨5, ⟨#[]⟩, 0, L, C⟩], 0, 0, 0⟩ by
        rw [← hlx, ← hqb, show (⟨#[32]⟩ : ByteArray) = ⟨[32].toArray⟩ from rfl, cat_bytes]
        rfl)
      rw [show (⟨s.data.toList.toArray⟩ : ByteArray) = s from rfl] at HLX
      rw [hqb] at HC HD
      have i1 : ¬ 9223372036854775807 < 1 + qb.size := by omega
      clear hq h80 hlx hqb
      go_enter Try.func8, Try.ntmps8
      go_wp2_with fail
      refine HC.out.mono ?_
      rintro e w1 ⟨rfl, hb1⟩
      have HB1 := Lib.hid hb1
      clear hb1 HC
      go_wp2_with fail
      refine (HD.out w1).mono ?_
      rintro e w2 ⟨rfl, rfl⟩
      clear HD
      go_wp2_with fail
      refine (tokens_row _ w1 HLX.out).mono ?_
      rintro e w2 ⟨A1, c1, rfl, hk, hb⟩
      obtain ⟨g, t, rfl, hg, ht, h5⟩ := hk.at_ (k := 0) (by simp)
      obtain rfl : t = ⟨3, s, 0, 1, 2⟩ := by simpa using ht.symm
      have HB2 := Lib.hid ((HB1.out.next hb).al (.cells #[.int .i64 0, .int .i64 0] 34))
      have c10 : w2.cell? ⟨g, 0, none⟩ = some (.int .i64 3) := h5.c0
      have c11 : w2.cell? ⟨g, 1, none⟩ = some (.string s) := h5.c1
      have c12 : w2.cell? ⟨g, 2, none⟩ = some (.int .i64 0) := h5.c2
      have c13 : w2.cell? ⟨g, 3, none⟩ = some (.int .i64 1) := h5.c3
      have c14 : w2.cell? ⟨g, 4, none⟩ = some (.int .i64 2) := h5.c4
      clear hk hb ht h5 HB1
      go_wp2_with fail
      refine (awake_any _).mono ?_
      rintro e w3 ⟨rfl, hb⟩
      have HB3 := Lib.hid (HB2.out.next hb)
      clear hb
      go_wp2_with fail
      go_ret
      exact ⟨rfl, HB3.out⟩
end Go.Proofs.Ytjcampfodfbdcaa
