/- agrees: all functions answer as the reference (printed by genAgrees.py). -/
import Derived.Test.YtkifopombddcjaaRef5
namespace Go.Proofs.Ytkifopombddcjaa
open Go.RowKit

theorem hit_at {l : List Tg} (h : OkL 0 l) {at_ : Int} (h0 : 0 ≤ at_) (h1 : at_ < sumL l) : ∃ (i : Nat) (t : Tg), l[i]? = some t ∧ t.start ≤ at_ ∧ at_ < t.start + t.len := by
  obtain ⟨x, t, ht, h2, h3, _⟩ := leads_some h h0 (by omega)
  obtain ⟨i, hi⟩ := List.getElem?_of_mem ht
  exact ⟨i, t, hi, h2, h3⟩
/-- both Finds answer alike -/
theorem find_both (l : List Tg) (at_ : Int) (hl : l.length ≤ 64) : ∃ (x y : Int) (b : Bool),
    (∀ (A : Option Addr) (c : Nat) (w : World), TRow w w.heap.size A l → Calls Try.prog 31 #[.slice A l.length c, .int .i64 at_] w (Ret (.tuple #[.int .i64 x, .int .i64 y, .bool b]) w)) ∧
    (∀ (A : Option Addr) (c : Nat) (w : World), TRow w w.heap.size A l → Calls Try.prog 33 #[.slice A l.length c, .int .i64 at_] w (Ret (.tuple #[.int .i64 x, .int .i64 y, .bool b]) w)) := by
  by_cases hm : checkE l ≠ 0 ∨ at_ < 0 ∨ sumL l ≤ at_
  · refine ⟨0, 0, false, fun A c w h => tfind_miss (by omega) h hm, fun A c w h => (rfind_any hl h).mono ?_⟩
    rintro e w' (⟨h1, h2, h3, _⟩ | ⟨_, h⟩)
    · exfalso
      rcases hm with hm | hm | hm
      · exact hm h1
      · omega
      · omega
    · exact h
  · have hck : checkE l = 0 := Decidable.byContradiction fun h => hm (.inl h)
    have h0 : 0 ≤ at_ := by
      rcases Int.lt_or_le at_ 0 with h | h
      · exact absurd (.inr (.inl h)) hm
      · exact h
    have h1 : at_ < sumL l := by
      rcases Int.lt_or_le at_ (sumL l) with h | h
      · exact h
      · exact absurd (.inr (.inr h)) hm
    have hok := ((check_iff l).1 hck).2
    obtain ⟨i, t, ht, h2, h3⟩ := hit_at hok h0 h1
    have key : ∀ (w : World) (e : Ending) (w' : World), Find3Ret l at_ w e w' → Ret (.tuple #[.int .i64 (i : Int), .int .i64 (at_ - t.start), .bool true]) w e w' := by
      rintro w e w' ⟨j, u, hu, k1, k2, rfl, hb⟩
      obtain rfl : i = j := find_one hok ht hu h2 h3 k1 k2
      obtain rfl : t = u := Option.some.inj (ht.symm.trans hu)
      exact ⟨rfl, hb⟩
    refine ⟨i, at_ - t.start, true, fun A c w h => (tfind_hit hck h h0 h1).mono fun e w' h => key w e w' h, fun A c w h => (rfind_any hl h).mono ?_⟩
    rintro e w' (⟨_, _, _, h⟩ | ⟨h4, _⟩)
    · exact key w e w' h
    · exact absurd h4 hm
def PRow2 (w : World) (A : Option Addr) (l : List Pc) : Prop := PRow w w.heap.size A l
section
variable {A A1 A2 : Option Addr} {c c1 c2 : Nat} {a b : List Tg} {w : World}
theorem rsplit_row {lo n : Int} (hl : a.length ≤ 64) (h : TRow w w.heap.size A a) {ps : List Pc} (hps : splitP a lo n = ps) {er : Int} (he : splitE a lo n = er) :
    Calls Try.prog 34 #[.slice A a.length c, .int .i64 lo, .int .i64 n] w (SplitRow ps er w) := by
  subst hps he
  refine (rsplit_any A c a lo n w hl h).mono ?_
  rintro e w' ⟨v, rfl, ho, hb⟩
  obtain ⟨A, c, rfl, hr⟩ := own_prow ho
  exact ⟨A, c, rfl, hr, hb⟩
theorem rcut_row {lo n : Int} (hl : a.length ≤ 64) (h : TRow w w.heap.size A a) {ts : List Tg} (hts : cutT a lo n = ts) {er : Int} (he : splitE a lo n = er) :
    Calls Try.prog 35 #[.slice A a.length c, .int .i64 lo, .int .i64 n] w (TabRow ts er w) := by
  subst hts he
  exact (rcut_any A c a lo n w hl h).mono fun _ _ h => h.row
theorem rjoin_row (hn : a.length + b.length ≤ 64) (h1 : TRow w w.heap.size A1 a) (h2 : TRow w w.heap.size A2 b) {ts : List Tg} (hts : joinT a b = ts) {er : Int} (he : joinE a b = er) :
    Calls Try.prog 36 #[.slice A1 a.length c1, .slice A2 b.length c2] w (TabRow ts er w) := by
  subst hts he
  exact (rjoin_any A1 A2 c1 c2 a b w hn h1 h2).mono fun _ _ h => h.row
theorem rmerge_row (hl : a.length ≤ 64) (h : TRow w w.heap.size A a) {ts : List Tg} (hts : mergeT a = ts) : Calls Try.prog 39 #[.slice A a.length c] w (OneRow ts w) := by
  subst hts
  exact (rmerge_any A c a w hl h).mono fun _ _ h => h.row
theorem ruses_row (hl : a.length ≤ 64) (h : TRow w w.heap.size A a) {ts : List ByteArray} (hts : usesL a = ts) : Calls Try.prog 38 #[.slice A a.length c] w (TextsRow ts w) := by
  subst hts
  exact (ruses_any (by omega) h).mono fun _ _ h => h.row
theorem tcheck_row (hl : a.length ≤ 64) (h : TRow w w.heap.size A a) {er : Int} (he : checkE a = er) : Calls Try.prog 26 #[.slice A a.length c] w (Ret (.int .i64 er) w) := by
  subst he
  exact check_any A c a w _ (Nat.le_refl _) (by omega) h
end
structure Plan4 (l m : List Tg) (at_ n : Int) (ps : List Pc) (se ce je : Int) (u j q : List Tg) (s : List ByteArray) (sz : Int) : Prop where
  pp : splitP l at_ n = ps
  pe : splitE l at_ n = se
  pu : cutT l at_ n = u
  pj : joinT l m = j
  pje : joinE l m = je
  pq : mergeT l = q
  pus : usesL l = s
  pc : checkE l = ce
  psz : sizeV l = sz
  lps : ps.length ≤ 64
  lu : u.length ≤ 64
  lj : j.length ≤ 64
  lq : q.length ≤ 64
  ls : s.length ≤ 64
theorem plan4 {l m : List Tg} {at_ n : Int} (hl : l.length ≤ 7) (hm : m.length ≤ 7) : ∃ ps se ce je u j q s sz, Plan4 l m at_ n ps se ce je u j q s sz := by
  have h1 : (splitP l at_ n).length ≤ 7 := by
    unfold splitP
    split
    · exact Nat.le_trans (pcs_len _ _ _ _) hl
    · simp
  refine ⟨_, _, _, _, _, _, _, _, _, rfl, rfl, rfl, rfl, rfl, rfl, rfl, rfl, rfl, by omega, ?_, ?_, ?_, ?_⟩
  · unfold cutT; rw [cutW_len]; omega
  · unfold joinT
    split
    · rw [List.length_append, List.length_map]; omega
    · simp
  · unfold mergeT
    split
    · have := merge_le l; omega
    · simp
  · have := uses_len l; omega

set_option maxRecDepth 100000 in
set_option maxHeartbeats 8000000 in
theorem agrees_any {A B : Option Addr} {ca cb : Nat} {l m : List Tg} {at_ n : Int} {w : World} (hl : l.length ≤ 7) (hm : m.length ≤ 7) (h1 : TRow w w.heap.size A l) (h2 : TRow w w.heap.size B m) (hat : -9223372036854775808 ≤ at_ ∧ at_ ≤ 9223372036854775807) :
    Calls Try.prog 22 #[.slice A l.length ca, .slice B m.length cb, .int .i64 at_, .int .i64 n] w (Ret (.bool true) w) := by
  obtain ⟨x, y, b, hf1, hf2⟩ := find_both l at_ (by omega)
  obtain ⟨ps, se, ce, je, u, j, q, s, sz, hplan⟩ := plan4 (l := l) (m := m) (at_ := at_) (n := n) hl hm
  have HF1 := Lib.hid hf1
  have HF2 := Lib.hid hf2
  have HP := Lib.hid hplan
  have HAT := Lib.hid hat
  have HRl0 := Lib.hid h1
  have HRm0 := Lib.hid h2
  have HB0 := Lib.hid (Below.refl w.heap.size w)
  have hl64 : l.length ≤ 64 := by omega
  have hm64 : m.length ≤ 64 := by omega
  have hlm : l.length + m.length ≤ 64 := by omega
  have hpl := hplan.lps
  clear hf1 hf2 hplan hat h1 h2
  go_enter Try.func22, Try.ntmps22
  go_wp2_with fail
  refine (HF1.out A ca _ HRl0.out).mono ?_
  rintro e w1 ⟨rfl, hb⟩
  have HB1 := Lib.hid (HB0.out.next hb)
  have HRl1 := Lib.hid (HRl0.out.up hb)
  have HRm1 := Lib.hid (HRm0.out.up hb)
  clear hb  HB0 HRl0 HRm0
  go_wp2_with fail
  refine (HF2.out A ca _ HRl1.out).mono ?_
  rintro e w2 ⟨rfl, hb⟩
  have HB2 := Lib.hid (HB1.out.next hb)
  have HRl2 := Lib.hid (HRl1.out.up hb)
  have HRm2 := Lib.hid (HRm1.out.up hb)
  clear hb  HB1 HRl1 HRm1
  go_wp2_with fail
  refine (split_row hl64 HRl2.out HAT.out HP.out.pp HP.out.pe).mono ?_
  rintro e w3 ⟨A1, c1, rfl, hr, hb⟩
  have HB3 := Lib.hid (HB2.out.next hb)
  have HRl3 := Lib.hid (HRl2.out.up hb)
  have HRm3 := Lib.hid (HRm2.out.up hb)
  have HRp13 := Lib.hid hr
  clear hb hr HB2 HRl2 HRm2
  go_wp2_with fail
  refine (rsplit_row hl64 HRl3.out HP.out.pp HP.out.pe).mono ?_
  rintro e w4 ⟨A2, c2, rfl, hr, hb⟩
  have HB4 := Lib.hid (HB3.out.next hb)
  have HRl4 := Lib.hid (HRl3.out.up hb)
  have HRm4 := Lib.hid (HRm3.out.up hb)
  have HRp14 := Lib.hid (HRp13.out.up hb)
  have HRp24 := Lib.hid hr
  clear hb hr HB3 HRl3 HRm3 HRp13
  go_wp2_with fail
  refine (cut_row hl64 HRl4.out HAT.out HP.out.pu HP.out.pe).mono ?_
  rintro e w5 ⟨A3, c3, rfl, hr, hb⟩
  have HB5 := Lib.hid (HB4.out.next hb)
  have HRl5 := Lib.hid (HRl4.out.up hb)
  have HRm5 := Lib.hid (HRm4.out.up hb)
  have HRp15 := Lib.hid (HRp14.out.up hb)
  have HRp25 := Lib.hid (HRp24.out.up hb)
  have HRu5 := Lib.hid hr
  clear hb hr HB4 HRl4 HRm4 HRp14 HRp24
  go_wp2_with fail
  refine (rcut_row hl64 HRl5.out HP.out.pu HP.out.pe).mono ?_
  rintro e w6 ⟨A4, c4, rfl, hr, hb⟩
  have HB6 := Lib.hid (HB5.out.next hb)
  have HRl6 := Lib.hid (HRl5.out.up hb)
  have HRm6 := Lib.hid (HRm5.out.up hb)
  have HRp16 := Lib.hid (HRp15.out.up hb)
  have HRp26 := Lib.hid (HRp25.out.up hb)
  have HRu6 := Lib.hid (HRu5.out.up hb)
  have HRv6 := Lib.hid hr
  clear hb hr HB5 HRl5 HRm5 HRp15 HRp25 HRu5
  go_wp2_with fail
  refine (join_row hl64 hm64 HRl6.out HRm6.out HP.out.pj HP.out.pje).mono ?_
  rintro e w7 ⟨A5, c5, rfl, hr, hb⟩
  have HB7 := Lib.hid (HB6.out.next hb)
  have HRl7 := Lib.hid (HRl6.out.up hb)
  have HRm7 := Lib.hid (HRm6.out.up hb)
  have HRp17 := Lib.hid (HRp16.out.up hb)
  have HRp27 := Lib.hid (HRp26.out.up hb)
  have HRu7 := Lib.hid (HRu6.out.up hb)
  have HRv7 := Lib.hid (HRv6.out.up hb)
  have HRj7 := Lib.hid hr
  clear hb hr HB6 HRl6 HRm6 HRp16 HRp26 HRu6 HRv6
  go_wp2_with fail
  refine (rjoin_row hlm HRl7.out HRm7.out HP.out.pj HP.out.pje).mono ?_
  rintro e w8 ⟨A6, c6, rfl, hr, hb⟩
  have HB8 := Lib.hid (HB7.out.next hb)
  have HRl8 := Lib.hid (HRl7.out.up hb)
  have HRp18 := Lib.hid (HRp17.out.up hb)
  have HRp28 := Lib.hid (HRp27.out.up hb)
  have HRu8 := Lib.hid (HRu7.out.up hb)
  have HRv8 := Lib.hid (HRv7.out.up hb)
  have HRj8 := Lib.hid (HRj7.out.up hb)
  have HRk8 := Lib.hid hr
  clear hb hr HB7 HRl7 HRm7 HRp17 HRp27 HRu7 HRv7 HRj7
  go_wp2_with fail
  refine (tcheck_row hl64 HRl8.out HP.out.pc).mono ?_
  rintro e w9 ⟨rfl, hb⟩
  have HB9 := Lib.hid (HB8.out.next hb)
  have HRl9 := Lib.hid (HRl8.out.up hb)
  have HRp19 := Lib.hid (HRp18.out.up hb)
  have HRp29 := Lib.hid (HRp28.out.up hb)
  have HRu9 := Lib.hid (HRu8.out.up hb)
  have HRv9 := Lib.hid (HRv8.out.up hb)
  have HRj9 := Lib.hid (HRj8.out.up hb)
  have HRk9 := Lib.hid (HRk8.out.up hb)
  clear hb  HB8 HRl8 HRp18 HRp28 HRu8 HRv8 HRj8 HRk8
  go_wp2_with fail
  refine (rcheck_row hl64 HRl9.out HP.out.pc).mono ?_
  rintro e w10 ⟨rfl, hb⟩
  have HB10 := Lib.hid (HB9.out.next hb)
  have HRl10 := Lib.hid (HRl9.out.up hb)
  have HRp110 := Lib.hid (HRp19.out.up hb)
  have HRp210 := Lib.hid (HRp29.out.up hb)
  have HRu10 := Lib.hid (HRu9.out.up hb)
  have HRv10 := Lib.hid (HRv9.out.up hb)
  have HRj10 := Lib.hid (HRj9.out.up hb)
  have HRk10 := Lib.hid (HRk9.out.up hb)
  clear hb  HB9 HRl9 HRp19 HRp29 HRu9 HRv9 HRj9 HRk9
  go_wp2_with fail
  refine (tsize_row hl64 HRl10.out HP.out.psz).mono ?_
  rintro e w11 ⟨rfl, hb⟩
  have HB11 := Lib.hid (HB10.out.next hb)
  have HRl11 := Lib.hid (HRl10.out.up hb)
  have HRp111 := Lib.hid (HRp110.out.up hb)
  have HRp211 := Lib.hid (HRp210.out.up hb)
  have HRu11 := Lib.hid (HRu10.out.up hb)
  have HRv11 := Lib.hid (HRv10.out.up hb)
  have HRj11 := Lib.hid (HRj10.out.up hb)
  have HRk11 := Lib.hid (HRk10.out.up hb)
  clear hb  HB10 HRl10 HRp110 HRp210 HRu10 HRv10 HRj10 HRk10
  go_wp2_with fail
  refine (rsize_row hl64 HRl11.out HP.out.psz).mono ?_
  rintro e w12 ⟨rfl, hb⟩
  have HB12 := Lib.hid (HB11.out.next hb)
  have HRl12 := Lib.hid (HRl11.out.up hb)
  have HRp112 := Lib.hid (HRp111.out.up hb)
  have HRp212 := Lib.hid (HRp211.out.up hb)
  have HRu12 := Lib.hid (HRu11.out.up hb)
  have HRv12 := Lib.hid (HRv11.out.up hb)
  have HRj12 := Lib.hid (HRj11.out.up hb)
  have HRk12 := Lib.hid (HRk11.out.up hb)
  clear hb  HB11 HRl11 HRp111 HRp211 HRu11 HRv11 HRj11 HRk11
  go_wp2_with fail
  refine (same_row HP.out.lu HRu12.out HRv12.out rfl).mono ?_
  rintro e w13 ⟨rfl, hb⟩
  have HB13 := Lib.hid (HB12.out.next hb)
  have HRl13 := Lib.hid (HRl12.out.up hb)
  have HRp113 := Lib.hid (HRp112.out.up hb)
  have HRp213 := Lib.hid (HRp212.out.up hb)
  have HRj13 := Lib.hid (HRj12.out.up hb)
  have HRk13 := Lib.hid (HRk12.out.up hb)
  clear hb  HB12 HRl12 HRp112 HRp212 HRu12 HRv12 HRj12 HRk12
  go_wp2_with fail
  refine (same_row HP.out.lj HRj13.out HRk13.out rfl).mono ?_
  rintro e w14 ⟨rfl, hb⟩
  have HB14 := Lib.hid (HB13.out.next hb)
  have HRl14 := Lib.hid (HRl13.out.up hb)
  have HRp114 := Lib.hid (HRp113.out.up hb)
  have HRp214 := Lib.hid (HRp213.out.up hb)
  clear hb  HB13 HRl13 HRp113 HRp213 HRj13 HRk13
  go_wp2_with fail
  refine (uses_row hl64 HRl14.out HP.out.pus).mono ?_
  rintro e w15 ⟨A7, c7, rfl, hr, hb⟩
  have HB15 := Lib.hid (HB14.out.next hb)
  have HRl15 := Lib.hid (HRl14.out.up hb)
  have HRp115 := Lib.hid (HRp114.out.up hb)
  have HRp215 := Lib.hid (HRp214.out.up hb)
  have HRs15 := Lib.hid hr
  clear hb hr HB14 HRl14 HRp114 HRp214
  go_wp2_with fail
  refine (ruses_row hl64 HRl15.out HP.out.pus).mono ?_
  rintro e w16 ⟨A8, c8, rfl, hr, hb⟩
  have HB16 := Lib.hid (HB15.out.next hb)
  have HRl16 := Lib.hid (HRl15.out.up hb)
  have HRp116 := Lib.hid (HRp115.out.up hb)
  have HRp216 := Lib.hid (HRp215.out.up hb)
  have HRs16 := Lib.hid (HRs15.out.up hb)
  have HRt16 := Lib.hid hr
  clear hb hr HB15 HRl15 HRp115 HRp215 HRs15
  go_wp2_with fail
  refine (texts_any (by have := HP.out.ls; omega) HRs16.out HRt16.out).mono ?_
  rintro e w17 ⟨rfl, hb⟩
  have HB17 := Lib.hid (HB16.out.next hb)
  have HRl17 := Lib.hid (HRl16.out.up hb)
  have HRp117 := Lib.hid (HRp116.out.up hb)
  have HRp217 := Lib.hid (HRp216.out.up hb)
  clear hb  HB16 HRl16 HRp116 HRp216 HRs16 HRt16
  go_wp2_with fail
  refine (merge_row hl64 HRl17.out HP.out.pq).mono ?_
  rintro e w18 ⟨A9, c9, rfl, hr, hb⟩
  have HB18 := Lib.hid (HB17.out.next hb)
  have HRl18 := Lib.hid (HRl17.out.up hb)
  have HRp118 := Lib.hid (HRp117.out.up hb)
  have HRp218 := Lib.hid (HRp217.out.up hb)
  have HRq18 := Lib.hid hr
  clear hb hr HB17 HRl17 HRp117 HRp217
  go_wp2_with fail
  refine (rmerge_row hl64 HRl18.out HP.out.pq).mono ?_
  rintro e w19 ⟨A10, c10, rfl, hr, hb⟩
  have HB19 := Lib.hid (HB18.out.next hb)
  have HRp119 := Lib.hid (HRp118.out.up hb)
  have HRp219 := Lib.hid (HRp218.out.up hb)
  have HRq19 := Lib.hid (HRq18.out.up hb)
  have HRr19 := Lib.hid hr
  clear hb hr HB18 HRl18 HRp118 HRp218 HRq18
  go_wp2_with fail
  refine (same_row HP.out.lq HRq19.out HRr19.out rfl).mono ?_
  rintro e w20 ⟨rfl, hb⟩
  have HB20 := Lib.hid (HB19.out.next hb)
  have HRp120 := Lib.hid (HRp119.out.up hb)
  have HRp220 := Lib.hid (HRp219.out.up hb)
  clear hb  HB19 HRp119 HRp219 HRq19 HRr19
  go_wp2_with fail
  go_loopw [27] (fun i wr => ∃ k : Nat, k ≤ ps.length ∧ i = .int .i64 (k : Int) ∧ Below w20.heap.size w20 wr) (fun i _ => ps.length - (intOf i).toNat)
  case atStart => exact ⟨0, by omega, rfl, Below.refl _ _⟩
  case round =>
    obtain ⟨k, hk, rfl, hb⟩ := hrel
    have HB := Lib.hid hb
    clear hb
    by_cases hlt : k < ps.length
    · have j0 : (k : Int) < (ps.length : Int) := by omega
      obtain ⟨g, t, rfl, hg, ht, h5⟩ := (HRp120.out.below HB.out (Nat.le_refl _)).at_ hlt
      obtain ⟨g2, t2, rfl, hg2, ht2, h6⟩ := (HRp220.out.below HB.out (Nat.le_refl _)).at_ hlt
      obtain rfl : t = t2 := Option.some.inj (ht.symm.trans ht2)
      obtain ⟨a0, a1, a2⟩ := h5
      obtain ⟨b0, b1, b2⟩ := h6
      clear ht ht2 hg hg2
      go_wp2_with fail
      go_quiet (fail)
      have HBQ := Lib.hid (below_drewN HB.out nq)
      go_wp2_with fail
      exact ⟨⟨k + 1, by omega, by go_num, HBQ.out⟩, by simp [intOf]; omega⟩
    · obtain rfl : k = ps.length := by omega
      go_wp2_with fail
      go_ret
      exact ⟨rfl, HB20.out.next HB.out⟩
end Go.Proofs.Ytkifopombddcjaa
