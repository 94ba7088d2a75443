/- The walk of LexerBlanks. -/
import Derived.Test.YtjcampfodfbdcaaBlanks
import Derived.Test.YtjcampfodfbdcaaWalkRaw
namespace Go.Proofs.Ytjcampfodfbdcaa
open Go.RowKit

def blanksL : List (List UInt8) := [[32], [10], [9], [35, 120, 10], [32, 35, 32, 34, 32, 35, 10, 10]]
theorem blank_of {m : Nat} {bw : List UInt8} (h : blanksL[m]? = some bw) : Blank bw ∧ bw.length ≤ 8 := by
  match m, h with
  | 0, h => injection h with h; subst h; exact ⟨blank_one (.inl rfl), by decide⟩
  | 1, h => injection h with h; subst h; exact ⟨blank_one (.inr (.inr rfl)), by decide⟩
  | 2, h => injection h with h; subst h; exact ⟨blank_one (.inr (.inl rfl)), by decide⟩
  | 3, h => injection h with h; subst h; exact ⟨blank_c1, by decide⟩
  | 4, h => injection h with h; subst h; exact ⟨blank_c2, by decide⟩
  | m + 5, h => cases h

theorem sel_blank {b5 : Nat} (h : b5 < 5) {bw : List UInt8} (hb : blanksL[b5]? = some bw) :
    ([Value.string ⟨#[32]⟩, .string ⟨#[10]⟩, .string ⟨#[9]⟩, .string ⟨#[35, 120, 10]⟩, .string ⟨#[32, 35, 32, 34, 32, 35, 10, 10]⟩][b5]'h) = .string ⟨bw.toArray⟩ := by
  match b5, h, hb with
  | 0, _, hb => injection hb with hb; subst hb; rfl
  | 1, _, hb => injection hb with hb; subst hb; rfl
  | 2, _, hb => injection hb with hb; subst hb; rfl
  | 3, _, hb => injection hb with hb; subst hb; rfl
  | 4, _, hb => injection hb with hb; subst hb; rfl
theorem join_keep {bw : List UInt8} {l : List Tk} {i : Nat} {t : Tk} (h : l[i]? = some t) (hk : t.kind ≠ 2) : joinL bw (l.take (i + 1)) = joinL bw (l.take i) ++ (spellL t ++ bw) := by
  unfold joinL
  rw [filter_next _ _ _ _ h, if_pos (show keepT t = true from decide_eq_true hk), List.flatMap_append, List.append_assoc]
  simp
theorem join_skip {bw : List UInt8} {l : List Tk} {i : Nat} {t : Tk} (h : l[i]? = some t) (hk : t.kind = 2) : joinL bw (l.take (i + 1)) = joinL bw (l.take i) := by
  unfold joinL
  rw [filter_next _ _ _ _ h, if_neg (show ¬ keepT t = true from by unfold keepT; rw [hk]; decide), List.append_nil]
theorem cost_take (l : List Tk) (i : Nat) : costL (l.take i) ≤ costL l := by
  have : costL l = costL (l.take i) + costL (l.drop i) := by
    conv => lhs; rw [← List.take_append_drop i l]
    unfold costL
    rw [List.map_append, List.sum_append]
  omega
theorem jb_size {jb : ByteArray} {l : List UInt8} (h : jb = ⟨l.toArray⟩) : jb.size = l.length := by rw [h, sz_arr]
theorem cat3 {jb tx bb : ByteArray} {x y z : List UInt8} (h1 : jb = ⟨x.toArray⟩) (h2 : tx = ⟨y.toArray⟩) (h3 : bb = ⟨z.toArray⟩) : jb ++ (tx ++ bb) = ⟨(x ++ (y ++ z)).toArray⟩ := by
  rw [h1, h2, h3, cat_bytes, cat_bytes]
theorem escL_ge (l : List UInt8) : l.length ≤ (escL l).length := by
  induction l with
  | nil => exact Nat.le_refl _
  | cons c l ih =>
    have h1 : 1 ≤ (escB c).length := by unfold escB; split <;> (try split) <;> simp
    rw [show escL (c :: l) = escB c ++ escL l from rfl, List.length_append, List.length_cons]
    omega
theorem okT_kind {t : Tk} (h : OkT t) : t.kind = 1 ∨ t.kind = 2 ∨ (t.kind = 3 ∧ t.text.data.toList.all qok = true) ∨ t.kind = 4 := by
  obtain ⟨k, tx, nu, L, C⟩ := t
  simp only [OkT] at h ⊢
  generalize tx.data.toList = l at h
  cases h with
  | name => exact .inl rfl
  | num => exact .inr (.inl rfl)
  | text _ h => exact .inr (.inr (.inl ⟨rfl, h⟩))
  | sign => exact .inr (.inr (.inr rfl))
/-- where the tokens of both readings stand -/
theorem pair_at {a b : List Tk} (h : b.map kt = (a.filter keepT).map kt) {i : Nat} {t : Tk} (ht : a[i]? = some t) (hk : t.kind ≠ 2) : ((a.take i).filter keepT).length < b.length ∧ ∃ t', b[((a.take i).filter keepT).length]? = some t' ∧ t'.kind = t.kind ∧ t'.text = t.text := by
  have h1 := filter_at keepT a i t ht (decide_eq_true hk)
  have h2 : (b.map kt)[((a.take i).filter keepT).length]? = some (kt t) := by rw [h, List.getElem?_map, h1]; rfl
  rw [List.getElem?_map] at h2
  obtain ⟨t', h3, h4⟩ := Option.map_eq_some_iff.1 h2
  injection h4 with h5 h6
  exact ⟨(List.getElem?_eq_some_iff.1 h3).1, t', h3, h5, h6⟩

set_option maxRecDepth 100000 in
set_option maxHeartbeats 20000000 in
theorem blanks_walk (A : Option Addr) (m c : Nat) (zs : List Int) (bn : Nat) (hbn : bn < 256) (W : World) (hmc : m ≤ c) (hcm : c ≤ maxLen) (hr : Reads W W.heap.size 1 A m (I zs)) :
    Calls Try.prog 7 #[.slice A m c, .int .u8 (bn : Int)] W (Ret (.bool true) W) := by
  have HN := Lib.hid (srcNew_any A m c zs W hmc hcm hr)
  obtain ⟨b5, hb5⟩ : ∃ b5, bn % 5 = b5 := ⟨_, rfl⟩
  have hb55 : b5 < 5 := by omega
  have hmx : (bn : Int) % 5 = (b5 : Int) := by omega
  have hmt : (bn : Int).tmod 5 = (b5 : Int) := by rw [Int.tmod_eq_emod_of_nonneg (by omega)]; exact hmx
  clear hr hmc hcm hb5
  go_enter Try.func7, Try.ntmps7
  go_wp2_with fail
  refine HN.out.mono ?_
  rintro e w1 ⟨rfl, hs1, hb1⟩
  have HK1 := Lib.hid hs1
  have HB1 := Lib.hid hb1
  clear hs1 hb1 HN
  go_wp2_with fail
  refine (srcRange_any W.heap.size W.heap.size 1 12 w1 HK1.out (by omega) (by omega) (by omega)).mono ?_
  rintro e w2 ⟨k, ⟨hk1, hk2⟩, rfl, hs2, ho2⟩
  have HK2 := Lib.hid hs2
  have HB2 := Lib.hid (HB1.out.trans (ho2.below HK1.out.lt.2.2 (fun k e => by rw [e]; exact Nat.le_refl _)))
  clear hs2 ho2 HK1 HB1
  go_wp2_with fail
  change Code.wp _ _ _ { tmps := _, defers := [] } _
  go_loopw [6, 7] (fun t i wr => ∃ (x : ByteArray) (n : Nat), t = .string x ∧ i = .int .i64 (n : Int) ∧ x.size + n * 24 ≤ 288 ∧ SrcOk W.heap.size wr W.heap.size ∧ Below W.heap.size W wr) (fun _ i _ => (intOf i).toNat)
  case atStart => exact ⟨⟨#[]⟩, k.toNat, rfl, by rw [Int.toNat_of_nonneg (by omega)], by show 0 + _ ≤ _; omega, HK2.out, HB2.out⟩
  case round =>
    obtain ⟨s, n, rfl, rfl, hsz, hs, hb⟩ := hrel
    have HK := Lib.hid hs
    have HB := Lib.hid hb
    clear hs hb
    by_cases hn : 0 < n
    · have j0 : 0 < (n : Int) := by omega
      go_wp2_with fail
      refine (piece_any W.heap.size W.heap.size _ HK.out).mono ?_
      rintro e w3 ⟨y, hy, rfl, hs3, ho3⟩
      have hys := piece_size hy
      have HK3 := Lib.hid hs3
      have HB3 := Lib.hid (HB.out.trans (ho3.below HK.out.lt.2.2 (fun k e => by rw [e]; exact Nat.le_refl _)))
      have i1 : ¬ 9223372036854775807 < y.size + 1 := by omega
      have i2 : ¬ 9223372036854775807 < s.size + (y.size + 1) := by omega
      clear hs3 ho3 HK HB hy
      go_wp2_with fail
      go_roundw
      case rel => exact ⟨_, n - 1, rfl, by go_num, by rw [ByteArray.size_append, ByteArray.size_append]; show s.size + (y.size + 1) + _ ≤ _; omega, HK3.out, HB3.out⟩
      case measure => simp [intOf]; omega
    · obtain rfl : n = 0 := by omega
      obtain ⟨a, li, co, er, hlr⟩ : ∃ l li co er, lexR s.data.toList = ⟨l, li, co, er⟩ := ⟨_, _, _, _, rfl⟩
      have HLR := Lib.hid hlr
      by_cases he : er = 0
      · subst he
        obtain ⟨l, L, C, hal, hok, hcost⟩ := lexR_ok hlr
        rw [size_list] at hcost
        obtain ⟨bw, hbw⟩ : ∃ bw, blanksL[b5]? = some bw := ⟨_, List.getElem?_eq_getElem (show b5 < blanksL.length from hb55)⟩
        obtain ⟨hbl, hbl8⟩ := blank_of hbw
        obtain ⟨l', L', C', hj1, hj2⟩ := lexR_join hbl hbl8 hok (by omega)
        have hal1 : a.length = l.length + 1 := by rw [hal, List.length_append]; rfl
        have hll : a.length ≤ 1000000 := by
          have := lexR_len s.data.toList
          rw [hlr] at this
          exact this
        obtain ⟨b, hb⟩ : ∃ b, l' ++ [(⟨5, ⟨#[]⟩, 0, L', C'⟩ : Tk)] = b := ⟨_, rfl⟩
        rw [hb] at hj1
        have hl2 : b.length ≤ 1000000 := by
          have := lexR_len (joinL bw l)
          rw [hj1] at this
          exact this
        have hpair : b.map kt = (a.filter keepT).map kt := by
          rw [← hb, hal, List.filter_append, List.map_append, List.map_append, hj2]
          rfl
        have HA := Lib.hid (show ∀ i, i < l.length → a[i]? = l[i]? from fun i hi => by rw [hal, List.getElem?_append_left hi])
        have HAL := Lib.hid hal1
        have hal2 : l.length + 1 ≤ a.length := by omega
        have hal3 : a.length ≤ l.length + 1 := by omega
        obtain ⟨bb, hbb⟩ : ∃ bb : ByteArray, (⟨bw.toArray⟩ : ByteArray) = bb := ⟨_, rfl⟩
        have hsel := sel_blank hb55 hbw
        rw [hbb] at hsel
        have hbb8 : bb.size ≤ 8 := by rw [← hbb, sz_arr]; exact hbl8
        have HBB := Lib.hid hbb.symm
        have HJ1 := Lib.hid hj1
        have HP := Lib.hid hpair
        have HOK := Lib.hid hok
        have HJL := Lib.hid (show ∀ i, (joinL bw (l.take i)).length ≤ 4000 from fun i => by
          have h1 := join_len hbl8 (l.take i)
          have h2 := cost_take l i
          omega)
        have HCO := Lib.hid hcost
        clear hlr hn hsz hbw hj1 hj2 hok hcost hbl hbl8 hal hal1 hb hbb hpair
        go_wp2_with fail
        refine (tokens_row s _ HLR.out).mono ?_
        rintro e w3 ⟨A1, c1, rfl, hk, hb⟩
        have HB3 := Lib.hid ((HB.out.trans (hb.mono HB.out.size)).alloc (Nat.le_trans HB.out.size hb.size) (.cells #[.int .i64 (li : Int), .int .i64 (co : Int)] 34))
        have HK3 := Lib.hid (hk.up ((Below.refl _ _).al (.cells #[.int .i64 (li : Int), .int .i64 (co : Int)] 34)))
        clear hk hb
        go_wp2_with fail
        have HB4 := Lib.hid (HB3.out.alloc HB3.out.size (.cells #[.string ⟨#[32]⟩, .string ⟨#[10]⟩, .string ⟨#[9]⟩, .string ⟨#[35, 120, 10]⟩, .string ⟨#[32, 35, 32, 34, 32, 35, 10, 10]⟩] 9))
        have HK4 := Lib.hid (HK3.out.up ((Below.refl _ _).al (.cells #[.string ⟨#[32]⟩, .string ⟨#[10]⟩, .string ⟨#[9]⟩, .string ⟨#[35, 120, 10]⟩, .string ⟨#[32, 35, 32, 34, 32, 35, 10, 10]⟩] 9)))
        generalize ((w3.alloc (.cells #[.int .i64 (li : Int), .int .i64 (co : Int)] 34)).alloc (.cells #[.string ⟨#[32]⟩, .string ⟨#[10]⟩, .string ⟨#[9]⟩, .string ⟨#[35, 120, 10]⟩, .string ⟨#[32, 35, 32, 34, 32, 35, 10, 10]⟩] 9)) = w4 at HB4 HK4
        clear hsel HB3 HK3
        change Code.wp _ _ _ { tmps := _, defers := [] } _
        go_loopw [12, 13] (fun t x wr => ∃ (jb : ByteArray) (i : Nat), t = .string jb ∧ x = .int .i64 (i : Int) ∧ i ≤ l.length ∧ jb = ⟨(joinL bw (l.take i)).toArray⟩ ∧ jb.size ≤ 4000 ∧ Below w4.heap.size w4 wr) (fun _ x _ => l.length - (intOf x).toNat)
        case atStart => exact ⟨bb, 0, rfl, rfl, by omega, by rw [HBB.out]; unfold joinL; simp, by omega, Below.refl _ _⟩
        case round =>
          obtain ⟨jb, i, rfl, rfl, hi, hjb, hjs, hbr⟩ := hrel
          have HJB := Lib.hid hjb
          have HBR := Lib.hid hbr
          clear hjb hbr
          by_cases hlt : i < l.length
          case neg =>
            obtain rfl : i = l.length := by omega
            have j0 : ¬ (l.length : Int) + 1 < (a.length : Int) := by omega
            have HLX := Lib.hid (show lexR jb.data.toList = ⟨b, 0, 0, 0⟩ by rw [HJB.out, List.take_length]; exact HJ1.out)
            go_wp2_with fail
            refine (tokens_row jb _ HLX.out).mono ?_
            rintro e w5 ⟨A2, c2, rfl, hk, hb⟩
            have HB5 := Lib.hid ((HBR.out.next hb).al (.cells #[.int .i64 0, .int .i64 0] 34))
            have HK5 := Lib.hid (hk.up ((Below.refl _ _).al (.cells #[.int .i64 0, .int .i64 0] 34)))
            clear hk hb
            go_wp2_with fail
            generalize w5.alloc (.cells #[.int .i64 0, .int .i64 0] 34) = w6 at *
            change Code.wp _ _ _ { tmps := _, defers := [] } _
            clear hjs hlt hi j0
            go_loopw [20, 21] (fun kk x wr => ∃ i n : Nat, kk = .int .i64 (n : Int) ∧ x = .int .i64 (i : Int) ∧ i ≤ a.length ∧ ((a.take i).filter keepT).length = n ∧ Below w6.heap.size w6 wr) (fun _ x _ => a.length - (intOf x).toNat)
            case atStart => exact ⟨0, 0, rfl, rfl, by omega, rfl, Below.refl _ _⟩
            case round =>
              obtain ⟨i, n, rfl, rfl, hi, hn, hb⟩ := hrel
              have HNN := Lib.hid hn
              have HB6 := Lib.hid hb
              clear hn hb
              by_cases hlt : i < a.length
              case neg =>
                obtain rfl : i = a.length := by omega
                have hnb : n = b.length := by
                  have h1 := HNN.out
                  rw [List.take_length] at h1
                  have h2 := congrArg List.length HP.out
                  rw [List.length_map, List.length_map] at h2
                  omega
                subst hnb
                go_wp2_with fail
                refine (awake_any _).mono ?_
                rintro e w7 ⟨rfl, hb⟩
                have HB7 := Lib.hid (HB4.out.trans ((HB5.out.trans ((HB6.out.next hb).mono HB5.out.size)).mono HB4.out.size))
                clear hb
                go_wp2_with fail
                go_ret
                exact ⟨rfl, HB7.out⟩
              have j0 : (i : Int) < (a.length : Int) := by omega
              obtain ⟨g, t, rfl, hg, ht, h5⟩ := (HK4.out.below (HB5.out.trans (HB6.out.mono HB5.out.size)) (Nat.le_refl _)).at_ hlt
              have HFN := Lib.hid (filter_next keepT a i t ht)
              have HPA := Lib.hid (pair_at HP.out ht)
              obtain ⟨a0, a1, a2, a3, a4⟩ := h5
              obtain ⟨kd, tx, nu, tl, tc⟩ := t
              simp only at a0 a1 a2 a3 a4
              clear ht hg
              by_cases hk2 : kd = 2
              · subst hk2
                have HN2 := Lib.hid (show ((a.take (i + 1)).filter keepT).length = n by rw [HFN.out, if_neg (show ¬ keepT ⟨2, tx, nu, tl, tc⟩ = true by unfold keepT; simp), List.append_nil]; exact HNN.out)
                go_wp2_with fail
                go_roundw
                case rel => exact ⟨i + 1, n, rfl, by go_num, by omega, HN2.out, HB6.out⟩
                case measure => simp [intOf]; omega
              · have HN2 := Lib.hid (show ((a.take (i + 1)).filter keepT).length = n + 1 by rw [HFN.out, if_pos (show keepT ⟨kd, tx, nu, tl, tc⟩ = true from decide_eq_true hk2), List.length_append, HNN.out]; rfl)
                obtain ⟨hnb, t', ht', e1, e2⟩ := HPA.out hk2
                rw [HNN.out] at hnb ht'
                obtain ⟨g2, t2, rfl, hg2, ht2, h6⟩ := (HK5.out.below HB6.out (Nat.le_refl _)).at_ hnb
                obtain rfl : t' = t2 := Option.some.inj (ht'.symm.trans ht2)
                obtain ⟨b0, b1, b2, b3, b4⟩ := h6
                simp only at e1 e2
                rw [e1] at b0
                rw [e2] at b1
                have j2 : decide ((b.length : Int) ≤ (n : Int)) = false := decide_eq_false (by omega)
                have j3 : (n : Int) < (b.length : Int) := by omega
                have q2 : (kd == 2) = false := beq_eq_false_iff_ne.2 hk2
                clear ht' ht2 hg2 e1 e2 hk2
                go_wp2_with fail
                go_quiet (fail)
                have HBQ := Lib.hid (below_drewN HB6.out nq)
                go_wp2_with fail
                exact ⟨⟨i + 1, n + 1, by go_num, by go_num, by omega, HN2.out, HBQ.out⟩, by simp [intOf]; omega⟩
          have j0 : (i : Int) + 1 < (a.length : Int) := by omega
          have j1 : (i : Int) < (a.length : Int) := by omega
          obtain ⟨g, t, rfl, hg, ht, h5⟩ := (HK4.out.below HBR.out (Nat.le_refl _)).at_ (k := i) (by omega)
          have htl : l[i]? = some t := by rw [← HA.out i hlt]; exact ht
          have hkd := okT_kind (HOK.out t (List.mem_of_getElem? htl))
          have HJK := Lib.hid (fun hk => join_keep (bw := bw) htl hk)
          have HJS := Lib.hid (fun hk => join_skip (bw := bw) htl hk)
          obtain ⟨a0, a1, a2, a3, a4⟩ := h5
          have hjn := HJL.out (i + 1)
          obtain ⟨kd, tx, nu, tl, tc⟩ := t
          simp only at a0 a1 a2 a3 a4 hkd
          clear ht htl
          rcases hkd with rfl | rfl | ⟨rfl, hq⟩ | rfl
          · skip
            have HC := Lib.hid (cat3 (tx := tx) HJB.out (ba_list tx).symm HBB.out)
            have HE := Lib.hid (show joinL bw (l.take (i + 1)) = joinL bw (l.take i) ++ (tx.data.toList ++ bw) from HJK.out (show (1 : Int) ≠ 2 by decide))
            have HS := Lib.hid (show (jb ++ (tx ++ bb)).size ≤ 4000 by rw [HC.out, sz_arr, ← HE.out]; exact hjn)
            have hs1 := HS.out
            rw [ByteArray.size_append, ByteArray.size_append] at hs1
            go_wp2_with fail
            go_roundw
            case rel => exact ⟨_, i + 1, rfl, by go_num, by omega, by rw [HC.out, ← HE.out], HS.out, HBR.out⟩
            case measure => simp [intOf]; omega
          · have HE := Lib.hid (HJS.out rfl)
            go_wp2_with fail
            go_roundw
            case rel => exact ⟨_, i + 1, rfl, by go_num, by omega, by rw [HE.out]; exact HJB.out, hjs, HBR.out⟩
            case measure => simp [intOf]; omega
          · obtain ⟨qb, hqb⟩ : ∃ qb : ByteArray, (⟨(quoteL tx.data.toList).toArray⟩ : ByteArray) = qb := ⟨_, rfl⟩
            have HC := Lib.hid (cat3 (tx := qb) HJB.out hqb.symm HBB.out)
            have HE := Lib.hid (show joinL bw (l.take (i + 1)) = joinL bw (l.take i) ++ (quoteL tx.data.toList ++ bw) from HJK.out (show (3 : Int) ≠ 2 by decide))
            have HS := Lib.hid (show (jb ++ (qb ++ bb)).size ≤ 4000 by rw [HC.out, sz_arr, ← HE.out]; exact hjn)
            have hs1 := HS.out
            rw [ByteArray.size_append, ByteArray.size_append] at hs1
            have htx : tx.size ≤ 100000 := by
              have h1 : qb.size = (quoteL tx.data.toList).length := by rw [← hqb, sz_arr]
              rw [quote_len] at h1
              have h2 := escL_ge tx.data.toList
              rw [size_list] at h2
              omega
            have HQV := Lib.hid (quote_any tx wr htx)
            rw [show quoteV tx.data.toList = .tuple #[.string qb, .int .i64 0] by unfold quoteV; rw [if_pos hq, hqb]] at HQV
            clear hq hqb htx
            go_wp2_with fail
            refine HQV.out.mono ?_
            rintro e w5 ⟨rfl, hb⟩
            have HBR5 := Lib.hid (HBR.out.next hb)
            obtain ⟨g', t', eg, hg', ht', h5'⟩ := (HK4.out.below HBR5.out (Nat.le_refl _)).at_ (k := i) (by omega)
            have b0 : w5.cell? ⟨g, i * 5, none⟩ = some (.int .i64 3) := by rw [hb.cell (p := ⟨g, i * 5, none⟩) (by show g < wr.heap.size; have := HBR.out.size; omega)]; exact a0
            clear hb HQV eg hg' ht' h5' a0 a1 a2 a3 a4
            go_wp2_with fail
            go_roundw
            case rel => exact ⟨_, i + 1, rfl, by go_num, by omega, by rw [HC.out, ← HE.out], HS.out, HBR5.out⟩
            case measure => simp [intOf]; omega
          · skip
            have HC := Lib.hid (cat3 (tx := tx) HJB.out (ba_list tx).symm HBB.out)
            have HE := Lib.hid (show joinL bw (l.take (i + 1)) = joinL bw (l.take i) ++ (tx.data.toList ++ bw) from HJK.out (show (4 : Int) ≠ 2 by decide))
            have HS := Lib.hid (show (jb ++ (tx ++ bb)).size ≤ 4000 by rw [HC.out, sz_arr, ← HE.out]; exact hjn)
            have hs1 := HS.out
            rw [ByteArray.size_append, ByteArray.size_append] at hs1
            go_wp2_with fail
            go_roundw
            case rel => exact ⟨_, i + 1, rfl, by go_num, by omega, by rw [HC.out, ← HE.out], HS.out, HBR.out⟩
            case measure => simp [intOf]; omega
      · have e0 : (er == 0) = false := beq_eq_false_iff_ne.2 he
        have e1 : (er != 0) = true := bne_iff_ne.2 he
        clear hlr he hn hsz
        go_wp2_with fail
        refine (tokens_row s _ HLR.out).mono ?_
        rintro e w3 ⟨A1, c1, rfl, hk, hb⟩
        have HB3 := Lib.hid ((HB.out.trans (hb.mono HB.out.size)).alloc (Nat.le_trans HB.out.size hb.size) (.cells #[.int .i64 (li : Int), .int .i64 (co : Int)] 34))
        clear hk hb
        go_wp2_with fail
        refine (agrees_any _ _).mono ?_
        rintro e w4 ⟨rfl, hb⟩
        have HB4 := Lib.hid (HB3.out.trans (hb.mono HB3.out.size))
        clear hb
        go_wp2_with fail
        refine (awake_any _).mono ?_
        rintro e w5 ⟨rfl, hb⟩
        have HB5 := Lib.hid (HB4.out.trans (hb.mono HB4.out.size))
        clear hb
        go_wp2_with fail
        go_ret
        exact ⟨rfl, HB5.out⟩
end Go.Proofs.Ytjcampfodfbdcaa
