/- Merged: RPlain, RForm, RLines. -/
import Derived.Test.YtfmdbmalmeimbaaDoorMRt
import Derived.Test.YtfmdbmalmeimbaaDoorQuoteR
import Derived.Deep.QuietTactic
import Derived.BigQuiet
import Derived.Deep.DeepCutAuto
/- The reference: plain, Count. -/
namespace Go.Proofs.YtfmdbmalmeimbaaDoor
open Go.RowKit
set_option maxRecDepth 100000

theorem plain_bad {nm : ByteArray} {kd nu : Int} {tx : ByteArray} {ls : List ByteArray} {ns : List Nd} {s : ByteArray} (hs : s ∈ ls) (hq : qokT s = false) : plainN (.mk nm kd nu tx ls ns) = false := by
  have h1 : ls.length ≠ 0 := fun e => by rw [List.eq_nil_of_length_eq_zero e] at hs; cases hs
  have h2 : ls.all qokT = false := List.all_eq_false.2 ⟨s, hs, by rw [hq]; decide⟩
  by_cases k1 : kd = 1
  · subst k1; rw [pl1, decide_eq_false h1]; simp
  by_cases k2 : kd = 2
  · subst k2; rw [pl2, decide_eq_false h1]; simp
  by_cases k3 : kd = 3
  · subst k3; rw [pl3, h2]; simp
  · rw [pl4 _ _ _ _ _ _ k1 k2 k3, decide_eq_false h1]; simp
theorem cnt_len : ∀ l : List Nd, l.length ≤ cntL l
  | [] => Nat.zero_le _
  | t :: l => by
    have := cnt_len l
    rw [cntL, List.length_cons]
    omega
theorem and3 (a b c : Bool) : a = false ∨ (a = true ∧ b = false) ∨ (a = true ∧ b = true ∧ c = false) ∨ (a = true ∧ b = true ∧ c = true) := by cases a <;> cases b <;> cases c <;> simp
theorem nil_iff (s : ByteArray) : (s.toList == ([] : List UInt8)) = decide (s.size = 0) := by
  by_cases h : s.size = 0
  · rw [tx_nil h, decide_eq_true h]; rfl
  · rw [decide_eq_false h]
    exact beq_eq_false_iff_ne.2 (fun e => h (tx_size e))
theorem emp_iff (s : ByteArray) : s.toList.isEmpty = decide (s.size = 0) := by rw [← nil_iff]; cases s.toList <;> rfl

set_option maxHeartbeats 16000000 in
theorem rplain_any {w : World} {S S' : Nat → Prop} {nm : ByteArray} {kd nu : Int} {tx : ByteArray} {ls : List ByteArray} {ns : List Nd} {A B : Option Addr} {ca cb : Nat} (htl : TL w S (.slice A ls.length ca) ls) (_hnl : NL w S' (.slice B ns.length cb) ns)
    (h1 : ls.length ≤ 1000000) (h2 : ∀ s ∈ ls, s.size ≤ 2000000) (h3 : tx.size ≤ 2000000) (_h4 : ns.length ≤ 1000000) {q : Bool} (hq : plainN (.mk nm kd nu tx ls ns) = q) :
    Calls Tryd.prog 52 #[.agg #[.string nm, .int .i64 kd, .int .i64 nu, .string tx, .slice A ls.length ca, .slice B ns.length cb]] w (Ret (.bool q) w) := by
  have HTL := Lib.hid (htl.up ((Below.refl _ _).al (.cells #[.string nm, .int .i64 kd, .int .i64 nu, .string tx, .slice A ls.length ca, .slice B ns.length cb] 48)))
  have HQ := Lib.hid hq
  have H2 := Lib.hid h2
  clear htl hq h2
  go_enter Tryd.func52, Tryd.ntmps52
  go_wp2_with fail
  go_loop [3] (fun x => ∃ j : Nat, j ≤ ls.length ∧ x = .int .i64 (j : Int) ∧ (ls.take j).all qokT = true) (fun x => ls.length - (intOf x).toNat)
  case atStart => exact ⟨0, by omega, rfl, rfl⟩
  case round =>
    obtain ⟨j, hj2, rfl, hall⟩ := hrel
    have HALL := Lib.hid hall
    clear hall
    by_cases hlt : j < ls.length
    · have z0 : (j : Int) < (ls.length : Int) := by omega
      have z1 : (0 : Int) ≤ (j : Int) := by omega
      obtain ⟨ad, s, rfl, hs, had, a0⟩ := HTL.out.at_ hlt
      have HS := Lib.hid hs
      have HM := Lib.hid (List.mem_of_getElem? hs)
      cases hq1 : qokT s with
      | true =>
        have HC := Lib.hid (fun W => quotable_any s W (H2.out s HM.out) (show s.data.toList.all qok = true from hq1))
        have HN := Lib.hid (show (ls.take (j + 1)).all qokT = true by
          obtain ⟨hk, e⟩ := List.getElem?_eq_some_iff.1 HS.out
          rw [List.take_succ_eq_append_getElem hk, e, List.all_append, HALL.out]
          simp [hq1])
        clear hq1 hs
        go_wp2_with fail
        refine (HC.out _).mono ?_
        rintro e w1 ⟨rfl, rfl⟩
        go_wp2_with fail
        go_round
        case rel => exact ⟨j + 1, by omega, by go_num, HN.out⟩
        case measure => simp [intOf]; omega
      | false =>
        have HC := Lib.hid (fun W => quotable_any s W (H2.out s HM.out) (show s.data.toList.all qok = false from hq1))
        have HE := Lib.hid (show q = false by rw [← HQ.out]; exact plain_bad HM.out hq1)
        clear hq1 hs
        go_wp2_with fail
        refine (HC.out _).mono ?_
        rintro e w1 ⟨rfl, rfl⟩
        go_wp2_with fail
        go_ret
        exact ⟨by rw [HE.out]; rfl, (Below.refl _ _).al _⟩
    · obtain rfl : j = ls.length := by omega
      have hall := HALL.out
      rw [List.take_length] at hall
      have HALLQ := Lib.hid hall
      obtain ⟨b1, hb1⟩ : ∃ b1, decide (nu = 0) = b1 := ⟨_, rfl⟩
      obtain ⟨b2, hb2⟩ : ∃ b2, decide (tx.size = 0) = b2 := ⟨_, rfl⟩
      obtain ⟨b3, hb3⟩ : ∃ b3, decide (ls.length = 0) = b3 := ⟨_, rfl⟩
      obtain ⟨b4, hb4⟩ : ∃ b4, decide (ns.length = 0) = b4 := ⟨_, rfl⟩
      have e1 : (nu == 0) = b1 := by rw [← hb1]; by_cases h : nu = 0 <;> simp [h]
      have e2 : tx.toList.isEmpty = b2 := by rw [← hb2, emp_iff]
      have e2' : (tx.toList == []) = b2 := by rw [← hb2, nil_iff]
      have e3 : ((ls.length : Int) == 0) = b3 := by rw [← hb3]; by_cases h : ls.length = 0 <;> simp [h]
      have e4 : ((ns.length : Int) == 0) = b4 := by rw [← hb4]; by_cases h : ns.length = 0 <;> simp [h]
      have E := Lib.hid (And.intro hb1 (And.intro hb2 (And.intro hb3 hb4)))
      clear hb1 hb2 hb3 hb4 hall hlt HALL hj2
      go_wp2_with fail
      go_quiet (fail)
      have HB := Lib.hid (show Below w.heap.size w ((w.alloc (.cells #[.string nm, .int .i64 kd, .int .i64 nu, .string tx, .slice A ls.length ca, .slice B ns.length cb] 48)).drewN nq) from below_drewN ((Below.refl _ _).al _) _)
      clear e1 e2 e2' e3 e4 HTL
      by_cases k1 : kd = 1
      · subst k1
        have HV := Lib.hid (show q = (decide (-9007199254740992 ≤ nu) && decide (nu ≤ 9007199254740992) && b2 && b3 && b4) by
          rw [← HQ.out, pl1, ← E.out.2.1, ← E.out.2.2.1, ← E.out.2.2.2])
        by_cases hlo : -9007199254740992 ≤ nu
        · by_cases hhi : nu ≤ 9007199254740992
          · have HW := Lib.hid (show q = (b2 && b3 && b4) by rw [HV.out, decide_eq_true hlo, decide_eq_true hhi]; rfl)
            rcases and3 b2 b3 b4 with rfl | ⟨rfl, rfl⟩ | ⟨rfl, rfl, rfl⟩ | ⟨rfl, rfl, rfl⟩
            all_goals
              go_wp2_with fail
              go_ret
              exact ⟨by rw [HW.out]; rfl, HB.out⟩
          · have HW := Lib.hid (show q = false by rw [HV.out, decide_eq_false hhi]; simp)
            go_wp2_with fail
            go_ret
            exact ⟨by rw [HW.out]; rfl, HB.out⟩
        · have HW := Lib.hid (show q = false by rw [HV.out, decide_eq_false hlo]; simp)
          go_wp2_with fail
          go_ret
          exact ⟨by rw [HW.out]; rfl, HB.out⟩
      have c1 : (kd == 1) = false := beq_eq_false_iff_ne.2 k1
      by_cases k2 : kd = 2
      · subst k2
        obtain ⟨cq, hcq⟩ : ∃ cq, qokT tx = cq := ⟨_, rfl⟩
        have HC := Lib.hid (fun W => quotable_any tx W h3 (show tx.data.toList.all qok = cq from hcq))
        have HV := Lib.hid (show q = (cq && b1 && b3 && b4) by
          rw [← HQ.out, pl2, hcq, ← E.out.1, ← E.out.2.2.1, ← E.out.2.2.2])
        clear hcq
        go_wp2_with fail
        refine (HC.out _).mono ?_
        rintro e w1 ⟨rfl, rfl⟩
        cases cq with
        | false =>
          go_wp2_with fail
          go_ret
          exact ⟨by rw [HV.out]; rfl, HB.out⟩
        | true =>
          rcases and3 b1 b3 b4 with rfl | ⟨rfl, rfl⟩ | ⟨rfl, rfl, rfl⟩ | ⟨rfl, rfl, rfl⟩
          all_goals
            go_wp2_with fail
            go_ret
            exact ⟨by rw [HV.out]; rfl, HB.out⟩
      have c2 : (kd == 2) = false := beq_eq_false_iff_ne.2 k2
      by_cases k3 : kd = 3
      · subst k3
        have HV := Lib.hid (show q = (b1 && b2 && b4) by
          rw [← HQ.out, pl3, HALLQ.out, ← E.out.1, ← E.out.2.1, ← E.out.2.2.2]; rfl)
        rcases and3 b1 b2 b4 with rfl | ⟨rfl, rfl⟩ | ⟨rfl, rfl, rfl⟩ | ⟨rfl, rfl, rfl⟩
        all_goals
          go_wp2_with fail
          go_ret
          exact ⟨by rw [HV.out]; rfl, HB.out⟩
      have c3 : (kd == 3) = false := beq_eq_false_iff_ne.2 k3
      have HV := Lib.hid (show q = (decide (kd = 4) && b1 && b2 && b3) by
        rw [← HQ.out, pl4 _ _ _ _ _ _ k1 k2 k3, ← E.out.1, ← E.out.2.1, ← E.out.2.2.1])
      by_cases k4 : kd = 4
      · subst k4
        rcases and3 b1 b2 b3 with rfl | ⟨rfl, rfl⟩ | ⟨rfl, rfl, rfl⟩ | ⟨rfl, rfl, rfl⟩
        all_goals
          clear k1 k2 k3
          go_wp2_with fail
          go_ret
          exact ⟨by rw [HV.out]; rfl, HB.out⟩
      · have c4 : (kd == 4) = false := beq_eq_false_iff_ne.2 k4
        have HW := Lib.hid (show q = false by rw [HV.out, decide_eq_false k4]; simp)
        clear k1 k2 k3 k4
        go_wp2_with fail
        go_ret
        exact ⟨by rw [HW.out]; rfl, HB.out⟩
/-! Count. -/
set_option maxHeartbeats 4000000 in
theorem rcount_any : ∀ (N : Nat) (l : List Nd), SizeOf.sizeOf l < N → ∀ {w : World} {S : Nat → Prop} {A : Option Addr} {c : Nat}, NL w S (.slice A l.length c) l → cntL l ≤ 1000000000 →
    Calls Tryd.prog 28 #[.slice A l.length c] w (fun e w' => e = .returned (.int .i64 ((cntL l : Nat) : Int)) ∧ w = w') := by
  intro N
  induction N with
  | zero => intro l h; exact absurd h (Nat.not_lt_zero _)
  | succ N ih =>
  intro l hN w S A c hl hcnt
  have hlen : l.length ≤ 1000000000 := by have := cnt_len l; omega
  have HL := Lib.hid hl
  have IH := Lib.hid ih
  clear hl ih
  go_enter Tryd.func28, Tryd.ntmps28
  go_wp2_with fail
  go_loop [3, 4] (fun n i => ∃ k m : Nat, k ≤ l.length ∧ i = .int .i64 (k : Int) ∧ n = .int .i64 (m : Int) ∧ m + k = l.length + cntL (l.take k)) (fun _ i => l.length - (intOf i).toNat)
  case atStart => exact ⟨0, l.length, by omega, rfl, rfl, by rw [List.take_zero, cntL]⟩
  case round =>
    obtain ⟨k, m, hk, rfl, rfl, hm⟩ := hrel
    have HM := Lib.hid hm
    clear hm
    by_cases hlt : k < l.length
    · have z0 : (k : Int) < (l.length : Int) := by omega
      have z1 : (0 : Int) ≤ (k : Int) := by omega
      obtain ⟨ad, x, xl, xn, rfl, hx, _, had, h6, htl, hnl⟩ := HL.out.at_ hlt
      have hcn := cntL_next hx
      have hct := cntL_take l (k + 1)
      have hxm := List.mem_of_getElem? hx
      obtain ⟨Bx, dx, rfl, _⟩ := hnl.form
      have p5 := h6.c5
      have hsz := Nd.nodes_lt_of hxm
      have hcx : x.nodes.length ≤ cntL x.nodes := cnt_len _
      have HC := Lib.hid (IH.out x.nodes (by omega) hnl (by omega))
      obtain ⟨cx, hcx2⟩ : ∃ cx, cntL x.nodes = cx := ⟨_, rfl⟩
      rw [hcx2] at HC hcn
      have HN := Lib.hid (show (m + cx) + (k + 1) = l.length + cntL (l.take (k + 1)) by have := HM.out; omega)
      have hb1 : m + cx ≤ 2000000000 := by have := HM.out; omega
      clear hcn hct hcx2 hx hcx htl hnl h6 hsz HM
      go_wp2_with fail
      refine HC.out.mono ?_
      rintro e w1 ⟨rfl, rfl⟩
      go_wp2_with fail
      go_round
      case rel => exact ⟨k + 1, m + cx, by omega, by go_num, by go_num, HN.out⟩
      case measure => simp [intOf]; omega
    · obtain rfl : k = l.length := by omega
      have HE := Lib.hid (show m = cntL l by have := HM.out; rw [List.take_length] at this; omega)
      go_wp2_with fail
      go_ret
      exact ⟨by rw [HE.out]; rfl, rfl⟩
end Go.Proofs.YtfmdbmalmeimbaaDoor
/- The reference: Formed. -/
namespace Go.Proofs.YtfmdbmalmeimbaaDoor
open Go.RowKit
set_option maxRecDepth 100000

theorem nameT_word (s : ByteArray) : nameT s = (wordB s.data.toList && decide (s.size ≤ 40)) := by
  have key : wordB s.data.toList = true ↔ NameW s.data.toList := by
    unfold wordB
    simp only [Bool.and_eq_true, decide_eq_true_eq, Bool.not_eq_true', Option.isSome_eq_false_iff]
    constructor
    · rintro ⟨h1, h2, h3⟩
      exact ⟨fun e => by rw [e] at h2; exact absurd h2 (by decide), h1, by simpa using h3⟩
    · rintro ⟨h1, h2, h3⟩
      exact ⟨h2, List.length_pos_iff.2 h1, by simpa using h3⟩
  cases hn : nameT s with
  | true =>
    obtain ⟨h1, h2⟩ := nameT_inv hn
    rw [key.2 h1, decide_eq_true h2]; rfl
  | false =>
    by_cases h2 : s.size ≤ 40
    · cases hw : wordB s.data.toList with
      | true => rw [nameT_of (key.1 hw) h2] at hn; cases hn
      | false => rfl
    · rw [decide_eq_false h2, Bool.and_false]
/-- what Formed does where sections may have depth d -/
def RFC (f : List Nd → Bool) (d : Nat) : Prop := ∀ {l : List Nd} {w : World} {S : Nat → Prop} {A : Option Addr} {c : Nat} {q : Bool}, NL w S (.slice A l.length c) l → Fit l → f l = q →
    Calls Tryd.prog 27 #[.slice A l.length c, .int .i64 (d : Int)] w (Ret (.bool q) w)
theorem dup_two {f : List Nd → Bool} {l : List Nd} {k m : Nat} {x y : Nd} (hx : l[k]? = some x) (hy : l[m]? = some y) (hm : m < k) (e : y.name = x.name) : (decide ((l.map Nd.name).Nodup) && l.all (okN f)) = false := by
  refine dup_false hx ?_
  unfold memT
  rw [List.any_eq_true]
  exact ⟨y.name, List.mem_map_of_mem (List.mem_of_getElem? (show (l.take k)[m]? = some y by rw [List.getElem?_take, if_pos hm]; exact hy)), by simpa using e⟩
theorem not_mem {l : List Nd} {k : Nat} {x : Nd} (h : ∀ t ∈ l.take k, t.name ≠ x.name) : memT ((l.take k).map Nd.name) x.name = false := by
  cases hm : memT ((l.take k).map Nd.name) x.name with
  | false => rfl
  | true =>
    obtain ⟨t, ht, e⟩ := mem_memT hm
    exact absurd e (h t ht)
theorem mem_next {l : List Nd} {m : Nat} {y : Nd} {P : Nd → Prop} (hy : l[m]? = some y) (h : ∀ t ∈ l.take m, P t) (hp : P y) : ∀ t ∈ l.take (m + 1), P t := by
  obtain ⟨hk, e⟩ := List.getElem?_eq_some_iff.1 hy
  rw [List.take_succ_eq_append_getElem hk, e]
  intro t ht
  rcases List.mem_append.1 ht with ht | ht
  · exact h t ht
  · rw [List.mem_singleton.1 ht]; exact hp
set_option maxHeartbeats 16000000 in
theorem rformed_step {f : List Nd → Bool} {d : Nat} (hd : d ≤ 8) (hsub : if d = 0 then (∀ l, f l = false) else RFC f (d - 1)) : RFC (fun l => decide ((l.map Nd.name).Nodup) && l.all (okN f)) d := by
  intro l w S A c q hl hfit hq
  have HL := Lib.hid hl
  have HFT := Lib.hid hfit
  have HQ := Lib.hid hq
  have HSUB := Lib.hid hsub
  have hln := hfit.all.1
  clear hl hfit hq hsub
  go_enter Tryd.func27, Tryd.ntmps27
  go_wp2_with fail
  go_loopw [5] (fun i wr => ∃ k : Nat, k ≤ l.length ∧ i = .int .i64 (k : Int) ∧ (∀ t ∈ l.take k, okN f t = true) ∧ ((l.take k).map Nd.name).Nodup ∧ Below w.heap.size w wr) (fun i _ => l.length - (intOf i).toNat)
  case atStart => exact ⟨0, Nat.zero_le _, rfl, by simp, by simp, Below.refl _ _⟩
  case round =>
    obtain ⟨wo, hwo⟩ : ∃ wo, wo = wr := ⟨_, rfl⟩
    subst hwo
    obtain ⟨k, hk, rfl, hok, hnd, hb⟩ := hrel
    have HOK := Lib.hid hok
    have HND := Lib.hid hnd
    have HB := Lib.hid hb
    clear hok hnd hb
    by_cases hlt : k < l.length
    case neg =>
      obtain rfl : k = l.length := by omega
      have HE := Lib.hid (show q = true by
        rw [← HQ.out]
        have h1 := HND.out
        have h2 := HOK.out
        rw [List.take_length] at h1 h2
        rw [decide_eq_true h1, List.all_eq_true.2 h2]
        rfl)
      go_wp2_with fail
      go_ret
      exact ⟨by rw [HE.out]; rfl, HB.out⟩
    have z0 : (k : Int) < (l.length : Int) := by omega
    have z1 : (0 : Int) ≤ (k : Int) := by omega
    have HLW := Lib.hid (HL.out.up HB.out)
    obtain ⟨ad, x, xl, xn, rfl, hx, _, had, h6, htl, hnl⟩ := HLW.out.at_ hlt
    have hxm := List.mem_of_getElem? hx
    have HX := Lib.hid hx
    have HXM := Lib.hid hxm
    obtain ⟨Ax, cx, rfl, _⟩ := htl.form
    obtain ⟨Bx, dx, rfl, _⟩ := id hnl.form
    obtain ⟨p0, p1, p2, p3, p4, p5⟩ := h6
    have had2 : (ad.add (k * 6)).block < wo.heap.size := by rw [block_of_add]; exact had
    have hf1 := HFT.out.all.2.1 x hxm
    have hf2 := HFT.out.all.2.2.1 x hxm
    have hf3 := HFT.out.all.2.2.2.1 x hxm
    have HF4 := Lib.hid (HFT.out.all.2.2.2.2.1 x hxm)
    have HF5 := Lib.hid (HFT.out.all.2.2.2.2.2 x hxm)
    have hf6 := HF5.out.all.1
    have HBAD := Lib.hid (show okN f x = false → q = false from fun h => by rw [← HQ.out]; exact bad_false HXM.out h)
    have HDUP := Lib.hid (show ∀ m y, l[m]? = some y → m < k → y.name = x.name → q = false from fun m y hy hm e => by rw [← HQ.out]; exact dup_two HX.out hy hm e)
    have HNDN := Lib.hid (show memT ((l.take k).map Nd.name) x.name = false → ((l.take (k + 1)).map Nd.name).Nodup from fun h => (nodup_next HX.out HND.out h).1)
    have HOKN := Lib.hid (ok_next HX.out HOK.out)
    have HNM := Lib.hid (show memT ((l.take k).map Nd.name) x.name = false ∨ True from .inr trivial)
    have HMEM := Lib.hid (fun (h : ∀ t ∈ l.take k, t.name ≠ x.name) => not_mem h)
    obtain ⟨nm, kd, nu, tx, ls, ns⟩ := x
    simp only [Nd.name, Nd.kind, Nd.num, Nd.text, Nd.list, Nd.nodes] at *
    obtain ⟨cs, hcs⟩ : ∃ cs : Array Value, cs = #[.string nm, .int .i64 kd, .int .i64 nu, .string tx, .slice Ax ls.length cx, .slice Bx ns.length dx] := ⟨_, rfl⟩
    have HTL := Lib.hid (htl.up ((Below.refl _ _).al (.cells cs 48)))
    have HNL := Lib.hid (hnl.up ((Below.refl _ _).al (.cells cs 48)))
    have HBX := Lib.hid (Blk.new wo 48 cs)
    have HL1 := Lib.hid (HLW.out.up ((Below.refl _ _).al (.cells cs 48)))
    subst hcs
    have HB1 := Lib.hid (HB.out.al (.cells #[.string nm, .int .i64 kd, .int .i64 nu, .string tx, .slice Ax ls.length cx, .slice Bx ns.length dx] 48))
    obtain ⟨ok, hok⟩ : ∃ ok, okN f (.mk nm kd nu tx ls ns) = ok := ⟨_, rfl⟩
    have HOKX := Lib.hid hok
    have HOKE := Lib.hid (show ok = (wordB nm.data.toList && decide (nm.size ≤ 40) && plainN (.mk nm kd nu tx ls ns) && (if kd = 4 then f ns else true)) by rw [← hok, okN_eq, nameT_word])
    clear hx hxm htl hnl hok HLW HL
    go_upto_region 5 with fail
    obtain ⟨w1, hw1⟩ : ∃ w1, w1 = wo.alloc (.cells #[.string nm, .int .i64 kd, .int .i64 nu, .string tx, .slice Ax ls.length cx, .slice Bx ns.length dx] 48) := ⟨_, rfl⟩
    have hz1 : w1.heap.size = wo.heap.size + 1 := by rw [hw1]; simp
    rw [← hw1] at HTL HNL HBX HL1 HB1 ⊢
    have HZ1 := Lib.hid hz1
    clear hw1 hz1 p0 p1 p2 p3 p4 p5
    go_cut [49] (fun b wx => b = .bool (!ok) ∧ Below (wo.heap.size + 1) w1 wx)
    case first =>
      clear HL1 HB1
      have c0 : w1.cell? ⟨wo.heap.size, 0, none⟩ = some (.string nm) := by rw [HBX.out.cell]; rfl
      have c1 : w1.cell? ⟨wo.heap.size, 1, none⟩ = some (.int .i64 kd) := by rw [HBX.out.cell]; rfl
      have c2 : w1.cell? ⟨wo.heap.size, 2, none⟩ = some (.int .i64 nu) := by rw [HBX.out.cell]; rfl
      have c3 : w1.cell? ⟨wo.heap.size, 3, none⟩ = some (.string tx) := by rw [HBX.out.cell]; rfl
      have c4 : w1.cell? ⟨wo.heap.size, 4, none⟩ = some (.slice Ax ls.length cx) := by rw [HBX.out.cell]; rfl
      have c5 : w1.cell? ⟨wo.heap.size, 5, none⟩ = some (.slice Bx ns.length dx) := by rw [HBX.out.cell]; rfl
      obtain ⟨qw, hqw⟩ : ∃ qw, wordB nm.data.toList = qw := ⟨_, rfl⟩
      have HW := Lib.hid (rword_any nm w1 hf1 hqw)
      have HE1 := Lib.hid (show ok = (qw && decide (nm.size ≤ 40) && plainN (.mk nm kd nu tx ls ns) && (if kd = 4 then f ns else true)) by rw [HOKE.out, hqw])
      clear hqw HOKE
      go_wp2_with fail
      refine HW.out.mono ?_
      rintro e w2 ⟨rfl, rfl⟩
      cases qw with
      | false =>
        have HE := Lib.hid (show ok = false by rw [HE1.out]; rfl)
        go_wp2_with fail
        go_meet
        case rel => exact ⟨by rw [HE.out]; rfl, by rw [← HZ1.out]; exact Below.refl _ _⟩
      | true =>
      by_cases h40 : nm.size ≤ 40
      case neg =>
        have z2 : (40 : Int) < (nm.size : Int) := by omega
        have z2' : decide ((40 : Int) < (nm.size : Int)) = true := decide_eq_true z2
        have HE := Lib.hid (show ok = false by rw [HE1.out, decide_eq_false h40]; rfl)
        clear h40
        go_wp2_with fail
        go_meet
        case rel => exact ⟨by rw [HE.out]; rfl, by rw [← HZ1.out]; exact Below.refl _ _⟩
      have z2 : ¬ (40 : Int) < (nm.size : Int) := by omega
      have z2' : decide ((40 : Int) < (nm.size : Int)) = false := decide_eq_false z2
      obtain ⟨qp, hqp⟩ : ∃ qp, plainN (.mk nm kd nu tx ls ns) = qp := ⟨_, rfl⟩
      have HE2 := Lib.hid (show ok = (qp && (if kd = 4 then f ns else true)) by rw [HE1.out, decide_eq_true h40, hqp]; rfl)
      have HP := Lib.hid (rplain_any (nm := nm) (kd := kd) (nu := nu) (tx := tx) HTL.out HNL.out hf3 HF4.out hf2 hf6 hqp)
      clear hqp h40 HE1 HW
      go_wp2_with fail
      refine HP.out.mono ?_
      rintro e w3 ⟨rfl, hb3⟩
      have HB3 := Lib.hid (show Below (wo.heap.size + 1) w1 w3 by rw [← HZ1.out]; exact hb3)
      cases qp with
      | false =>
        have HE := Lib.hid (show ok = false by rw [HE2.out]; rfl)
        clear hb3
        go_wp2_with fail
        go_meet
        case rel => exact ⟨by rw [HE.out]; rfl, HB3.out⟩
      | true =>
      have HN3 := Lib.hid (HNL.out.up hb3)
      have hbx3 := HBX.out.below hb3 HBX.out.lt
      have d1 : w3.cell? ⟨wo.heap.size, 1, none⟩ = some (.int .i64 kd) := by rw [hbx3.cell]; rfl
      have d5 : w3.cell? ⟨wo.heap.size, 5, none⟩ = some (.slice Bx ns.length dx) := by rw [hbx3.cell]; rfl
      clear hb3 c0 c1 c2 c3 c4 c5 HP hbx3
      by_cases h4 : kd = 4
      case neg =>
        have z3 : (kd == 4) = false := beq_eq_false_iff_ne.2 h4
        have HE := Lib.hid (show ok = true by rw [HE2.out, if_neg h4]; rfl)
        clear h4
        go_wp2_with fail
        go_meet
        case rel => exact ⟨by rw [HE.out]; rfl, HB3.out⟩
      have HE3 := Lib.hid (show ok = f ns by rw [HE2.out, if_pos h4]; rfl)
      subst h4
      by_cases hd0 : d = 0
      · have z4 : ((d : Int) == 0) = true := beq_iff_eq.2 (by omega)
        have hs := HSUB.out
        rw [if_pos hd0] at hs
        have HE := Lib.hid (show ok = false by rw [HE3.out, hs])
        clear hd0 hs
        go_wp2_with fail
        go_meet
        case rel => exact ⟨by rw [HE.out]; rfl, HB3.out⟩
      · have z4 : ((d : Int) == 0) = false := beq_eq_false_iff_ne.2 (by omega)
        have hs := HSUB.out
        rw [if_neg hd0] at hs
        have HR := Lib.hid (show Calls Tryd.prog 27 #[.slice Bx ns.length dx, .int .i64 ((d : Int) - 1)] w3 (Ret (.bool ok) w3) by
          have h := hs HN3.out HF5.out HE3.out.symm
          rw [show ((d - 1 : Nat) : Int) = (d : Int) - 1 by omega] at h
          exact h)
        clear hs hd0
        go_wp2_with fail
        refine HR.out.mono ?_
        rintro e w4 ⟨rfl, hb4⟩
        have HB4 := Lib.hid (show Below (wo.heap.size + 1) w1 w4 from HB3.out.trans (hb4.mono (by have := HB3.out.size; have := HZ1.out; omega)))
        clear hb4
        go_wp2_with fail
        go_meet
        case rel => exact ⟨rfl, HB4.out⟩
    case rest =>
    obtain ⟨rfl, hbc⟩ := hcut
    have HBC := Lib.hid (show Below w.heap.size w wc from HB1.out.trans (hbc.mono (by have := HB.out.size; omega)))
    have hbc2 : Below w1.heap.size w1 wc := by rw [HZ1.out]; exact hbc
    have HLC := Lib.hid (HL1.out.up hbc2)
    have HXC := Lib.hid (HBX.out.below hbc2 HBX.out.lt)
    clear hbc hbc2 HL1 HBX HB1 HTL HNL
    cases ok with
    | false =>
      have HE := Lib.hid (HBAD.out HOKX.out)
      go_wp2_with fail
      go_ret
      exact ⟨by rw [HE.out]; rfl, HBC.out⟩
    | true =>
    go_wp2_with fail
    go_loopw [7] (fun i wx => ∃ m : Nat, m ≤ k ∧ i = .int .i64 (m : Int) ∧ (∀ t ∈ l.take m, t.name ≠ nm) ∧ Below wc.heap.size wc wx) (fun i _ => k - (intOf i).toNat)
    case atStart => exact ⟨0, Nat.zero_le _, rfl, by simp, Below.refl _ _⟩
    case round =>
      obtain ⟨m, hm, rfl, hne, hbw⟩ := hrel
      have HNE := Lib.hid hne
      have HBW := Lib.hid hbw
      clear hne hbw
      by_cases hmk : m < k
      case neg =>
        obtain rfl : m = k := by omega
        have HNX := Lib.hid (HNDN.out (HMEM.out HNE.out))
        have HOX := Lib.hid (HOKN.out HOKX.out)
        go_wp2_with fail
        go_roundw
        case rel => exact ⟨m + 1, by omega, by go_num, HOX.out, HNX.out, HBC.out.next HBW.out⟩
        case measure => simp [intOf]; omega
      have y0 : (m : Int) < (k : Int) := by omega
      have y1 : (0 : Int) ≤ (m : Int) := by omega
      have y2 : (m : Int) < (l.length : Int) := by omega
      obtain ⟨ad2, y, yl, yn, ead, hy, _, had3, h7, _, _⟩ := (HLC.out.up HBW.out).at_ (k := m) (by omega)
      obtain rfl : ad = ad2 := by injection ead
      have r0 := h7.c0
      have HY := Lib.hid hy
      have x0 : wr.cell? ⟨wo.heap.size, 0, none⟩ = some (.string nm) := by rw [(HXC.out.below HBW.out HXC.out.lt).cell]; rfl
      clear hy h7 ead
      by_cases hyn : y.name = nm
      · have HE := Lib.hid (HDUP.out m y HY.out hmk hyn)
        have q1 : (y.name.toList == nm.toList) = true := by rw [hyn]; simp
        clear hyn
        go_wp2_with fail
        go_quiet (fail)
        go_wp2_with fail
        go_ret
        exact ⟨by rw [HE.out]; rfl, below_drewN (HBC.out.next HBW.out) _⟩
      · have HNN := Lib.hid (mem_next HY.out HNE.out hyn)
        have q1 : (y.name.toList == nm.toList) = false := by rw [bytes_beq2, decide_eq_false hyn]
        clear hyn
        go_wp2_with fail
        go_quiet (fail)
        go_wp2_with fail
        go_roundw
        case rel => exact ⟨m + 1, by omega, by go_num, HNN.out, below_drewN HBW.out _⟩
        case measure => simp [intOf]; omega

theorem rformed_any : ∀ d : Nat, d ≤ 8 → RFC (formedF d) d := by
  intro d
  induction d with
  | zero => exact fun hd => rformed_step (f := fun _ => false) hd (by rw [if_pos rfl]; intro _; rfl)
  | succ d ih => exact fun hd => rformed_step (f := formedF d) hd (by rw [if_neg (Nat.succ_ne_zero d)]; exact ih (by omega))
end Go.Proofs.YtfmdbmalmeimbaaDoor
/- The reference: lines, Format. -/
namespace Go.Proofs.YtfmdbmalmeimbaaDoor
open Go.RowKit
set_option maxRecDepth 100000

theorem rep_snoc : ∀ d : Nat, Lib.repeatL [32, 32] d ++ [32, 32] = Lib.repeatL [32, 32] (d + 1)
  | 0 => rfl
  | d + 1 => by
    have := rep_snoc d
    show ([32, 32] ++ Lib.repeatL [32, 32] d) ++ [32, 32] = [32, 32] ++ Lib.repeatL [32, 32] (d + 1)
    rw [List.append_assoc, this]
theorem app_list (a b : ByteArray) : (a ++ b).data.toList = a.data.toList ++ b.data.toList := by
  rw [ByteArray.data_append, Array.toList_append]
theorem join_next {xs : List (List UInt8)} {j : Nat} {y : List UInt8} (h : xs[j]? = some y) : Lib.join (xs.take (j + 1)) [44, 32] = Lib.join (xs.take j) [44, 32] ++ (if j = 0 then [] else [44, 32]) ++ y := by
  cases xs with
  | nil => simp at h
  | cons x r =>
    cases j with
    | zero =>
      have : x = y := by simpa using h
      subst this
      rw [List.take_zero, Lib.join_nil]
      simp [Lib.join_one]
    | succ j =>
      rw [List.take_succ_cons, List.take_succ_cons, Lib.join_cons, Lib.join_cons, Lib.joinTail_take_succ _ _ _ y (by simpa using h), if_neg (Nat.succ_ne_zero j)]
      simp [List.append_assoc]
/-- what lines writes at depth d -/
def RLC (f : List Nd → Bool) (sub : Nat → List Nd → List UInt8) (d : Nat) : Prop := ∀ {l : List Nd} {w : World} {S : Nat → Prop} {A : Option Addr} {c : Nat}, NL w S (.slice A l.length c) l → Fit l → f l = true → (sub d l).length ≤ 140737488355328 →
    Calls Tryd.prog 29 #[.slice A l.length c, .string (bsT (Lib.repeatL [32, 32] d))] w (Ret (.string (bsT (sub d l))) w)
theorem node_len_le {g : Nd → List UInt8} {l : List Nd} {k : Nat} {x : Nd} (h : l[k]? = some x) : (g x).length ≤ (l.flatMap g).length := by
  have h1 := flatM_take (f := g) h
  have h2 := flatM_le g l (k + 1)
  rw [h1, List.length_append] at h2
  omega
set_option maxHeartbeats 16000000 in
theorem rlines_step {f : List Nd → Bool} {sub : Nat → List Nd → List UInt8} {d : Nat} (hd : d ≤ 8) (hsub : ∀ l, f l = true → RLC f sub (d + 1)) : RLC (fun l => decide ((l.map Nd.name).Nodup) && l.all (okN f)) (fun d l => l.flatMap (nodeL sub d)) d := by
  intro l w S A c hl hfit hf hlen
  simp only at hlen hf
  have HL := Lib.hid hl
  have HFT := Lib.hid hfit
  have HF := Lib.hid (show ∀ t ∈ l, okN f t = true by rw [Bool.and_eq_true] at hf; exact List.all_eq_true.1 hf.2)
  have HLEN := Lib.hid hlen
  have HSUB := Lib.hid hsub
  have hln := hfit.all.1
  obtain ⟨ind, hind⟩ : ∃ ind, bsT (Lib.repeatL [32, 32] d) = ind := ⟨_, rfl⟩
  have his : ind.size ≤ 16 := by
    rw [← hind, ← size_list]
    show (Lib.repeatL [32, 32] d).length ≤ 16
    rw [rep_len]; omega
  have HIND := Lib.hid (show ind.data.toList = Lib.repeatL [32, 32] d by rw [← hind]; rfl)
  have HIND2 := Lib.hid (show ind ++ ⟨#[32, 32]⟩ = bsT (Lib.repeatL [32, 32] (d + 1)) from ba_eq (by rw [app_list, ← hind, ← rep_snoc]; rfl))
  show Calls Tryd.prog 29 #[.slice A l.length c, .string (bsT (Lib.repeatL [32, 32] d))] w (Ret (.string (bsT (l.flatMap (nodeL sub d)))) w)
  rw [hind]
  clear hl hfit hf hlen hsub hind
  go_enter Tryd.func29, Tryd.ntmps29
  go_wp2_with fail
  go_loopw [5, 6] (fun v i wr => ∃ (k : Nat) (o : ByteArray), k ≤ l.length ∧ i = .int .i64 (k : Int) ∧ v = .string o ∧ o.data.toList = (l.take k).flatMap (nodeL sub d) ∧ Below w.heap.size w wr) (fun _ i _ => l.length - (intOf i).toNat)
  case atStart => exact ⟨0, ⟨#[]⟩, Nat.zero_le _, rfl, rfl, rfl, Below.refl _ _⟩
  case round =>
    obtain ⟨wo, hwo⟩ : ∃ wo, wo = wr := ⟨_, rfl⟩
    subst hwo
    obtain ⟨k, o, hk, rfl, rfl, ho, hb⟩ := hrel
    have hos : o.size ≤ 140737488355328 := by
      rw [← size_list, ho]
      exact Nat.le_trans (flatM_le _ _ _) HLEN.out
    have HO := Lib.hid ho
    have HB := Lib.hid hb
    clear ho hb
    by_cases hlt : k < l.length
    case neg =>
      obtain rfl : k = l.length := by omega
      have HE := Lib.hid (show o = bsT (l.flatMap (nodeL sub d)) from ba_eq (by have := HO.out; rw [List.take_length] at this; exact this))
      go_wp2_with fail
      go_ret
      exact ⟨by rw [HE.out]; rfl, HB.out⟩
    have z0 : (k : Int) < (l.length : Int) := by omega
    have z1 : (0 : Int) ≤ (k : Int) := by omega
    have HLW := Lib.hid (HL.out.up HB.out)
    obtain ⟨ad, x, xl, xn, rfl, hx, _, had, h6, htl, hnl⟩ := HLW.out.at_ hlt
    have hxm := List.mem_of_getElem? hx
    have HX := Lib.hid hx
    obtain ⟨Ax, cx, rfl, _⟩ := htl.form
    obtain ⟨Bx, dx, rfl, _⟩ := id hnl.form
    obtain ⟨p0, p1, p2, p3, p4, p5⟩ := h6
    have had2 : (ad.add (k * 6)).block < wo.heap.size := by rw [block_of_add]; exact had
    have hf1 := HFT.out.all.2.1 x hxm
    have hf2 := HFT.out.all.2.2.1 x hxm
    have hf3 := HFT.out.all.2.2.2.1 x hxm
    have HF4 := Lib.hid (HFT.out.all.2.2.2.2.1 x hxm)
    have HF5 := Lib.hid (HFT.out.all.2.2.2.2.2 x hxm)
    have hf6 := HF5.out.all.1
    have HNX := Lib.hid (fun (p : ByteArray) (hp : p.data.toList = o.data.toList ++ nodeL sub d x) => show p.data.toList = (l.take (k + 1)).flatMap (nodeL sub d) by rw [hp, HO.out, flatM_take HX.out])
    have HNL0 := Lib.hid (show (nodeL sub d x).length ≤ 140737488355328 from Nat.le_trans (node_len_le HX.out) HLEN.out)
    have hokx := HF.out x hxm
    obtain ⟨nm, kd, nu, tx, ls, ns⟩ := x
    simp only [Nd.name, Nd.kind, Nd.num, Nd.text, Nd.list, Nd.nodes] at *
    rw [okN_eq, Bool.and_eq_true, Bool.and_eq_true] at hokx
    obtain ⟨⟨_, hpl⟩, hsb⟩ := hokx
    have HPL := Lib.hid hpl
    have HSB := Lib.hid hsb
    obtain ⟨cs, hcs⟩ : ∃ cs : Array Value, cs = #[.string nm, .int .i64 kd, .int .i64 nu, .string tx, .slice Ax ls.length cx, .slice Bx ns.length dx] := ⟨_, rfl⟩
    have HTL := Lib.hid (htl.up ((Below.refl _ _).al (.cells cs 48)))
    have HNL := Lib.hid (hnl.up ((Below.refl _ _).al (.cells cs 48)))
    have HBX := Lib.hid (Blk.new wo 48 cs)
    subst hcs
    have HB1 := Lib.hid (HB.out.al (.cells #[.string nm, .int .i64 kd, .int .i64 nu, .string tx, .slice Ax ls.length cx, .slice Bx ns.length dx] 48))
    clear hx hxm htl hnl hpl hsb HLW
    by_cases k1 : kd = 1
    · subst k1
      have hp := HPL.out
      rw [pl1] at hp
      simp only [Bool.and_eq_true, decide_eq_true_eq] at hp
      obtain ⟨dd, hdd⟩ : ∃ dd : ByteArray, (⟨(Lib.itoa nu).toArray⟩ : ByteArray) = dd := ⟨_, rfl⟩
      have hds : dd.size ≤ 21 := by rw [← hdd, sz_arr]; exact itoa_len (by omega) (by omega)
      have HD := Lib.hid (fun W => show Calls Tryd.prog 53 #[.int .i64 nu] W (fun e w' => e = .returned (.string dd) ∧ ∃ n, w' = W.drewN n) by
        have h := decimal_any nu (by omega) (by omega) W
        unfold DecRet at h
        rw [hdd] at h
        exact h)
      have HE := Lib.hid (show (o ++ (ind ++ nm) ++ (⟨#[32, 61, 32]⟩ ++ dd) ++ ⟨#[10]⟩).data.toList = o.data.toList ++ nodeL sub d (.mk nm 1 nu tx ls ns) by
        unfold nodeL
        rw [if_pos (show (Nd.mk nm 1 nu tx ls ns).kind = 1 from rfl)]
        simp only [app_list, HIND.out, ← hdd]
        unfold lineB
        simp [eqB, bsT, Nd.name, Nd.num])
      clear hp hdd
      go_wp2_with fail
      refine (HD.out _).mono ?_
      rintro e w2 ⟨rfl, n2, rfl⟩
      go_wp2_with fail
      go_roundw
      case rel => exact ⟨k + 1, _, by omega, by go_num, rfl, HNX.out _ HE.out, below_drewN HB1.out _⟩
      case measure => simp [intOf]; omega
    have c1 : (kd == 1) = false := beq_eq_false_iff_ne.2 k1
    by_cases k2 : kd = 2
    · subst k2
      have hp := HPL.out
      rw [pl2] at hp
      simp only [Bool.and_eq_true, decide_eq_true_eq] at hp
      obtain ⟨dd, hdd⟩ : ∃ dd : ByteArray, (⟨(quoteL tx.data.toList).toArray⟩ : ByteArray) = dd := ⟨_, rfl⟩
      have hds : dd.size ≤ 4000002 := by
        rw [← hdd, sz_arr, quote_len]
        have := escL_len tx.data.toList
        rw [size_list] at this
        omega
      have HD := Lib.hid (fun W => show Calls Tryd.prog 54 #[.string tx] W (fun e w' => e = .returned (.tuple #[.string dd, .int .i64 0]) ∧ W = w') by
        have h := rquote_any tx W hf2
        rw [quoteV_ok hp.1.1.1, hdd] at h
        exact h)
      have HE := Lib.hid (show (o ++ (ind ++ nm) ++ (⟨#[32, 61, 32]⟩ ++ dd) ++ ⟨#[10]⟩).data.toList = o.data.toList ++ nodeL sub d (.mk nm 2 nu tx ls ns) by
        unfold nodeL
        rw [if_neg (show ¬ (Nd.mk nm 2 nu tx ls ns).kind = 1 by show ¬ (2 : Int) = 1; decide), if_pos (show (Nd.mk nm 2 nu tx ls ns).kind = 2 from rfl)]
        simp only [app_list, HIND.out, ← hdd]
        unfold lineB
        simp [eqB, bsT, qT, Nd.name, Nd.text])
      clear hp hdd k1
      go_wp2_with fail
      refine (HD.out _).mono ?_
      rintro e w2 ⟨rfl, rfl⟩
      go_wp2_with fail
      go_roundw
      case rel => exact ⟨k + 1, _, by omega, by go_num, rfl, HNX.out _ HE.out, HB1.out⟩
      case measure => simp [intOf]; omega
    have c2 : (kd == 2) = false := beq_eq_false_iff_ne.2 k2
    by_cases k3 : kd = 3
    · subst k3
      have hp := HPL.out
      rw [pl3] at hp
      simp only [Bool.and_eq_true, decide_eq_true_eq] at hp
      have HQ := Lib.hid (show ∀ s ∈ ls, qokT s = true from List.all_eq_true.1 hp.1.1.1)
      have HIN := Lib.hid (show ∀ o2 : ByteArray, o2.data.toList = (o ++ (ind ++ nm) ++ (⟨#[32, 61, 32, 91]⟩ : ByteArray)).data.toList ++ Lib.join (ls.map (fun s => quoteL s.data.toList)) [44, 32] → (o2 ++ ⟨#[93]⟩ ++ ⟨#[10]⟩).data.toList = o.data.toList ++ nodeL sub d (.mk nm 3 nu tx ls ns) from fun o2 h2 => by
        unfold nodeL
        rw [if_neg (show ¬ (Nd.mk nm 3 nu tx ls ns).kind = 1 by show ¬ (3 : Int) = 1; decide), if_neg (show ¬ (Nd.mk nm 3 nu tx ls ns).kind = 2 by show ¬ (3 : Int) = 2; decide), if_pos (show (Nd.mk nm 3 nu tx ls ns).kind = 3 from rfl)]
        unfold lineB
        simp only [app_list, h2, HIND.out, List.flatMap_cons, List.flatMap_nil, joinQ_eq, Nd.list, Nd.name]
        simp [opB, clB])
      clear hp k1 k2
      go_wp2_with fail
      go_loopw [5, 10] (fun v i wx => ∃ (j : Nat) (o2 : ByteArray), j ≤ ls.length ∧ i = .int .i64 (j : Int) ∧ v = .string o2 ∧ o2.size ≤ 140737495000000 + j * 4000004 ∧ o2.data.toList = (o ++ (ind ++ nm) ++ (⟨#[32, 61, 32, 91]⟩ : ByteArray)).data.toList ++ Lib.join ((ls.map (fun s => quoteL s.data.toList)).take j) [44, 32] ∧ wx = wo.alloc (.cells #[.string nm, .int .i64 3, .int .i64 nu, .string tx, .slice Ax ls.length cx, .slice Bx ns.length dx] 48)) (fun _ i _ => ls.length - (intOf i).toNat)
      case atStart => exact ⟨0, _, Nat.zero_le _, rfl, rfl, by simp only [ByteArray.size_append]; show o.size + (ind.size + nm.size) + 4 ≤ _; omega, by rw [List.take_zero, Lib.join_nil, List.append_nil], rfl⟩
      case round =>
        obtain ⟨j, o2, hj, rfl, rfl, ho2, hl2, rfl⟩ := hrel
        have HL2 := Lib.hid hl2
        clear hl2
        have hb2 : o2.size ≤ 340745000000000 := by omega
        by_cases hjl : j < ls.length
        · have y0 : (j : Int) < (ls.length : Int) := by omega
          have y1 : (0 : Int) ≤ (j : Int) := by omega
          obtain ⟨ad2, s, rfl, hs, had3, a0⟩ := HTL.out.at_ hjl
          have hsm := List.mem_of_getElem? hs
          have hss := HF4.out s hsm
          obtain ⟨dd, hdd⟩ : ∃ dd : ByteArray, (⟨(quoteL s.data.toList).toArray⟩ : ByteArray) = dd := ⟨_, rfl⟩
          have hds : dd.size ≤ 4000002 := by
            rw [← hdd, sz_arr, quote_len]
            have := escL_len s.data.toList
            rw [size_list] at this
            omega
          have HD := Lib.hid (fun W => show Calls Tryd.prog 54 #[.string s] W (fun e w' => e = .returned (.tuple #[.string dd, .int .i64 0]) ∧ W = w') by
            have h := rquote_any s W hss
            rw [quoteV_ok (HQ.out s hsm), hdd] at h
            exact h)
          have hnx := join_next (xs := ls.map (fun s => quoteL s.data.toList)) (j := j) (y := dd.data.toList) (by rw [List.getElem?_map, hs, ← hdd]; rfl)
          have HNJ := Lib.hid hnx
          clear hnx hdd hs hsm
          by_cases hj0 : j = 0
          · have y2 : ¬ (0 : Int) < (j : Int) := by omega
            have HE := Lib.hid (show (o2 ++ dd).data.toList = (o ++ (ind ++ nm) ++ (⟨#[32, 61, 32, 91]⟩ : ByteArray)).data.toList ++ Lib.join ((ls.map (fun s => quoteL s.data.toList)).take (j + 1)) [44, 32] by
              rw [app_list, HL2.out, HNJ.out, if_pos hj0, List.append_nil, List.append_assoc])
            clear hj0
            go_wp2_with fail
            refine (HD.out _).mono ?_
            rintro e w2 ⟨rfl, rfl⟩
            go_wp2_with fail
            go_roundw
            case rel => exact ⟨j + 1, _, by omega, by go_num, rfl, by simp only [ByteArray.size_append]; omega, HE.out, by first | trivial | rfl⟩
            case measure => simp [intOf]; omega
          · have y2 : (0 : Int) < (j : Int) := by omega
            have HE := Lib.hid (show (o2 ++ ⟨#[44, 32]⟩ ++ dd).data.toList = (o ++ (ind ++ nm) ++ (⟨#[32, 61, 32, 91]⟩ : ByteArray)).data.toList ++ Lib.join ((ls.map (fun s => quoteL s.data.toList)).take (j + 1)) [44, 32] by
              rw [app_list, app_list, HL2.out, HNJ.out, if_neg hj0]
              simp [List.append_assoc])
            clear hj0
            go_wp2_with fail
            refine (HD.out _).mono ?_
            rintro e w2 ⟨rfl, rfl⟩
            go_wp2_with fail
            go_roundw
            case rel => exact ⟨j + 1, _, by omega, by go_num, rfl, by simp only [ByteArray.size_append]; show o2.size + 2 + dd.size ≤ _; omega, HE.out, by first | trivial | rfl⟩
            case measure => simp [intOf]; omega
        · obtain rfl : j = ls.length := by omega
          have HE := Lib.hid (HIN.out o2 (by have := HL2.out; rw [List.take_of_length_le (by rw [List.length_map]; exact Nat.le_refl _)] at this; exact this))
          go_wp2_with fail
          go_roundw
          case rel => exact ⟨k + 1, _, by omega, by go_num, rfl, HNX.out _ HE.out, HB1.out⟩
          case measure => simp [intOf]; omega
    have c3 : (kd == 3) = false := beq_eq_false_iff_ne.2 k3
    have hp := HPL.out
    rw [pl4 _ _ _ _ _ _ k1 k2 k3] at hp
    simp only [Bool.and_eq_true, decide_eq_true_eq] at hp
    obtain rfl := hp.1.1.1
    clear hp
    have hsb := HSB.out
    rw [if_pos rfl] at hsb
    obtain ⟨dd, hdd⟩ : ∃ dd : ByteArray, bsT (sub (d + 1) ns) = dd := ⟨_, rfl⟩
    have hnl : nodeL sub d (.mk nm 4 nu tx ls ns) = lineB d [nm, obB] ++ sub (d + 1) ns ++ lineB d [cbB] := by
      unfold nodeL
      rw [if_neg (show ¬ (Nd.mk nm 4 nu tx ls ns).kind = 1 by show ¬ (4 : Int) = 1; decide), if_neg (show ¬ (Nd.mk nm 4 nu tx ls ns).kind = 2 by show ¬ (4 : Int) = 2; decide), if_neg (show ¬ (Nd.mk nm 4 nu tx ls ns).kind = 3 by show ¬ (4 : Int) = 3; decide)]
      rfl
    have hsl : (sub (d + 1) ns).length ≤ 140737488355328 := by
      have h := HNL0.out
      rw [hnl, List.length_append, List.length_append] at h
      omega
    have hds : dd.size ≤ 140737488355328 := by rw [← hdd]; unfold bsT; rw [sz_arr]; exact hsl
    have HR := Lib.hid (show Calls Tryd.prog 29 #[.slice Bx ns.length dx, .string (ind ++ ⟨#[32, 32]⟩)] (wo.alloc (.cells #[.string nm, .int .i64 4, .int .i64 nu, .string tx, .slice Ax ls.length cx, .slice Bx ns.length dx] 48)) (Ret (.string dd) (wo.alloc (.cells #[.string nm, .int .i64 4, .int .i64 nu, .string tx, .slice Ax ls.length cx, .slice Bx ns.length dx] 48))) by
      rw [HIND2.out, ← hdd]
      exact HSUB.out ns hsb HNL.out HF5.out hsb hsl)
    have HE := Lib.hid (show (o ++ (ind ++ nm) ++ ((⟨#[32, 123, 10]⟩ ++ dd ++ ind) ++ ⟨#[125]⟩) ++ ⟨#[10]⟩).data.toList = o.data.toList ++ nodeL sub d (.mk nm 4 nu tx ls ns) by
      rw [hnl]
      simp only [app_list, HIND.out, ← hdd]
      unfold lineB
      simp [obB, cbB, bsT])
    clear hdd hnl hsl hsb k1 k2 k3
    go_wp2_with fail
    refine HR.out.mono ?_
    rintro e w2 ⟨rfl, hb2⟩
    have HB2 := Lib.hid (HB1.out.next hb2)
    clear hb2
    go_wp2_with fail
    go_roundw
    case rel => exact ⟨k + 1, _, by omega, by go_num, rfl, HNX.out _ HE.out, HB2.out⟩
    case measure => simp [intOf]; omega
theorem rlines_any : ∀ k d : Nat, d + k = 8 → RLC (formedF k) (linesF k) d := by
  intro k
  induction k with
  | zero => exact fun d hd => rlines_step (f := fun _ => false) (sub := fun _ _ => []) (by omega) (fun l h => by cases h)
  | succ k ih => exact fun d hd => rlines_step (f := formedF k) (sub := linesF k) (by omega) (fun l h => ih (d + 1) (by omega))
set_option maxHeartbeats 4000000 in
theorem rformat_any {w : World} {S : Nat → Prop} {A : Option Addr} {c : Nat} {l : List Nd} (hl : NL w S (.slice A l.length c) l) (hfit : Fit l) (hc : cntL l ≤ 1000000000) (hlen : (linesF 8 0 l).length ≤ 140737488355328) :
    Calls Tryd.prog 14 #[.slice A l.length c] w (FormatRet l w) := by
  obtain ⟨q, hq⟩ : ∃ q, formedF 8 l = q := ⟨_, rfl⟩
  have HF := Lib.hid (rformed_any 8 (by omega) hl hfit hq)
  have HL := Lib.hid hl
  have HFT := Lib.hid hfit
  have HQ := Lib.hid hq
  have HLN := Lib.hid hlen
  clear hl hfit hq hlen
  go_enter Tryd.func14, Tryd.ntmps14
  go_wp2_with fail
  refine HF.out.mono ?_
  rintro e w1 ⟨rfl, hb1⟩
  have HB1 := Lib.hid hb1
  clear hb1
  cases q with
  | false =>
    have HE := Lib.hid (show formatR l = (⟨#[]⟩, 2) by unfold formatR; rw [if_neg (by rw [HQ.out]; decide)])
    go_wp2_with fail
    go_ret2
    exact ⟨by rw [HE.out]; rfl, HB1.out⟩
  | true =>
    have HC := Lib.hid (rcount_any _ l (Nat.lt_succ_self _) (HL.out.up HB1.out) hc)
    obtain ⟨n, hn⟩ : ∃ n, cntL l = n := ⟨_, rfl⟩
    rw [hn] at HC hc
    have HN := Lib.hid hn
    clear hn
    go_wp2_with fail
    refine HC.out.mono ?_
    rintro e w2 ⟨rfl, rfl⟩
    by_cases hn9 : 1024 < n
    · have z : (1024 : Int) < (n : Int) := by omega
      have HE := Lib.hid (show formatR l = (⟨#[]⟩, 4) by unfold formatR; rw [if_pos HQ.out, HN.out, if_pos hn9])
      clear hn9
      go_wp2_with fail
      go_ret2
      exact ⟨by rw [HE.out]; rfl, HB1.out⟩
    · have z : ¬ (1024 : Int) < (n : Int) := by omega
      obtain ⟨s, hs⟩ : ∃ s, bsT (linesF 8 0 l) = s := ⟨_, rfl⟩
      have hz : s.size = (linesF 8 0 l).length := by rw [← hs]; exact sz_arr _
      have HLX := Lib.hid (show Calls Tryd.prog 29 #[.slice A l.length c, .string ⟨#[]⟩] w1 (Ret (.string s) w1) by
        have h := rlines_any 8 0 rfl (HL.out.up HB1.out) HFT.out HQ.out HLN.out
        rw [hs] at h
        exact h)
      have HV := Lib.hid (show formatR l = if 8192 < s.size then (⟨#[]⟩, 4) else (s, 0) by unfold formatR; rw [if_pos HQ.out, HN.out, if_neg hn9, hz, hs])
      clear hn9 hs hz
      go_wp2_with fail
      refine HLX.out.mono ?_
      rintro e w3 ⟨rfl, hb3⟩
      have HB3 := Lib.hid (HB1.out.next hb3)
      clear hb3
      by_cases h8 : 8192 < s.size
      · have z2 : (8192 : Int) < (s.size : Int) := by omega
        have HE := Lib.hid (show formatR l = (⟨#[]⟩, 4) by rw [HV.out, if_pos h8])
        clear h8
        go_wp2_with fail
        go_ret2
        exact ⟨by rw [HE.out]; rfl, HB3.out⟩
      · have z2 : ¬ (8192 : Int) < (s.size : Int) := by omega
        have HE := Lib.hid (show formatR l = (s, 0) by rw [HV.out, if_neg h8])
        clear h8
        go_wp2_with fail
        go_ret2
        exact ⟨by rw [HE.out]; rfl, HB3.out⟩
end Go.Proofs.YtfmdbmalmeimbaaDoor
