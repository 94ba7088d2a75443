/- Contains, Uses; the closure of TableUses. -/
import Derived.Test.YtkifopombddcjaaUses
namespace Go.Proofs.Ytkifopombddcjaa
open Go.RowKit

/-- texts in memory -/
def SRow (w : World) (A : Option Addr) (l : List ByteArray) : Prop := Reads w w.heap.size 1 A l.length (T l)
theorem SRow.up {w w' : World} {A : Option Addr} {l : List ByteArray} (h : SRow w A l) (hb : Below w.heap.size w w') : SRow w' A l := (Reads.below h hb).more hb.size
theorem SRow.at_ {w : World} {A : Option Addr} {l : List ByteArray} (h : SRow w A l) {k : Nat} (hk : k < l.length) : ∃ ad s, A = some ad ∧ l[k]? = some s ∧ w.cell? (ad.add k) = some (.string s) := by
  obtain ⟨ad, u, e, _, hx, hc⟩ := Reads.at_ h hk
  obtain ⟨s, hs, rfl⟩ := T_at hx
  exact ⟨ad, s, e, hs, hc⟩
/-- Index: at least 0 if the text is there -/
def IdxRet (l : List ByteArray) (s : ByteArray) (w : World) (e : Ending) (w' : World) : Prop := ∃ z : Int, (0 ≤ z ↔ s ∈ l) ∧ e = .returned (.int .i64 z) ∧ Below w.heap.size w w'
section
variable {A : Option Addr} {c : Nat} {l : List ByteArray} {s : ByteArray} {w : World}
set_option maxRecDepth 100000 in
set_option maxHeartbeats 4000000 in
theorem index_any (hl : l.length ≤ 1000) (h : SRow w A l) : Calls Try.prog 42 #[.slice A l.length c, .string s] w (IdxRet l s w) := by
  have HR := Lib.hid h
  clear h
  go_enter Try.func42, Try.ntmps42
  go_wp2_with fail
  go_loopw [8] (fun i wr => ∃ k : Nat, k ≤ l.length ∧ i = .int .i64 (k : Int) ∧ (¬ s ∈ l.take k) ∧ Below w.heap.size w wr) (fun i _ => l.length - (intOf i).toNat)
  case atStart => exact ⟨0, by omega, rfl, by simp, Below.refl _ _⟩
  case round =>
    obtain ⟨k, hk, rfl, hns, hb⟩ := hrel
    have HB := Lib.hid hb
    have HNS := Lib.hid hns
    clear hb hns
    by_cases hlt : k < l.length
    · obtain ⟨ad, x, rfl, hx, hc⟩ := (HR.out.up HB.out).at_ hlt
      have HX := Lib.hid hx
      clear hx
      have j0 : (k : Int) < (l.length : Int) := by omega
      by_cases hsx : s = x
      · subst hsx
        go_wp2_with fail
        go_ret
        exact ⟨k, ⟨fun _ => List.mem_of_getElem? HX.out, fun _ => by omega⟩, rfl, HB.out⟩
      · have q0 := toList_ne hsx
        have HN := Lib.hid hsx
        clear hsx
        go_wp2_with fail
        go_roundw
        case rel =>
          refine ⟨k + 1, by omega, by go_num, ?_, HB.out⟩
          obtain ⟨hk2, e⟩ := List.getElem?_eq_some_iff.1 HX.out
          rw [List.take_succ_eq_append_getElem hk2, e]
          intro hm
          rcases List.mem_append.1 hm with hm | hm
          · exact HNS.out hm
          · exact HN.out (by simpa using hm)
        case measure => simp [intOf]; omega
    · obtain rfl : k = l.length := by omega
      go_wp2_with fail
      go_ret
      exact ⟨-1, ⟨fun h => by omega, fun h => absurd h (by have := HNS.out; rwa [List.take_length] at this)⟩, rfl, HB.out⟩
set_option maxRecDepth 100000 in
set_option maxHeartbeats 4000000 in
theorem contains_any (hl : l.length ≤ 1000) (h : SRow w A l) {b : Bool} (hb : hasS l s = b) : Calls Try.prog 32 #[.slice A l.length c, .string s] w (Ret (.bool b) w) := by
  have HI := Lib.hid (index_any (c := c) (s := s) hl h)
  have HBB := Lib.hid hb
  clear h hb
  go_enter Try.func32, Try.ntmps32
  go_wp2_with fail
  refine HI.out.mono ?_
  rintro e w1 ⟨z, hz, rfl, hb⟩
  have HZ := Lib.hid hz
  have HB := Lib.hid hb
  clear hz hb
  by_cases h0 : 0 ≤ z
  · have HE := Lib.hid (show b = true by rw [← HBB.out]; exact hasS_iff.2 (HZ.out.1 h0))
    go_wp2_with fail
    go_ret
    exact ⟨by rw [HE.out]; rfl, HB.out⟩
  · have d0 : decide (0 ≤ z) = false := decide_eq_false h0
    have HE := Lib.hid (show b = false by rw [← HBB.out]; exact hasS_not (fun h => h0 (HZ.out.2 h)))
    go_wp2_with fail
    go_ret
    exact ⟨by rw [HE.out]; rfl, HB.out⟩
set_option maxRecDepth 100000 in
set_option maxHeartbeats 4000000 in
theorem in_any (hl : l.length ≤ 1000) (h : SRow w A l) {b : Bool} (hb : decide (cntS l s = 1) = b) : Calls Try.prog 20 #[.slice A l.length c, .string s] w (Ret (.bool b) w) := by
  have HR := Lib.hid h
  have HBB := Lib.hid hb
  clear h hb
  go_enter Try.func20, Try.ntmps20
  go_wp2_with fail
  go_loopw [5, 6] (fun n i wr => ∃ k m : Nat, k ≤ l.length ∧ i = .int .i64 (k : Int) ∧ n = .int .i64 (m : Int) ∧ m ≤ k ∧ cntS (l.take k) s = m ∧ Below w.heap.size w wr) (fun _ i _ => l.length - (intOf i).toNat)
  case atStart => exact ⟨0, 0, by omega, rfl, rfl, by omega, rfl, Below.refl _ _⟩
  case round =>
    obtain ⟨k, m, hk, rfl, rfl, hm, hc, hb⟩ := hrel
    have HB := Lib.hid hb
    have HC := Lib.hid hc
    clear hb hc
    by_cases hlt : k < l.length
    · obtain ⟨ad, x, rfl, hx, hc⟩ := (HR.out.up HB.out).at_ hlt
      have HX := Lib.hid (cntS_next hx s)
      clear hx
      have j0 : (k : Int) < (l.length : Int) := by omega
      by_cases hsx : x = s
      · subst hsx
        go_wp2_with fail
        go_roundw
        case rel => exact ⟨k + 1, m + 1, by omega, by go_num, by go_num, by omega, by rw [HX.out, HC.out, if_pos rfl], HB.out⟩
        case measure => simp [intOf]; omega
      · have q0 := toList_ne hsx
        have HN := Lib.hid hsx
        clear hsx
        go_wp2_with fail
        go_roundw
        case rel => exact ⟨k + 1, m, by omega, by go_num, rfl, by omega, by rw [HX.out, HC.out, if_neg HN.out]; rfl, HB.out⟩
        case measure => simp [intOf]; omega
    · obtain rfl : k = l.length := by omega
      have hcm : cntS l s = m := by have := HC.out; rwa [List.take_length] at this
      by_cases h1 : m = 1
      · subst h1
        have HE := Lib.hid (show b = true by rw [← HBB.out]; exact decide_eq_true hcm)
        clear hcm
        go_wp2_with fail
        go_ret
        exact ⟨by rw [HE.out]; rfl, HB.out⟩
      · have HE := Lib.hid (show b = false by rw [← HBB.out]; exact decide_eq_false (by omega))
        have q0 : ((m : Int) == 1) = false := beq_eq_false_iff_ne.2 (by omega)
        have q1 : (m == 1) = false := beq_eq_false_iff_ne.2 h1
        clear hcm h1
        go_wp2_with fail
        go_ret
        exact ⟨by rw [HE.out]; rfl, HB.out⟩
end
theorem string_info : (Try.prog.info? 9).map (fun i => (i.zero, i.size, i.bytes)) = some (some (.string ⟨#[]⟩), 1, 16) := by kernel_rfl
/-- texts in a row of its own -/
def TextsRet (ts : List ByteArray) (w : World) (e : Ending) (w' : World) : Prop := ∃ v, e = .returned v ∧ w'.ownsRow w.heap.size 9 1 v ts.length (T ts) ∧ Below w.heap.size w w'
def TextsRow (ts : List ByteArray) (w : World) (e : Ending) (w' : World) : Prop := ∃ A c, e = .returned (.slice A ts.length c) ∧ SRow w' A ts ∧ Below w.heap.size w w'
theorem own_srow {base : Nat} {w : World} {v : Value} {l : List ByteArray} (h : w.ownsRow base 9 1 v l.length (T l)) : ∃ A c, v = .slice A l.length c ∧ SRow w A l := by
  rcases h.2 with ⟨rfl, hn⟩ | ⟨g, cap, cur, rfl, _⟩
  · have h0 : l.length = 0 := hn
    have h1 : l = [] := List.eq_nil_of_length_eq_zero h0
    subst h1
    exact ⟨none, 0, rfl, Reads.none_⟩
  · exact ⟨_, cap, rfl, Reads.of_own h⟩
theorem TextsRet.row {ts : List ByteArray} {w w' : World} {e : Ending} (h : TextsRet ts w e w') : TextsRow ts w e w' := by
  obtain ⟨v, rfl, ho, hb⟩ := h
  obtain ⟨A, c, rfl, hr⟩ := own_srow ho
  exact ⟨A, c, rfl, hr, hb⟩
set_option maxRecDepth 100000 in
set_option maxHeartbeats 4000000 in
theorem tuses_any {A : Option Addr} {c : Nat} {l : List Tg} {w : World} (hl : l.length ≤ 1000) (h : TRow w w.heap.size A l) : Calls Try.prog 21 #[.slice A l.length c] w (TextsRet (usesL l) w) := by
  have HR := Lib.hid h
  obtain ⟨i0, hi0, hz0, hz1, hz2⟩ := info_parts string_info
  clear h
  go_enter Try.func21, Try.ntmps21
  go_wp2_with fail
  go_loopw [3, 8] (fun v i wr => ∃ (k : Nat) (o : List ByteArray), k ≤ l.length ∧ i = .int .i64 (k : Int) ∧ usesL (l.take k) = o ∧ o.length ≤ k ∧ wr.ownsRow w.heap.size 9 1 v o.length (T o) ∧ Below w.heap.size w wr) (fun _ i _ => l.length - (intOf i).toNat)
  case atStart => exact ⟨0, [], by omega, rfl, rfl, by simp, World.ownsRow_nil _ _ _ _, Below.refl _ _⟩
  case round =>
    obtain ⟨k, o, hk, rfl, ho, hol, hown, hb⟩ := hrel
    have HB := Lib.hid hb
    have HO := Lib.hid ho
    have HOWN := Lib.hid hown
    clear hb ho hown
    by_cases hlt : k < l.length
    · have j0 : (k : Int) < (l.length : Int) := by omega
      obtain ⟨g, t, rfl, hg, ht, h5⟩ := (HR.out.below HB.out (Nat.le_refl _)).at_ hlt
      have HN := Lib.hid (uses_next ht)
      rw [HO.out] at HN
      obtain ⟨st, ln, on, of, fl⟩ := t
      obtain ⟨c0, c1, c2, c3, c4⟩ := h5
      simp only at c0 c1 c2 c3 c4
      have hon := nil_iff on
      clear ht hg
      cases he : emptyB on with
      | true =>
        rw [he] at hon
        have HS := Lib.hid (stepU_none (o := o) he)
        clear he
        go_wp2_with fail
        go_roundw
        case rel => exact ⟨k + 1, o, by omega, by go_num, by rw [HN.out, HS.out], by omega, HOWN.out.alloc _, HB.out.al _⟩
        case measure => simp [intOf]; omega
      | false =>
        rw [he] at hon
        have HEM := Lib.hid he
        clear he
        have HBA := Lib.hid (HB.out.al (.cells #[.int .i64 st, .int .i64 ln, .string on, .int .i64 of, .bool fl] 44))
        have HOA := Lib.hid (HOWN.out.alloc (.cells #[.int .i64 st, .int .i64 ln, .string on, .int .i64 of, .bool fl] 44))
        obtain ⟨A2, c2', hv, hsr⟩ := own_srow HOA.out
        subst hv
        by_cases hin : on ∈ o
        · have HS := Lib.hid (stepU_in (s := on) hin)
          have HCT := Lib.hid (contains_any (c := c2') (s := on) (show o.length ≤ 1000 by omega) hsr (hasS_iff.2 hin))
          clear hin hsr
          go_wp2_with fail
          refine HCT.out.mono ?_
          rintro e w1 ⟨rfl, hb1⟩
          have HB1 := Lib.hid (HBA.out.next hb1)
          have HO1 := Lib.hid (own_only HOA.out (Only.of_below (fun _ => False) hb1) (fun _ _ h => h))
          clear hb1 HCT
          go_wp2_with fail
          go_roundw
          case rel => exact ⟨k + 1, o, by omega, by go_num, by rw [HN.out, HS.out], by omega, HO1.out, HB1.out⟩
          case measure => simp [intOf]; omega
        · have HS := Lib.hid (stepU_new HEM.out hin)
          have HCT := Lib.hid (contains_any (c := c2') (s := on) (show o.length ≤ 1000 by omega) hsr (hasS_not hin))
          clear hin hsr
          go_wp2_with fail
          refine HCT.out.mono ?_
          rintro e w1 ⟨rfl, hb1⟩
          have HB1 := Lib.hid (HBA.out.next hb1)
          have HO1 := Lib.hid (own_only HOA.out (Only.of_below (fun _ => False) hb1) (fun _ _ h => h))
          have e2 : w1.cell? ⟨wr.heap.size, 2, none⟩ = some (.string on) := (hb1.cell (p := ⟨wr.heap.size, 2, none⟩) (Blk.lt (t := 44) (heap_alloc_new wr _))).trans (by rw [Blk.cell (t := 44) (heap_alloc_new wr _)]; rfl)
          have hzc := HB1.out.size
          clear hb1 HCT
          go_wp2_with (at_builtin; refine wpList_append_own _ rfl _ _ 47 rfl w.heap.size 9 i0 _ 1 16 Try.underlying47 hi0 hz0 hz1 hz2 rfl (by decide) _ _ _ rfl (HO1.out.alloc _) ⟨w1.heap.size, 0, none⟩ 1 1 [.string on] rfl rfl (World.news_of_block (heap_alloc_new w1 _)) (by simp [Value.oneCell']) (by unfold maxLen; omega) (by omega) (by simp; omega) ?_; intro v' w8 hown' hgrow _)
          have HB8 := Lib.hid ((HB1.out.al _).grown hgrow (HB1.out.al _).size (fun g hg => (HO1.out.lt g hg).1))
          have HW := Lib.hid hown'
          clear hown' hgrow
          go_wp2_with fail
          go_roundw
          case rel => exact ⟨k + 1, o ++ [on], by omega, by go_num, by rw [HN.out, HS.out], by rw [List.length_append]; show _ + 1 ≤ _; omega, by rw [List.length_append, T_append]; exact HW.out, HB8.out⟩
          case measure => simp [intOf]; omega
    · obtain rfl : k = l.length := by omega
      have HE := Lib.hid (show usesL l = o by have := HO.out; rwa [List.take_length] at this)
      go_wp2_with fail
      go_ret
      exact ⟨_, rfl, by rw [HE.out]; exact HOWN.out, HB.out⟩
theorem uses_row {A : Option Addr} {c : Nat} {l : List Tg} {w : World} (hl : l.length ≤ 64) (h : TRow w w.heap.size A l) {ts : List ByteArray} (hts : usesL l = ts) : Calls Try.prog 21 #[.slice A l.length c] w (TextsRow ts w) := by
  subst hts
  exact (tuses_any (by omega) h).mono fun _ _ h => h.row
end Go.Proofs.Ytkifopombddcjaa
