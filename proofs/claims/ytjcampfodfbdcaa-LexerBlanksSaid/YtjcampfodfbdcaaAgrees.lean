/- agrees: the tokens of a text agree with the reference. -/
import Derived.Test.YtjcampfodfbdcaaTkRow
namespace Go.Proofs.Ytjcampfodfbdcaa
open Go.RowKit

set_option maxRecDepth 100000 in
set_option maxHeartbeats 8000000 in
theorem agrees_any (s : ByteArray) (w : World) : Calls Try.prog 10 #[.string s] w (Ret (.bool true) w) := by
  obtain ⟨l, li, co, er, hr⟩ : ∃ l li co er, lexR s.data.toList = ⟨l, li, co, er⟩ := ⟨_, _, _, _, rfl⟩
  have hll : l.length ≤ 1000000 := by
    have := lexR_len s.data.toList
    rw [hr] at this
    exact this
  have HR := Lib.hid hr
  clear hr
  go_enter Try.func10, Try.ntmps10
  go_wp2_with fail
  refine (tokens_row s w HR.out).mono ?_
  rintro e w1 ⟨A1, c1, rfl, hk, hb⟩
  have HB1 := Lib.hid (hb.al (.cells #[.int .i64 (li : Int), .int .i64 (co : Int)] 34))
  have HK1 := Lib.hid (hk.up ((Below.refl _ _).al (.cells #[.int .i64 (li : Int), .int .i64 (co : Int)] 34)))
  have HP1 := Lib.hid (Blk.new w1 34 #[.int .i64 (li : Int), .int .i64 (co : Int)])
  clear hb hk
  go_wp2_with fail
  refine (rtokens_row s _ HR.out).mono ?_
  rintro e w2 ⟨A2, c2, rfl, hk, hb⟩
  have hlt := HP1.out.lt
  have HPA := Lib.hid ((HP1.out.below hb (by exact hlt)).alloc (.cells #[.int .i64 (li : Int), .int .i64 (co : Int)] 34))
  have HB2 := Lib.hid ((HB1.out.next hb).al (.cells #[.int .i64 (li : Int), .int .i64 (co : Int)] 34))
  have HK2 := Lib.hid (hk.up ((Below.refl _ _).al (.cells #[.int .i64 (li : Int), .int .i64 (co : Int)] 34)))
  have HK3 := Lib.hid ((HK1.out.up hb).up ((Below.refl _ _).al (.cells #[.int .i64 (li : Int), .int .i64 (co : Int)] 34)))
  have HP2 := Lib.hid (Blk.new w2 34 #[.int .i64 (li : Int), .int .i64 (co : Int)])
  have p0 : (w2.alloc (.cells #[.int .i64 (li : Int), .int .i64 (co : Int)] 34)).cell? ⟨w1.heap.size, 0, none⟩ = some (.int .i64 (li : Int)) := by rw [HPA.out.cell]; rfl
  have p1 : (w2.alloc (.cells #[.int .i64 (li : Int), .int .i64 (co : Int)] 34)).cell? ⟨w1.heap.size, 1, none⟩ = some (.int .i64 (co : Int)) := by rw [HPA.out.cell]; rfl
  clear hb hk HK1 HB1 hlt
  go_wp2_with fail
  clear p0 p1 HP1 HP2 HPA
  generalize w2.alloc (.cells #[.int .i64 (li : Int), .int .i64 (co : Int)] 34) = w3 at *
  change Code.wp _ _ _ { tmps := _, defers := [] } _
  go_loopw [9] (fun i wr => ∃ k : Nat, k ≤ l.length ∧ i = .int .i64 (k : Int) ∧ Below w3.heap.size w3 wr) (fun i _ => l.length - (intOf i).toNat)
  case atStart => exact ⟨0, by omega, rfl, Below.refl _ _⟩
  case round =>
    obtain ⟨k, hk, rfl, hb⟩ := hrel
    have HB := Lib.hid hb
    clear hb
    by_cases hlt : k < l.length
    · have j0 : (k : Int) < (l.length : Int) := by omega
      obtain ⟨g, t, rfl, hg, ht, h5⟩ := (HK3.out.below HB.out (Nat.le_refl _)).at_ hlt
      obtain ⟨g2, t2, rfl, hg2, ht2, h6⟩ := (HK2.out.below HB.out (Nat.le_refl _)).at_ hlt
      obtain rfl : t = t2 := Option.some.inj (ht.symm.trans ht2)
      obtain ⟨a0, a1, a2, a3, a4⟩ := h5
      obtain ⟨b0, b1, b2, b3, b4⟩ := h6
      clear ht ht2 hg hg2
      go_wp2_with fail
      go_quiet (fail)
      have HBQ := Lib.hid (below_drewN HB.out nq)
      go_wp2_with fail
      exact ⟨⟨k + 1, by omega, by go_num, HBQ.out⟩, by simp [intOf]; omega⟩
    · obtain rfl : k = l.length := by omega
      go_wp2_with fail
      go_ret
      exact ⟨rfl, HB2.out.next HB.out⟩
end Go.Proofs.Ytjcampfodfbdcaa
