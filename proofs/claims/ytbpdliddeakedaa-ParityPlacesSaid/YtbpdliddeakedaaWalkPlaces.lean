/- The walk of ParityPlaces. -/
import Derived.Test.YtbpdliddeakedaaSize
import Derived.Test.YtbpdliddeakedaaAwake
namespace Go.Proofs.Ytbpdliddeakedaa
open Go.ChangeShapes Go.WideShapes Go.ChangeAt Go.RowKit

theorem placeV_form (a b c : Int) : ∃ x y z e : Int, placeV a b c = .tuple #[.int .i64 x, .int .i64 y, .int .i64 z, .int .i64 e] := by
  unfold placeV; split
  · exact ⟨_, _, _, _, rfl⟩
  · exact ⟨_, _, _, _, rfl⟩
theorem backV_form (a b c d : Int) : ∃ (x : Int) (y : Bool) (e : Int), backV a b c d = .tuple #[.int .i64 x, .bool y, .int .i64 e] := by
  unfold backV; split
  · split
    · exact ⟨_, _, _, rfl⟩
    · exact ⟨_, _, _, rfl⟩
  · exact ⟨_, _, _, rfl⟩
theorem sizeV_form (a : Int) (l : List Int) : ∃ x e : Int, sizeV a l = .tuple #[.int .i64 x, .int .i64 e] := by
  unfold sizeV; split
  · exact ⟨_, _, rfl⟩
  · exact ⟨_, _, rfl⟩

/-- four cells that follow one another -/
structure T4 (w : World) (g o : Nat) (a b c d : Int) : Prop where
  lt : g < w.heap.size
  c0 : w.cell? ⟨g, o, none⟩ = some (.int .i64 a)
  c1 : w.cell? ⟨g, o + 1, none⟩ = some (.int .i64 b)
  c2 : w.cell? ⟨g, o + 2, none⟩ = some (.int .i64 c)
  c3 : w.cell? ⟨g, o + 3, none⟩ = some (.int .i64 d)
theorem T4.below {w w' : World} {g o : Nat} {a b c d : Int} (h : T4 w g o a b c d) (hb : Below w.heap.size w w') : T4 w' g o a b c d :=
  ⟨Nat.lt_of_lt_of_le h.lt hb.size, (hb.cell (p := ⟨g, o, none⟩) h.lt).trans h.c0, (hb.cell (p := ⟨g, o + 1, none⟩) h.lt).trans h.c1, (hb.cell (p := ⟨g, o + 2, none⟩) h.lt).trans h.c2, (hb.cell (p := ⟨g, o + 3, none⟩) h.lt).trans h.c3⟩

set_option maxRecDepth 100000 in
set_option maxHeartbeats 2000000 in
theorem places_walk (x y z v : Int) (A : Option Addr) (n c : Nat) (l : List Int) (w : World) (hc : n ≤ c) (hn : c ≤ maxLen) (h : Reads w w.heap.size 1 A n (I l)) :
    Calls Try.prog 6 #[.int .i64 x, .int .i64 y, .int .i64 z, .int .i64 v, .slice A n c] w (Ret (.bool true) w) := by
  have hn' := hn
  unfold maxLen at hn'
  have H := Lib.hid h
  clear h
  by_cases h10 : 10 < n
  · go_enter Try.func6, Try.ntmps6
    go_wp2_with fail
    refine (awake_any _).mono ?_
    rintro e w1 ⟨rfl, hb1⟩
    go_wp2_with fail
    go_ret
    exact ⟨rfl, hb1⟩
  · go_enter Try.func6, Try.ntmps6
    go_wp2_with fail
    have hlt0 : w.heap.size < (w.alloc (Obj.cells #[.int .i64 x, .int .i64 y, .int .i64 z, .int .i64 v, .int .i64 (wrap64 (1 + bits .and .i64 x 7)), .int .i64 (wrap64 (2 + bits .and .i64 y 7)), .int .i64 (bits .and .i64 z 1023), .int .i64 (bits .and .i64 v 7)] 39)).heap.size := by simp
    have t1 : T4 (w.alloc (Obj.cells #[.int .i64 x, .int .i64 y, .int .i64 z, .int .i64 v, .int .i64 (wrap64 (1 + bits .and .i64 x 7)), .int .i64 (wrap64 (2 + bits .and .i64 y 7)), .int .i64 (bits .and .i64 z 1023), .int .i64 (bits .and .i64 v 7)] 39)) w.heap.size 0 x y z v :=
      ⟨hlt0, by simp [World.cell?_alloc_new], by simp [World.cell?_alloc_new], by simp [World.cell?_alloc_new], by simp [World.cell?_alloc_new]⟩
    have t2 : T4 (w.alloc (Obj.cells #[.int .i64 x, .int .i64 y, .int .i64 z, .int .i64 v, .int .i64 (wrap64 (1 + bits .and .i64 x 7)), .int .i64 (wrap64 (2 + bits .and .i64 y 7)), .int .i64 (bits .and .i64 z 1023), .int .i64 (bits .and .i64 v 7)] 39)) w.heap.size 4 (wrap64 (1 + bits .and .i64 x 7)) (wrap64 (2 + bits .and .i64 y 7)) (bits .and .i64 z 1023) (bits .and .i64 v 7) :=
      ⟨hlt0, by simp [World.cell?_alloc_new], by simp [World.cell?_alloc_new], by simp [World.cell?_alloc_new], by simp [World.cell?_alloc_new]⟩
    have hb0 : Below w.heap.size w (w.alloc (Obj.cells #[.int .i64 x, .int .i64 y, .int .i64 z, .int .i64 v, .int .i64 (wrap64 (1 + bits .and .i64 x 7)), .int .i64 (wrap64 (2 + bits .and .i64 y 7)), .int .i64 (bits .and .i64 z 1023), .int .i64 (bits .and .i64 v 7)] 39)) := (Below.refl _ _).al _
    generalize w.alloc (Obj.cells #[.int .i64 x, .int .i64 y, .int .i64 z, .int .i64 v, .int .i64 (wrap64 (1 + bits .and .i64 x 7)), .int .i64 (wrap64 (2 + bits .and .i64 y 7)), .int .i64 (bits .and .i64 z 1023), .int .i64 (bits .and .i64 v 7)] 39) = wa at t1 t2 hb0 hlt0
    obtain ⟨b0, hb0'⟩ : ∃ b, b = wrap64 (1 + bits .and .i64 x 7) := ⟨_, rfl⟩
    obtain ⟨b1, hb1'⟩ : ∃ b, b = wrap64 (2 + bits .and .i64 y 7) := ⟨_, rfl⟩
    rw [← hb0', ← hb1'] at t2
    have T1 := Lib.hid t1
    have T2 := Lib.hid t2
    clear t1 t2 hb0' hb1'
    go_loopw [12] (fun i wr => ∃ k : Nat, k ≤ 2 ∧ i = .int .i64 k ∧ Below wa.heap.size wa wr) (fun i _ => 2 - (intOf i).toNat)
    case atStart => exact ⟨0, by omega, rfl, Below.refl _ _⟩
    case round =>
      obtain ⟨k, hk, rfl, hbr⟩ := hrel
      by_cases hlt : k < 2
      · have hT : ∃ a b c d : Int, T4 wr w.heap.size (4 * k) a b c d := by
          obtain rfl | rfl : k = 0 ∨ k = 1 := by omega
          · exact ⟨_, _, _, _, T1.out.below hbr⟩
          · exact ⟨_, _, _, _, T2.out.below hbr⟩
        obtain ⟨a, b, cc, d, hT⟩ := hT
        have hlw := hT.lt
        have r0 := hb0.next hbr
        obtain ⟨p1, p2, p3, p4, hpl⟩ := placeV_form a b cc
        obtain ⟨q1, q2, q3, hba⟩ := backV_form a b d cc
        obtain ⟨s1, s2, hsz⟩ := sizeV_form a l
        have cpl := fun W => place_any a b cc W
        have cpr := fun W => place_ref a b cc W
        have cba := fun W => back_any a b d cc W
        have cbr := fun W => back_ref a b d cc W
        have csa := fun W h => size_any a A n c l W (by omega) h
        have csr := fun W h => size_ref a A n c l W (by omega) h
        rw [hpl] at cpl cpr
        rw [hba] at cba cbr
        rw [hsz] at csa csr
        have CPL := Lib.hid cpl
        have CPR := Lib.hid cpr
        have CBA := Lib.hid cba
        have CBR := Lib.hid cbr
        have CSA := Lib.hid csa
        have CSR := Lib.hid csr
        clear cpl cpr cba cbr csa csr hpl hba hsz
        have hR := H.out.below r0
        have HRR := Lib.hid hR
        clear hR
        have c0 := hT.c0
        have c1 := hT.c1
        have c2 := hT.c2
        have c3 := hT.c3
        clear hT
        obtain rfl | rfl : k = 0 ∨ k = 1 := by omega
        all_goals
          simp only [Nat.mul_zero, Nat.mul_one, Nat.zero_add, Nat.reduceAdd, Int.natCast_zero, Int.natCast_one] at c0 c1 c2 c3 ⊢
          go_wp2_with fail
          have u0 : T4 (wr.alloc (Obj.cells #[.int .i64 a, .int .i64 b, .int .i64 cc, .int .i64 d] 39)) wr.heap.size 0 a b cc d :=
            ⟨by simp, by simp [World.cell?_alloc_new], by simp [World.cell?_alloc_new], by simp [World.cell?_alloc_new], by simp [World.cell?_alloc_new]⟩
          have m0 := r0.al (Obj.cells #[.int .i64 a, .int .i64 b, .int .i64 cc, .int .i64 d] 39)
          have U0 := Lib.hid u0
          clear u0 c0 c1 c2 c3
          refine (CPL.out _).mono ?_
          rintro e w1 ⟨rfl, k1⟩
          have m1 := m0.next k1
          have U1 := Lib.hid (U0.out.below k1)
          have e0 := U1.out.c0
          have e1 := U1.out.c1
          have e2 := U1.out.c2
          have e3 := U1.out.c3
          simp only [Nat.zero_add] at e0 e1 e2 e3
          go_wp2_with fail
          clear e0 e1 e2 e3
          refine (CPR.out _).mono ?_
          rintro e w2 ⟨rfl, k2⟩
          have m2 := m1.next k2
          have U2 := Lib.hid (U1.out.below k2)
          have e0 := U2.out.c0
          have e1 := U2.out.c1
          have e2 := U2.out.c2
          have e3 := U2.out.c3
          simp only [Nat.zero_add] at e0 e1 e2 e3
          go_wp2_with fail
          clear e0 e1 e2 e3
          refine (CBA.out _).mono ?_
          rintro e w3 ⟨rfl, k3⟩
          have m3 := m2.next k3
          have U3 := Lib.hid (U2.out.below k3)
          have e0 := U3.out.c0
          have e1 := U3.out.c1
          have e2 := U3.out.c2
          have e3 := U3.out.c3
          simp only [Nat.zero_add] at e0 e1 e2 e3
          go_wp2_with fail
          clear e0 e1 e2 e3
          refine (CBR.out _).mono ?_
          rintro e w4 ⟨rfl, k4⟩
          have m4 := m3.next k4
          have U4 := Lib.hid (U3.out.below k4)
          have e0 := U4.out.c0
          have e1 := U4.out.c1
          have e2 := U4.out.c2
          have e3 := U4.out.c3
          simp only [Nat.zero_add] at e0 e1 e2 e3
          go_wp2_with fail
          clear e0 e1 e2 e3
          refine (CSA.out _ ((H.out.below m4).more m4.size)).mono ?_
          rintro e w5 ⟨rfl, k5⟩
          have m5 := m4.next k5
          have U5 := Lib.hid (U4.out.below k5)
          have e0 := U5.out.c0
          have e1 := U5.out.c1
          have e2 := U5.out.c2
          have e3 := U5.out.c3
          simp only [Nat.zero_add] at e0 e1 e2 e3
          go_wp2_with fail
          clear e0 e1 e2 e3
          refine (CSR.out _ ((H.out.below m5).more m5.size)).mono ?_
          rintro e w6 ⟨rfl, k6⟩
          have m6 := m5.next k6
          have U6 := Lib.hid (U5.out.below k6)
          have e0 := U6.out.c0
          have e1 := U6.out.c1
          have e2 := U6.out.c2
          have e3 := U6.out.c3
          simp only [Nat.zero_add] at e0 e1 e2 e3
          go_wp2_with fail
          clear e0 e1 e2 e3
          go_roundw
          case rel => first | exact ⟨1, by omega, rfl, hbr.next (((Below.refl _ _).al _).next (((((k1.next k2).next k3).next k4).next k5).next k6))⟩ | exact ⟨2, by omega, rfl, hbr.next (((Below.refl _ _).al _).next (((((k1.next k2).next k3).next k4).next k5).next k6))⟩
          case measure => simp [intOf]
      · go_wp2_with fail
        refine (awake_any _).mono ?_
        rintro e w5 ⟨rfl, hb5⟩
        go_wp2_with fail
        go_ret
        exact ⟨rfl, (hb0.next hbr).next hb5⟩
end Go.Proofs.Ytbpdliddeakedaa
