/- names.newSet and set.all: the set of bytes of names and tags. -/
import Derived.Test.YtnodlkjajgeepaaDoorRCut
namespace Go.Proofs.YtnodlkjajgeepaaDoor
open Go.RowKit

def orb (x : Int) (c : Nat) : Int := bits .or .u64 x (IntKind.u64.wrap (2 ^ c))
/-- the two words of a set with one byte more -/
def put (q : Int × Int) (c : Nat) : Int × Int := if c < 64 then (orb q.1 c, q.2) else (q.1, orb q.2 (c - 64))
def SetB (w : World) (pv : Nat) (q : Int × Int) : Prop := Blk w pv 55 #[.int .u64 q.1, .int .u64 q.2]
theorem SetB.only {w w' : World} {pv : Nat} {q : Int × Int} {F : Nat → Prop} (h : SetB w pv q) (ho : Only F w w') (hp : ¬ F pv) : SetB w' pv q := Blk.only h ho hp

set_option maxRecDepth 100000 in
set_option maxHeartbeats 4000000 in
theorem put_any (pv c : Nat) (q : Int × Int) (w : World) (hc : c < 128) (hb : SetB w pv q) :
    Calls Tryd.prog 45 #[.int .u8 c, .pointer (some ⟨pv, 0, none⟩)] w (fun e w' => e = .returned (.tuple #[]) ∧ SetB w' pv (put q c) ∧ Only (· = pv) w w') := by
  obtain ⟨x, y⟩ := q
  have c0 : w.cell? ⟨pv, 0, none⟩ = some (.int .u64 x) := by rw [Blk.cell hb]; rfl
  have c1 : w.cell? ⟨pv, 1, none⟩ = some (.int .u64 y) := by rw [Blk.cell hb]; rfl
  have f0 := Blk.frozen hb 0
  have f1 := Blk.frozen hb 1
  have HB := Lib.hid hb
  clear hb
  by_cases hlt : c < 64
  · have i1 : (c : Int) < 64 := by omega
    have i2 : (c : Int) / 64 = 0 := by omega
    have i3 : (c : Int) % 64 = c := by omega
    have HE : Hid (put (x, y) c = (orb x c, y)) := Lib.hid (by unfold put; rw [if_pos hlt])
    go_enter Tryd.func45, Tryd.ntmps45
    go_wp2_with fail
    go_end0
    refine ⟨rfl, ?_, (Only.refl (· = pv) w).setCell (p := ⟨pv, 0, none⟩) (.inl rfl) _⟩
    rw [HE.out]
    exact Blk.set_ HB.out 0 _
  · obtain ⟨d, rfl⟩ : ∃ d, c = d + 64 := ⟨c - 64, by omega⟩
    have i1 : (d : Int) + 64 < 128 := by omega
    have i2 : ((d : Int) + 64) / 64 = 1 := by omega
    have i3 : ((d : Int) + 64) % 64 = d := by omega
    have HE : Hid (put (x, y) (d + 64) = (x, orb y d)) := Lib.hid (by unfold put; rw [if_neg hlt]; simp)
    go_enter Tryd.func45, Tryd.ntmps45
    go_wp2_with fail
    go_end0
    refine ⟨rfl, ?_, (Only.refl (· = pv) w).setCell (p := ⟨pv, 1, none⟩) (.inl rfl) _⟩
    rw [HE.out]
    exact Blk.set_ HB.out 1 _

def l1 : Nat → Int × Int
  | 0 => (0, 0)
  | k + 1 => put (put (l1 k) (97 + k)) (65 + k)
def l2 : Nat → Int × Int
  | 0 => l1 26
  | k + 1 => put (l2 k) (48 + k)
def l3 (m : ByteArray) : Nat → Int × Int
  | 0 => l2 10
  | k + 1 => put (l3 m k) (m.data.toList.getD k 0).toNat
def allLow (m : ByteArray) : Prop := ∀ k, (m.data.toList.getD k 0).toNat < 128

theorem put_int (pv c : Nat) (ci : Int) (hci : ci = (c : Int)) (q : Int × Int) (w : World) (hc : c < 128) (hb : SetB w pv q) :
    Calls Tryd.prog 45 #[.int .u8 ci, .pointer (some ⟨pv, 0, none⟩)] w (fun e w' => e = .returned (.tuple #[]) ∧ SetB w' pv (put q c) ∧ Only (· = pv) w w') := by
  subst hci
  exact put_any pv c q w hc hb

/-- the blocks of newSet side by side: the set, the result -/
structure NS (w wr : World) (q : Int × Int) : Prop where
  set : SetB wr (w.heap.size + 1) q
  res : SetB wr w.heap.size (0, 0)
  bel : Below w.heap.size w wr
theorem NS.put {w wr w' : World} {q q' : Int × Int} (h : NS w wr q) (hs : SetB w' (w.heap.size + 1) q') (ho : Only (· = w.heap.size + 1) wr w') : NS w w' q' :=
  ⟨hs, h.res.only ho (by omega), h.bel.trans (ho.below h.bel.size (fun k e => by omega))⟩
theorem NS.start (w : World) (t1 t2 : Array Value) (h1 : t1 = #[.int .u64 0, .int .u64 0]) (h2 : t2 = #[.int .u64 0, .int .u64 0]) : NS w ((w.alloc (.cells t1 55)).alloc (.cells t2 55)) (0, 0) := by
  subst h1 h2
  refine ⟨?_, ?_, ((Below.refl _ _).al _).al _⟩
  · show ((w.heap.push _).push _)[w.heap.size + 1]? = _
    have := Array.getElem?_push_size (xs := w.heap.push (Obj.cells #[Value.int .u64 0, .int .u64 0] 55)) (x := Obj.cells #[Value.int .u64 0, .int .u64 0] 55)
    rw [Array.size_push] at this
    exact this
  · show ((w.heap.push _).push _)[w.heap.size]? = _
    rw [Array.getElem?_push, if_neg (by simp), Array.getElem?_push_size]

set_option maxRecDepth 100000 in
set_option maxHeartbeats 4000000 in
theorem newSet_any (m : ByteArray) (w : World) (hm : m.size ≤ 100) (hlow : allLow m) :
    Calls Tryd.prog 31 #[.string m] w (Ret (.agg #[.int .u64 (l3 m m.size).1, .int .u64 (l3 m m.size).2]) w) := by
  have HL := Lib.hid hlow
  clear hlow
  go_enter Tryd.func31, Tryd.ntmps31
  go_wp2_with fail
  go_loopw [5] (fun c wr => ∃ k : Nat, k ≤ 26 ∧ c = .int .u8 (97 + k : Int) ∧ NS w wr (l1 k)) (fun c _ => 123 - (intOf c).toNat)
  case atStart => exact ⟨0, by omega, rfl, NS.start w _ _ rfl rfl⟩
  case round =>
    obtain ⟨k, hk, rfl, hs⟩ := hrel
    have HS := Lib.hid hs
    clear hs
    by_cases hlt : k < 26
    · have i0 : 97 + (k : Int) ≤ 122 := by omega
      go_wp2_with fail
      refine (put_int (w.heap.size + 1) (97 + k) _ (by omega) (l1 k) wr (by omega) HS.out.set).mono ?_
      rintro e w1 ⟨rfl, hs1, ho1⟩
      have HS1 := Lib.hid (HS.out.put hs1 ho1)
      clear hs1 ho1
      go_wp2_with fail
      refine (put_int (w.heap.size + 1) (65 + k) _ (by omega) (put (l1 k) (97 + k)) w1 (by omega) HS1.out.set).mono ?_
      rintro e w2 ⟨rfl, hs1, ho1⟩
      have HS2 := Lib.hid (HS1.out.put hs1 ho1)
      clear hs1 ho1
      go_wp2_with fail
      go_roundw
      case rel => exact ⟨k + 1, by omega, by go_num, HS2.out⟩
      case measure => simp [intOf]; omega
    · obtain rfl : k = 26 := by omega
      rw [show ((97 : Int) + ((26 : Nat) : Int)) = 123 from rfl]
      go_wp2_with fail
      go_loopw [6] (fun c wx => ∃ k : Nat, k ≤ 10 ∧ c = .int .u8 (48 + k : Int) ∧ NS w wx (l2 k)) (fun c _ => 58 - (intOf c).toNat)
      case atStart => exact ⟨0, by omega, rfl, HS.out⟩
      case round =>
        clear HS
        rename_i wx
        obtain ⟨k, hk, rfl, hs⟩ := hrel
        have HS := Lib.hid hs
        clear hs
        by_cases hlt : k < 10
        · have i0 : 48 + (k : Int) ≤ 57 := by omega
          go_wp2_with fail
          refine (put_int (w.heap.size + 1) (48 + k) _ (by omega) (l2 k) _ (by omega) HS.out.set).mono ?_
          rintro e w1 ⟨rfl, hs1, ho1⟩
          have HS1 := Lib.hid (HS.out.put hs1 ho1)
          clear hs1 ho1
          go_wp2_with fail
          go_roundw
          case rel => exact ⟨k + 1, by omega, by go_num, HS1.out⟩
          case measure => simp [intOf]; omega
        · obtain rfl : k = 10 := by omega
          rw [show ((48 : Int) + ((10 : Nat) : Int)) = 58 from rfl]
          go_wp2_with fail
          go_loopw [30] (fun c wx => ∃ k : Nat, k ≤ m.size ∧ c = .int .i64 (k : Int) ∧ NS w wx (l3 m k)) (fun c _ => m.size - (intOf c).toNat)
          case atStart => exact ⟨0, by omega, rfl, HS.out⟩
          case round =>
            clear HS
            obtain ⟨k, hk, rfl, hs⟩ := hrel
            have HS := Lib.hid hs
            clear hs
            by_cases hlt : k < m.size
            · have i0 : (k : Int) < (m.size : Int) := by omega
              have hg : m[k].toNat = (m.data.toList.getD k 0).toNat := by
                have hx : k < m.data.toList.length := by rw [Array.length_toList]; exact hlt
                rw [List.getD_eq_getElem?_getD, List.getElem?_eq_getElem hx]
                rfl
              have HG := Lib.hid hg
              clear hg
              go_wp2_with fail
              refine (put_int (w.heap.size + 1) (m.data.toList.getD k 0).toNat _ (by rw [HG.out]) (l3 m k) _ (HL.out k) HS.out.set).mono ?_
              rintro e w1 ⟨rfl, hs1, ho1⟩
              have HS1 := Lib.hid (HS.out.put hs1 ho1)
              clear hs1 ho1
              go_wp2_with fail
              go_roundw
              case rel => exact ⟨k + 1, by omega, by go_num, HS1.out⟩
              case measure => simp [intOf]; omega
            · obtain rfl : k = m.size := by omega
              have c0 : wr.cell? ⟨w.heap.size + 1, 0, none⟩ = some (.int .u64 (l3 m m.size).1) := by rw [Blk.cell HS.out.set]; rfl
              have c1 : wr.cell? ⟨w.heap.size + 1, 1, none⟩ = some (.int .u64 (l3 m m.size).2) := by rw [Blk.cell HS.out.set]; rfl
              have d0 : wr.cell? ⟨w.heap.size, 0, none⟩ = some (.int .u64 0) := by rw [Blk.cell HS.out.res]; rfl
              have d1 : wr.cell? ⟨w.heap.size, 1, none⟩ = some (.int .u64 0) := by rw [Blk.cell HS.out.res]; rfl
              have f0 := Blk.frozen HS.out.res 0
              have f1 := Blk.frozen HS.out.res 1
              generalize (l3 m m.size).1 = x at c0
              generalize (l3 m m.size).2 = y at c1
              go_wp2_with fail
              refine bodyPost_ret (results_cell_row rfl _ _ w.heap.size 55 #[.int .u64 x, .int .u64 y] (0, 0) _ rfl ?_ Tryd.underlying55 rfl (by kernel_rfl)) rfl ?_
              · exact Blk.set_ (Blk.set_ HS.out.res 0 (.int .u64 x)) 1 (.int .u64 y)
              · refine ⟨?_, HS.out.bel.trans (((Only.refl (· = w.heap.size) wr).setCell (p := ⟨w.heap.size, 0, none⟩) (.inl rfl) _).setCell (p := ⟨w.heap.size, 1, none⟩) (.inl rfl) _ |>.below HS.out.bel.size (fun k e => by omega))⟩
                have e0 := Blk.cell HS.out.set 0
                have e1 := Blk.cell HS.out.set 1
                rw [c0] at e0
                rw [c1] at e1
                simp at e0 e1
                rw [e0, e1]

def mName : ByteArray := ⟨#[95, 46, 43, 45]⟩
def mTag : ByteArray := ⟨#[95, 46, 43, 45, 47, 61, 58]⟩
/-- the byte is a letter, a digit or one of more -/
def okC (more : List UInt8) (c : UInt8) : Bool := ((97 ≤ c && c ≤ 122) || (65 ≤ c && c ≤ 90) || (48 ≤ c && c ≤ 57)) || more.contains c
def bitC (x y : Int) (c : Nat) : Bool := !(c ≥ 128 || bits .and .u64 ((if c < 64 then x else y) / 2 ^ (c % 64)) 1 == 0)
theorem nameQ : l3 mName mName.size = (288063250384289792, 576460745995190270) := by decide +kernel
theorem tagQ : l3 mTag mTag.size = (2882277373238050816, 576460745995190270) := by decide +kernel

def setAll (x y : Int) (s : ByteArray) : Bool := s.data.toList.all fun c => bitC x y c.toNat
theorem byte_at (s : ByteArray) (k : Nat) (h : k < s.size) : s.data.toList[k]? = some s[k] := by
  have hx : k < s.data.toList.length := by rw [Array.length_toList]; exact h
  rw [List.getElem?_eq_getElem hx]
  rfl
theorem all_miss {l : List UInt8} {k : Nat} {c : UInt8} {f : UInt8 → Bool} (h : l[k]? = some c) (hf : f c = false) : l.all f = false := by
  rw [List.all_eq_false]
  exact ⟨c, List.mem_of_getElem? h, by rw [hf]; exact Bool.false_ne_true⟩
theorem all_more {l : List UInt8} {k : Nat} {c : UInt8} {f : UInt8 → Bool} (h : l[k]? = some c) (hf : f c = true) (ht : (l.take k).all f = true) : (l.take (k + 1)).all f = true := by
  rw [List.take_add_one, h, List.all_append, ht]
  simp [hf]

theorem bitC_lo {x y : Int} {n : Nat} (h : n < 64) : bitC x y n = !(bits .and .u64 (x / 2 ^ n) 1 == 0) := by
  unfold bitC
  rw [if_pos h, Nat.mod_eq_of_lt h]
  simp [show ¬ 128 ≤ n by omega]
theorem bitC_hi {x y : Int} {d : Nat} (h : d < 64) : bitC x y (d + 64) = !(bits .and .u64 (y / 2 ^ d) 1 == 0) := by
  unfold bitC
  rw [if_neg (by omega), Nat.add_mod_right, Nat.mod_eq_of_lt h]
  simp [show ¬ 128 ≤ d + 64 by omega]

set_option maxRecDepth 100000 in
set_option maxHeartbeats 4000000 in
theorem all_any (x y : Int) (s : ByteArray) (w : World) (hsz : s.size ≤ 100000) :
    Calls Tryd.prog 32 #[.agg #[.int .u64 x, .int .u64 y], .string s] w (Ret (.bool (setAll x y s)) w) := by
  go_enter Tryd.func32, Tryd.ntmps32
  go_wp2_with fail
  go_loopw [9] (fun i wr => ∃ k : Nat, k ≤ s.size ∧ i = .int .i64 (k : Int) ∧ ((s.data.toList.take k).all fun c => bitC x y c.toNat) = true ∧ SetB wr w.heap.size (x, y) ∧ Below w.heap.size w wr) (fun c _ => s.size - (intOf c).toNat)
  case atStart => exact ⟨0, by omega, rfl, rfl, Array.getElem?_push_size, (Below.refl _ _).al _⟩
  case round =>
    obtain ⟨k, hk, rfl, ht, hs, hb⟩ := hrel
    have HS := Lib.hid hs
    have HB := Lib.hid hb
    have HT := Lib.hid ht
    clear hs hb ht
    by_cases hlt : k < s.size
    · have i0 : (k : Int) < (s.size : Int) := by omega
      have c0 : wr.cell? ⟨w.heap.size, 0, none⟩ = some (.int .u64 x) := by rw [Blk.cell HS.out]; rfl
      have c1 : wr.cell? ⟨w.heap.size, 1, none⟩ = some (.int .u64 y) := by rw [Blk.cell HS.out]; rfl
      have HX := Lib.hid (byte_at s k hlt)
      generalize hc : s[k].toNat = n
      by_cases h1 : 128 ≤ n
      · have i1 : 128 ≤ (n : Int) := by omega
        have HF := Lib.hid (show setAll x y s = false from all_miss HX.out (by rw [hc]; unfold bitC; simp [h1]))
        go_wp2_with fail
        go_ret
        exact ⟨by rw [HF.out]; rfl, HB.out⟩
      · by_cases h2 : n < 64
        · have i4 : n / 64 = 0 := by omega
          have i3 : (n : Int) % 64 = n := by omega
          have i2 : (n : Int) / 64 = 0 := by omega
          have i5 : (n : Int) < 128 := by omega
          have HQ := Lib.hid (bitC_lo (x := x) (y := y) h2)
          clear h1 h2
          go_wp2_with fail
          · rename_i hh
            have hf : (bits .and .u64 (x / 2 ^ n) 1 == 0) = true := hh.resolve_left (by omega)
            have HF := Lib.hid (show setAll x y s = false from all_miss HX.out (by rw [hc, HQ.out, hf]; rfl))
            go_ret
            exact ⟨by rw [HF.out]; rfl, HB.out⟩
          · rename_i hh
            exact ⟨⟨k + 1, by omega, by go_num, all_more HX.out (by rw [hc, HQ.out, hh.2]; rfl) HT.out, HS.out, HB.out⟩, by simp [intOf]; omega⟩
        · obtain ⟨d, rfl⟩ : ∃ d, n = d + 64 := ⟨n - 64, by omega⟩
          have i4 : (d + 64) / 64 = 1 := by omega
          have i3 : ((d : Int) + 64) % 64 = d := by omega
          have i2 : ((d : Int) + 64) / 64 = 1 := by omega
          have i5 : (d : Int) + 64 < 128 := by omega
          have HQ := Lib.hid (bitC_hi (x := x) (y := y) (show d < 64 by omega))
          clear h1 h2
          go_wp2_with fail
          · rename_i hh
            have hf : (bits .and .u64 (y / 2 ^ d) 1 == 0) = true := hh.resolve_left (by omega)
            have HF := Lib.hid (show setAll x y s = false from all_miss HX.out (by rw [hc, HQ.out, hf]; rfl))
            go_ret
            exact ⟨by rw [HF.out]; rfl, HB.out⟩
          · rename_i hh
            exact ⟨⟨k + 1, by omega, by go_num, all_more HX.out (by rw [hc, HQ.out, hh.2]; rfl) HT.out, HS.out, HB.out⟩, by simp [intOf]; omega⟩
    · obtain rfl : k = s.size := by omega
      go_wp2_with fail
      go_ret
      exact ⟨by rw [show setAll x y s = true by unfold setAll; rw [← HT.out, List.take_of_length_le (by rw [Array.length_toList]; exact Nat.le_refl _)]]; rfl, HB.out⟩
end Go.Proofs.YtnodlkjajgeepaaDoor
