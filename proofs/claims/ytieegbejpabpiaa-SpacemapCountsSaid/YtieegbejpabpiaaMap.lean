/- A space map of the program in memory, and what its methods return. -/
import Derived.Test.YtieegbejpabpiaaSrc
namespace Go.Proofs.Ytieegbejpabpiaa
open Go.RowKit

theorem int_info : (Try.prog.info? 3).map (fun i => (i.zero, i.size, i.bytes)) = some (some (.int .i64 0), 1, 8) := by kernel_rfl

/-- the slice of a row -/
abbrev sl (g n c : Nat) : Value := .slice (some ⟨g, 0, none⟩) n c

/-- a row of numbers of the call's own -/
def Row (base : Nat) (w : World) (g c : Nat) (l : List Int) : Prop := w.ownsRow base 3 1 (sl g l.length c) l.length (I l)
section
variable {base : Nat} {w w' : World} {g c : Nat} {l : List Int} {F : Nat → Prop}
theorem Row.cell (h : Row base w g c l) {j : Nat} (hj : j < l.length) : w.cell? ⟨g, j, none⟩ = some (.int .i64 (l.getD j 0)) := by
  rw [World.ownsRow.cellAt h j (by omega), I_at l j hj]
theorem Row.frozen (h : Row base w g c l) (j : Nat) : w.frozen? ⟨g, j, none⟩ = false := World.ownsRow.frozenAt h j
theorem Row.lt (h : Row base w g c l) : base ≤ g ∧ g < w.heap.size := World.ownsRow.lt h g rfl
theorem Row.only (h : Row base w g c l) (ho : Only F w w') (hg : ¬ F g) : Row base w' g c l := own_only h ho (fun k hk => by simp [Value.ownBlock] at hk; subst hk; exact hg)
theorem Row.below (h : Row base w g c l) (hb : Below w.heap.size w w') : Row base w' g c l := h.only (Only.of_below (fun _ => False) hb) (fun h => h)
theorem Row.put (h : Row base w g c l) (j : Nat) (z : Int) : Row base (w.setCell ⟨g, j, none⟩ (.int .i64 z)) g c (l.set j z) := by
  have := (World.ownsRow.stored h j (.int .i64 z)).1
  rw [I_set] at this
  unfold Row
  rw [List.length_set]
  exact this
theorem Row.reads (h : Row base w g c l) : Reads w w.heap.size 1 (some ⟨g, 0, none⟩) l.length (I l) := Reads.of_own h
theorem Row.ne_blk (h : Row base w g c l) {b : Nat} {t : TypeId} {cs : Array Value} (hb : Blk w b t cs) (ht : 3 ≠ t) : g ≠ b := by
  have := own_blk_ne h hb ht
  simpa [Value.ownBlock] using this
end

/-- blocks of a map -/
def FM (bm gn gw k : Nat) : Prop := k = bm ∨ k = gn ∨ k = gw

/-- no block below lo is free -/
def LowOk (N O : List Int) (lo : Nat) : Prop := ∀ b, b < lo → N.getD b 0 ≠ 0 ∨ O.getD b 0 ≠ 0

/-- the program's map: present counts N, committed counts O, the field low -/
structure MS (base : Nat) (w : World) (bm gn cn gw cw : Nat) (N O : List Int) (lo : Nat) : Prop where
  blk : Blk w bm 52 #[sl gn N.length cn, sl gw N.length cw, .int .i64 lo]
  len : O.length = N.length
  pos : 1 ≤ N.length
  small : N.length ≤ 16384
  now : Row base w gn cn N
  was : Row base w gw cw O
  ne : gn ≠ gw
  bb : base ≤ bm
  lon : lo ≤ N.length
  rng : ∀ z ∈ N, 0 ≤ z ∧ z ≤ 65535
  rngO : ∀ z ∈ O, 0 ≤ z ∧ z ≤ 65535

section
variable {base : Nat} {w w' : World} {bm gn cn gw cw lo : Nat} {N O : List Int} {F : Nat → Prop}
theorem MS.only (h : MS base w bm gn cn gw cw N O lo) (ho : Only F w w') (h1 : ¬ F bm) (h2 : ¬ F gn) (h3 : ¬ F gw) : MS base w' bm gn cn gw cw N O lo :=
  ⟨h.blk.only ho h1, h.len, h.pos, h.small, h.now.only ho h2, h.was.only ho h3, h.ne, h.bb, h.lon, h.rng, h.rngO⟩
theorem MS.below (h : MS base w bm gn cn gw cw N O lo) (hb : Below w.heap.size w w') : MS base w' bm gn cn gw cw N O lo := h.only (Only.of_below (fun _ => False) hb) (fun h => h) (fun h => h) (fun h => h)
theorem MS.drewN (h : MS base w bm gn cn gw cw N O lo) (n : Nat) : MS base (w.drewN n) bm gn cn gw cw N O lo := h.below (below_drewN (Below.refl _ _) n)
theorem MS.c0 (h : MS base w bm gn cn gw cw N O lo) : w.cell? ⟨bm, 0, none⟩ = some (sl gn N.length cn) := by rw [h.blk.cell]; rfl
theorem MS.c1 (h : MS base w bm gn cn gw cw N O lo) : w.cell? ⟨bm, 1, none⟩ = some (sl gw N.length cw) := by rw [h.blk.cell]; rfl
theorem MS.c2 (h : MS base w bm gn cn gw cw N O lo) : w.cell? ⟨bm, 2, none⟩ = some (.int .i64 lo) := by rw [h.blk.cell]; rfl
theorem MS.bn (h : MS base w bm gn cn gw cw N O lo) : bm ≠ gn ∧ bm ≠ gw := ⟨(h.now.ne_blk h.blk (by decide)).symm, (h.was.ne_blk h.blk (by decide)).symm⟩
end

def hasB (N : List Int) (b : Int) : Bool := decide (0 ≤ b) && decide (b < N.length)

set_option maxHeartbeats 400000 in
theorem has_any {base : Nat} {w : World} {bm gn cn gw cw lo : Nat} {N O : List Int} (h : MS base w bm gn cn gw cw N O lo) (b : Int) :
    Calls Try.prog 42 #[.pointer (some ⟨bm, 0, none⟩), .int .i64 b] w fun e w' => e = .returned (.bool (hasB N b)) ∧ w = w' := by
  have c0 := h.c0
  have hs := h.small
  clear h
  by_cases h0 : 0 ≤ b
  · have HH := Lib.hid (show hasB N b = decide (b < (N.length : Int)) by simp [hasB, h0])
    go_enter Try.func42, Try.ntmps42
    go_wp2_with fail
    go_ret
    exact ⟨by rw [HH.out]; rfl, rfl⟩
  · have HH := Lib.hid (show hasB N b = false by simp [hasB, h0])
    go_enter Try.func42, Try.ntmps42
    go_wp2_with fail
    go_ret
    exact ⟨by rw [HH.out]; rfl, rfl⟩

def freeB (N O : List Int) (b : Nat) : Bool := (N.getD b 0 == 0) && (O.getD b 0 == 0)

set_option maxHeartbeats 400000 in
theorem free1_any {base : Nat} {w : World} {bm gn cn gw cw lo : Nat} {N O : List Int} (h : MS base w bm gn cn gw cw N O lo) (b : Nat) (hb : b < N.length) :
    Calls Try.prog 41 #[.pointer (some ⟨bm, 0, none⟩), .int .i64 b] w fun e w' => e = .returned (.bool (freeB N O b)) ∧ w = w' := by
  have c0 := h.c0
  have c1 := h.c1
  have hs := h.small
  have d0 := h.now.cell hb
  have d1 := h.was.cell (j := b) (by rw [h.len]; exact hb)
  have i1 : (b : Int) < (N.length : Int) := by omega
  have HH := Lib.hid (show freeB N O b = ((N.getD b 0 == 0) && (O.getD b 0 == 0)) from rfl)
  clear h
  generalize N.getD b 0 = x at d0 HH
  generalize O.getD b 0 = y at d1 HH
  by_cases hx : x = 0
  · have hx' : (x == 0) = true := by simp [hx]
    rw [hx'] at HH
    clear hx
    go_enter Try.func41, Try.ntmps41
    go_wp2_with fail
    go_ret
    exact ⟨by rw [HH.out]; rfl, rfl⟩
  · have hx' : (x == 0) = false := by simp [hx]
    rw [hx'] at HH
    clear hx
    go_enter Try.func41, Try.ntmps41
    go_wp2_with fail
    go_ret
    exact ⟨by rw [HH.out]; rfl, rfl⟩
end Go.Proofs.Ytieegbejpabpiaa
