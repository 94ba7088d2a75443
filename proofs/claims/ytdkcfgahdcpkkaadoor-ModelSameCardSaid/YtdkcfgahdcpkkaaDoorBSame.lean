/- model.Same (printed by genSame.py). -/
import Derived.Test.YtdkcfgahdcpkkaaDoorBTwice
import Derived.Deep.QuietTactic
import Derived.BigQuiet
set_option linter.all false
set_option linter.unusedVariables false
set_option linter.unusedSimpArgs false
namespace Go.Proofs.YtdkcfgahdcpkkaaDoor
open Go.RowKit
set_option maxRecDepth 100000
theorem take_eq_next {α : Type} {l m : List α} {k : Nat} {x : α} (h : l.take k = m.take k) (hl : l[k]? = some x) (hm : m[k]? = some x) : l.take (k + 1) = m.take (k + 1) := by
 obtain ⟨h1, e1⟩ := List.getElem?_eq_some_iff.1 hl
 obtain ⟨h2, e2⟩ := List.getElem?_eq_some_iff.1 hm
 rw [List.take_succ_eq_append_getElem h1, List.take_succ_eq_append_getElem h2, h, e1, e2]
theorem bool_false {b : Bool} {p : Prop} (h : b = true ↔ p) (hn : ¬ p) : b = false := by
 cases b with
 | false => rfl
 | true => exact absurd (h.1 rfl) hn
theorem eleven {W : World} {g : Nat} {T : TypeId} {v0 v1 v2 v3 v4 v5 v6 v7 v8 v9 v10 : Value} (h : Blk W g T #[v0, v1, v2, v3, v4, v5, v6, v7, v8, v9, v10]) : W.cell? ⟨g, 0, none⟩ = some v0 ∧ W.cell? ⟨g, 1, none⟩ = some v1 ∧ W.cell? ⟨g, 2, none⟩ = some v2 ∧ W.cell? ⟨g, 3, none⟩ = some v3 ∧ W.cell? ⟨g, 4, none⟩ = some v4 ∧ W.cell? ⟨g, 5, none⟩ = some v5 ∧ W.cell? ⟨g, 6, none⟩ = some v6 ∧ W.cell? ⟨g, 7, none⟩ = some v7 ∧ W.cell? ⟨g, 8, none⟩ = some v8 ∧ W.cell? ⟨g, 9, none⟩ = some v9 ∧ W.cell? ⟨g, 10, none⟩ = some v10 :=
 ⟨by rw [h.cell 0]; rfl, by rw [h.cell 1]; rfl, by rw [h.cell 2]; rfl, by rw [h.cell 3]; rfl, by rw [h.cell 4]; rfl, by rw [h.cell 5]; rfl, by rw [h.cell 6]; rfl, by rw [h.cell 7]; rfl, by rw [h.cell 8]; rfl, by rw [h.cell 9]; rfl, by rw [h.cell 10]; rfl⟩
theorem six6 {W : World} {g : Nat} {T : TypeId} {v0 v1 v2 v3 v4 v5 : Value} (h : Blk W g T #[v0, v1, v2, v3, v4, v5]) : W.cell? ⟨g, 0, none⟩ = some v0 ∧ W.cell? ⟨g, 1, none⟩ = some v1 ∧ W.cell? ⟨g, 2, none⟩ = some v2 ∧ W.cell? ⟨g, 3, none⟩ = some v3 ∧ W.cell? ⟨g, 4, none⟩ = some v4 ∧ W.cell? ⟨g, 5, none⟩ = some v5 :=
 ⟨by rw [h.cell 0]; rfl, by rw [h.cell 1]; rfl, by rw [h.cell 2]; rfl, by rw [h.cell 3]; rfl, by rw [h.cell 4]; rfl, by rw [h.cell 5]; rfl⟩
theorem seven7 {W : World} {g : Nat} {T : TypeId} {v0 v1 v2 v3 v4 v5 v6 : Value} (h : Blk W g T #[v0, v1, v2, v3, v4, v5, v6]) : W.cell? ⟨g, 0, none⟩ = some v0 ∧ W.cell? ⟨g, 1, none⟩ = some v1 ∧ W.cell? ⟨g, 2, none⟩ = some v2 ∧ W.cell? ⟨g, 3, none⟩ = some v3 ∧ W.cell? ⟨g, 4, none⟩ = some v4 ∧ W.cell? ⟨g, 5, none⟩ = some v5 ∧ W.cell? ⟨g, 6, none⟩ = some v6 :=
 ⟨by rw [h.cell 0]; rfl, by rw [h.cell 1]; rfl, by rw [h.cell 2]; rfl, by rw [h.cell 3]; rfl, by rw [h.cell 4]; rfl, by rw [h.cell 5]; rfl, by rw [h.cell 6]; rfl⟩
theorem nine99 {W : World} {g : Nat} {T : TypeId} {v0 v1 v2 v3 v4 v5 v6 v7 v8 : Value} (h : Blk W g T #[v0, v1, v2, v3, v4, v5, v6, v7, v8]) : W.cell? ⟨g, 0, none⟩ = some v0 ∧ W.cell? ⟨g, 1, none⟩ = some v1 ∧ W.cell? ⟨g, 2, none⟩ = some v2 ∧ W.cell? ⟨g, 3, none⟩ = some v3 ∧ W.cell? ⟨g, 4, none⟩ = some v4 ∧ W.cell? ⟨g, 5, none⟩ = some v5 ∧ W.cell? ⟨g, 6, none⟩ = some v6 ∧ W.cell? ⟨g, 7, none⟩ = some v7 ∧ W.cell? ⟨g, 8, none⟩ = some v8 :=
 ⟨by rw [h.cell 0]; rfl, by rw [h.cell 1]; rfl, by rw [h.cell 2]; rfl, by rw [h.cell 3]; rfl, by rw [h.cell 4]; rfl, by rw [h.cell 5]; rfl, by rw [h.cell 6]; rfl, by rw [h.cell 7]; rfl, by rw [h.cell 8]; rfl⟩
set_option maxHeartbeats 4000000 in
theorem sequalT_any {w : World} {S S' : Nat → Prop} {A A' : Option Addr} {c c' : Nat} {l m : List ByteArray} (hl : TL w S (.slice A l.length c) l) (hm : TL w S' (.slice A' m.length c') m) {b : Bool} (hb : b = true ↔ l = m) (bl : l.length < 4611686018427387904) (_bm : m.length < 4611686018427387904) :
  Calls Tryd.prog 46 #[.slice A l.length c, .slice A' m.length c'] w (Ret (.bool b) w) := by
 have HL := Lib.hid hl
 have HM := Lib.hid hm
 have HB := Lib.hid hb
 clear hl hm hb
 by_cases hlen : l.length = m.length
 ·have q : ((l.length : Int) != (m.length : Int)) = false := by simp [hlen]
  have HLEN := Lib.hid hlen
  clear hlen
  go_enter Tryd.func46, Tryd.ntmps46
  go_wp2_with fail
  go_loopw [13] (fun v wr => ∃ k : Nat, k ≤ l.length ∧ v = .int .i64 (k : Int) ∧ l.take k = m.take k ∧ Bel w wr) (fun v _ => l.length - (intOf v).toNat)
  case atStart => exact ⟨0, by omega, rfl, by simp, Below.refl _ _⟩
  case round =>
   obtain ⟨k, hk, rfl, hx, hbw⟩ := hrel
   have HX := Lib.hid hx
   have HW := Lib.hid hbw
   clear hx hbw
   by_cases hlt : k < l.length
   ·have j0 : (k : Int) < (l.length : Int) := by omega
    have j1 : (0 : Int) ≤ (k : Int) := by omega
    have j2 : (k : Int) < (m.length : Int) := by have := HLEN.out; omega
    obtain ⟨ad, x, rfl, hx, _, had, a0⟩ := (HL.out.up HW.out).cell hlt
    obtain ⟨ad', y, rfl, hy, _, had', a1⟩ := (HM.out.up HW.out).cell (k := k) (by have := HLEN.out; omega)
    have HXX := Lib.hid hx
    have HYY := Lib.hid hy
    clear hx hy
    by_cases hxy : x = y
    ·subst hxy
     have HN := Lib.hid (take_eq_next HX.out HXX.out HYY.out)
     have q2 : (x.toList != x.toList) = false := by simp
     clear HXX HYY
     go_wp2_with fail
     go_quiet (fail)
     go_wp2_with fail
     go_roundw
     case rel => exact ⟨k + 1, by omega, by go_num, HN.out, below_drewN HW.out _⟩
     case measure => simp [intOf]; omega
    ·have HN := Lib.hid (show b = false from bool_false HB.out (fun e => hxy (by have h1 := HXX.out; rw [e, HYY.out] at h1; injection h1 with h1; exact h1.symm)))
     have q1 : (x.toList == y.toList) = false := by rw [bytes_beq, decide_eq_false hxy]
     have q2 : (x.toList != y.toList) = true := by unfold bne; rw [q1]; rfl
     clear hxy
     all_goals
      clear HXX HYY
      go_wp2_with fail
      go_quiet (fail)
      go_wp2_with fail
      go_ret
      exact ⟨by rw [HN.out]; rfl, below_drewN HW.out _⟩
   ·obtain rfl : k = l.length := by omega
    have HE := Lib.hid (show b = true from HB.out.2 (by have := HX.out; rw [List.take_length, HLEN.out, List.take_length] at this; exact this))
    go_wp2_with fail
    go_ret
    exact ⟨by rw [HE.out]; rfl, HW.out⟩
 ·have q : ((l.length : Int) != (m.length : Int)) = true := by simp; omega
  have HE := Lib.hid (show b = false from bool_false HB.out (fun e => hlen (congrArg List.length e)))
  go_enter Tryd.func46, Tryd.ntmps46
  go_wp2_with fail
  go_ret
  exact ⟨by rw [HE.out]; rfl, Below.refl _ _⟩
set_option maxHeartbeats 4000000 in
theorem sequalI_any {w : World} {S S' : Nat → Prop} {A A' : Option Addr} {c c' : Nat} {l m : List Int} (hl : IL w S (.slice A l.length c) l) (hm : IL w S' (.slice A' m.length c') m) {b : Bool} (hb : b = true ↔ l = m) (bl : l.length < 4611686018427387904) (_bm : m.length < 4611686018427387904) :
  Calls Tryd.prog 116 #[.slice A l.length c, .slice A' m.length c'] w (Ret (.bool b) w) := by
 have HL := Lib.hid hl
 have HM := Lib.hid hm
 have HB := Lib.hid hb
 clear hl hm hb
 by_cases hlen : l.length = m.length
 ·have q : ((l.length : Int) != (m.length : Int)) = false := by simp [hlen]
  have HLEN := Lib.hid hlen
  clear hlen
  go_enter Tryd.func116, Tryd.ntmps116
  go_wp2_with fail
  go_loopw [13] (fun v wr => ∃ k : Nat, k ≤ l.length ∧ v = .int .i64 (k : Int) ∧ l.take k = m.take k ∧ Bel w wr) (fun v _ => l.length - (intOf v).toNat)
  case atStart => exact ⟨0, by omega, rfl, by simp, Below.refl _ _⟩
  case round =>
   obtain ⟨k, hk, rfl, hx, hbw⟩ := hrel
   have HX := Lib.hid hx
   have HW := Lib.hid hbw
   clear hx hbw
   by_cases hlt : k < l.length
   ·have j0 : (k : Int) < (l.length : Int) := by omega
    have j1 : (0 : Int) ≤ (k : Int) := by omega
    have j2 : (k : Int) < (m.length : Int) := by have := HLEN.out; omega
    obtain ⟨ad, x, rfl, hx, _, had, a0⟩ := (HL.out.up HW.out).cell hlt
    obtain ⟨ad', y, rfl, hy, _, had', a1⟩ := (HM.out.up HW.out).cell (k := k) (by have := HLEN.out; omega)
    have HXX := Lib.hid hx
    have HYY := Lib.hid hy
    clear hx hy
    by_cases hxy : x = y
    ·subst hxy
     have HN := Lib.hid (take_eq_next HX.out HXX.out HYY.out)
     have q2 : (x != x) = false := by simp
     clear HXX HYY
     go_wp2_with fail
     go_quiet (fail)
     go_wp2_with fail
     go_roundw
     case rel => exact ⟨k + 1, by omega, by go_num, HN.out, below_drewN HW.out _⟩
     case measure => simp [intOf]; omega
    ·have HN := Lib.hid (show b = false from bool_false HB.out (fun e => hxy (by have h1 := HXX.out; rw [e, HYY.out] at h1; injection h1 with h1; exact h1.symm)))
     have q2 : (x != y) = true := by simp [hxy]
     clear hxy
     all_goals
      clear HXX HYY
      go_wp2_with fail
      go_quiet (fail)
      go_wp2_with fail
      go_ret
      exact ⟨by rw [HN.out]; rfl, below_drewN HW.out _⟩
   ·obtain rfl : k = l.length := by omega
    have HE := Lib.hid (show b = true from HB.out.2 (by have := HX.out; rw [List.take_length, HLEN.out, List.take_length] at this; exact this))
    go_wp2_with fail
    go_ret
    exact ⟨by rw [HE.out]; rfl, HW.out⟩
 ·have q : ((l.length : Int) != (m.length : Int)) = true := by simp; omega
  have HE := Lib.hid (show b = false from bool_false HB.out (fun e => hlen (congrArg List.length e)))
  go_enter Tryd.func116, Tryd.ntmps116
  go_wp2_with fail
  go_ret
  exact ⟨by rw [HE.out]; rfl, Below.refl _ _⟩
set_option maxHeartbeats 4000000 in
theorem sequalA_any {w : World} {S S' : Nat → Prop} {A A' : Option Addr} {c c' : Nat} {l m : List Ar} (hl : AL w S (.slice A l.length c) l) (hm : AL w S' (.slice A' m.length c') m) {b : Bool} (hb : b = true ↔ l = m) (bl : l.length < 4611686018427387904) (_bm : m.length < 4611686018427387904) :
  Calls Tryd.prog 115 #[.slice A l.length c, .slice A' m.length c'] w (Ret (.bool b) w) := by
 have HL := Lib.hid hl
 have HM := Lib.hid hm
 have HB := Lib.hid hb
 clear hl hm hb
 by_cases hlen : l.length = m.length
 ·have q : ((l.length : Int) != (m.length : Int)) = false := by simp [hlen]
  have HLEN := Lib.hid hlen
  clear hlen
  go_enter Tryd.func115, Tryd.ntmps115
  go_wp2_with fail
  go_loopw [13] (fun v wr => ∃ k : Nat, k ≤ l.length ∧ v = .int .i64 (k : Int) ∧ l.take k = m.take k ∧ Bel w wr) (fun v _ => l.length - (intOf v).toNat)
  case atStart => exact ⟨0, by omega, rfl, by simp, Below.refl _ _⟩
  case round =>
   obtain ⟨k, hk, rfl, hx, hbw⟩ := hrel
   have HX := Lib.hid hx
   have HW := Lib.hid hbw
   clear hx hbw
   by_cases hlt : k < l.length
   ·have j0 : (k : Int) < (l.length : Int) := by omega
    have j1 : (0 : Int) ≤ (k : Int) := by omega
    have j2 : (k : Int) < (m.length : Int) := by have := HLEN.out; omega
    obtain ⟨ad, x, rfl, hx, _, had, a0⟩ := (HL.out.up HW.out).at_ hlt
    obtain ⟨ad', y, rfl, hy, _, had', a1⟩ := (HM.out.up HW.out).at_ (k := k) (by have := HLEN.out; omega)
    have HXX := Lib.hid hx
    have HYY := Lib.hid hy
    clear hx hy
    obtain ⟨p0, p1, p2⟩ := a0
    obtain ⟨r0, r1, r2⟩ := a1
    by_cases hxy : x = y
    ·subst hxy
     have HN := Lib.hid (take_eq_next HX.out HXX.out HYY.out)
     clear HXX HYY
     go_wp2_with fail
     go_quiet (fail)
     go_wp2_with fail
     go_roundw
     case rel => exact ⟨k + 1, by omega, by go_num, HN.out, below_drewN HW.out _⟩
     case measure => simp [intOf]; omega
    ·have HN := Lib.hid (show b = false from bool_false HB.out (fun e => hxy (by have h1 := HXX.out; rw [e, HYY.out] at h1; injection h1 with h1; exact h1.symm)))
     have hcs : (x.vol ≠ y.vol) ∨ (x.vol = y.vol ∧ x.on ≠ y.on) ∨ (x.vol = y.vol ∧ x.on = y.on ∧ x.start ≠ y.start) := by
      by_cases e0 : x.vol = y.vol
      ·by_cases e1 : x.on = y.on
       ·exact Or.inr (Or.inr ⟨e0, e1, fun e2 => hxy (by obtain ⟨a, b, c⟩ := x; obtain ⟨d, e, f⟩ := y; dsimp only at *; rw [e0, e1, e2])⟩)
       ·exact Or.inr (Or.inl ⟨e0, e1⟩)
      ·exact Or.inl e0
     clear hxy
     rcases hcs with e0 | ⟨e0, e1⟩ | ⟨e0, e1, e2⟩
     ·have q0 : (x.vol == y.vol) = false := beq_eq_false_iff_ne.2 e0
      clear e0
      clear HXX HYY
      go_wp2_with fail
      go_quiet (fail)
      go_wp2_with fail
      go_ret
      exact ⟨by rw [HN.out]; rfl, below_drewN HW.out _⟩
     ·have q0 : (x.vol == y.vol) = true := by rw [e0]; simp
      have q1 : (x.on.toList == y.on.toList) = false := by rw [bytes_beq, decide_eq_false e1]
      clear e0 e1
      clear HXX HYY
      go_wp2_with fail
      go_quiet (fail)
      go_wp2_with fail
      go_ret
      exact ⟨by rw [HN.out]; rfl, below_drewN HW.out _⟩
     ·have q0 : (x.vol == y.vol) = true := by rw [e0]; simp
      have q1 : (x.on.toList == y.on.toList) = true := by rw [e1]; simp
      have q2 : (x.start == y.start) = false := beq_eq_false_iff_ne.2 e2
      clear e0 e1 e2
      clear HXX HYY
      go_wp2_with fail
      go_quiet (fail)
      go_wp2_with fail
      go_ret
      exact ⟨by rw [HN.out]; rfl, below_drewN HW.out _⟩
     all_goals
      clear HXX HYY
      go_wp2_with fail
      go_quiet (fail)
      go_wp2_with fail
      go_ret
      exact ⟨by rw [HN.out]; rfl, below_drewN HW.out _⟩
   ·obtain rfl : k = l.length := by omega
    have HE := Lib.hid (show b = true from HB.out.2 (by have := HX.out; rw [List.take_length, HLEN.out, List.take_length] at this; exact this))
    go_wp2_with fail
    go_ret
    exact ⟨by rw [HE.out]; rfl, HW.out⟩
 ·have q : ((l.length : Int) != (m.length : Int)) = true := by simp; omega
  have HE := Lib.hid (show b = false from bool_false HB.out (fun e => hlen (congrArg List.length e)))
  go_enter Tryd.func115, Tryd.ntmps115
  go_wp2_with fail
  go_ret
  exact ⟨by rw [HE.out]; rfl, Below.refl _ _⟩
set_option maxHeartbeats 4000000 in
theorem sequalM_any {w : World} {S S' : Nat → Prop} {A A' : Option Addr} {c c' : Nat} {l m : List Rm} (hl : ML w S (.slice A l.length c) l) (hm : ML w S' (.slice A' m.length c') m) {b : Bool} (hb : b = true ↔ l = m) (bl : l.length < 4611686018427387904) (_bm : m.length < 4611686018427387904) :
  Calls Tryd.prog 51 #[.slice A l.length c, .slice A' m.length c'] w (Ret (.bool b) w) := by
 have HL := Lib.hid hl
 have HM := Lib.hid hm
 have HB := Lib.hid hb
 clear hl hm hb
 by_cases hlen : l.length = m.length
 ·have q : ((l.length : Int) != (m.length : Int)) = false := by simp [hlen]
  have HLEN := Lib.hid hlen
  clear hlen
  go_enter Tryd.func51, Tryd.ntmps51
  go_wp2_with fail
  go_loopw [13] (fun v wr => ∃ k : Nat, k ≤ l.length ∧ v = .int .i64 (k : Int) ∧ l.take k = m.take k ∧ Bel w wr) (fun v _ => l.length - (intOf v).toNat)
  case atStart => exact ⟨0, by omega, rfl, by simp, Below.refl _ _⟩
  case round =>
   obtain ⟨k, hk, rfl, hx, hbw⟩ := hrel
   have HX := Lib.hid hx
   have HW := Lib.hid hbw
   clear hx hbw
   by_cases hlt : k < l.length
   ·have j0 : (k : Int) < (l.length : Int) := by omega
    have j1 : (0 : Int) ≤ (k : Int) := by omega
    have j2 : (k : Int) < (m.length : Int) := by have := HLEN.out; omega
    obtain ⟨ad, x, rfl, hx, _, had, a0⟩ := (HL.out.up HW.out).at_ hlt
    obtain ⟨ad', y, rfl, hy, _, had', a1⟩ := (HM.out.up HW.out).at_ (k := k) (by have := HLEN.out; omega)
    have HXX := Lib.hid hx
    have HYY := Lib.hid hy
    clear hx hy
    obtain ⟨p0, p1, p2⟩ := a0
    obtain ⟨r0, r1, r2⟩ := a1
    by_cases hxy : x = y
    ·subst hxy
     have HN := Lib.hid (take_eq_next HX.out HXX.out HYY.out)
     clear HXX HYY
     go_wp2_with fail
     go_quiet (fail)
     go_wp2_with fail
     go_roundw
     case rel => exact ⟨k + 1, by omega, by go_num, HN.out, below_drewN HW.out _⟩
     case measure => simp [intOf]; omega
    ·have HN := Lib.hid (show b = false from bool_false HB.out (fun e => hxy (by have h1 := HXX.out; rw [e, HYY.out] at h1; injection h1 with h1; exact h1.symm)))
     have hcs : (x.name ≠ y.name) ∨ (x.name = y.name ∧ x.id ≠ y.id) ∨ (x.name = y.name ∧ x.id = y.id ∧ x.seq ≠ y.seq) := by
      by_cases e0 : x.name = y.name
      ·by_cases e1 : x.id = y.id
       ·exact Or.inr (Or.inr ⟨e0, e1, fun e2 => hxy (by obtain ⟨a, b, c⟩ := x; obtain ⟨d, e, f⟩ := y; dsimp only at *; rw [e0, e1, e2])⟩)
       ·exact Or.inr (Or.inl ⟨e0, e1⟩)
      ·exact Or.inl e0
     clear hxy
     rcases hcs with e0 | ⟨e0, e1⟩ | ⟨e0, e1, e2⟩
     ·have q0 : (x.name.toList == y.name.toList) = false := by rw [bytes_beq, decide_eq_false e0]
      clear e0
      clear HXX HYY
      go_wp2_with fail
      go_quiet (fail)
      go_wp2_with fail
      go_ret
      exact ⟨by rw [HN.out]; rfl, below_drewN HW.out _⟩
     ·have q0 : (x.name.toList == y.name.toList) = true := by rw [e0]; simp
      have q1 : (x.id == y.id) = false := beq_eq_false_iff_ne.2 e1
      clear e0 e1
      clear HXX HYY
      go_wp2_with fail
      go_quiet (fail)
      go_wp2_with fail
      go_ret
      exact ⟨by rw [HN.out]; rfl, below_drewN HW.out _⟩
     ·have q0 : (x.name.toList == y.name.toList) = true := by rw [e0]; simp
      have q1 : (x.id == y.id) = true := by rw [e1]; simp
      have q2 : (x.seq == y.seq) = false := beq_eq_false_iff_ne.2 e2
      clear e0 e1 e2
      clear HXX HYY
      go_wp2_with fail
      go_quiet (fail)
      go_wp2_with fail
      go_ret
      exact ⟨by rw [HN.out]; rfl, below_drewN HW.out _⟩
     all_goals
      clear HXX HYY
      go_wp2_with fail
      go_quiet (fail)
      go_wp2_with fail
      go_ret
      exact ⟨by rw [HN.out]; rfl, below_drewN HW.out _⟩
   ·obtain rfl : k = l.length := by omega
    have HE := Lib.hid (show b = true from HB.out.2 (by have := HX.out; rw [List.take_length, HLEN.out, List.take_length] at this; exact this))
    go_wp2_with fail
    go_ret
    exact ⟨by rw [HE.out]; rfl, HW.out⟩
 ·have q : ((l.length : Int) != (m.length : Int)) = true := by simp; omega
  have HE := Lib.hid (show b = false from bool_false HB.out (fun e => hlen (congrArg List.length e)))
  go_enter Tryd.func51, Tryd.ntmps51
  go_wp2_with fail
  go_ret
  exact ⟨by rw [HE.out]; rfl, Below.refl _ _⟩
/-- its lists fit -/
def SmSg (x : Sg) : Prop := x.areas.length < 4611686018427387904 ∧ x.stale.length < 4611686018427387904
theorem Sg.eqs {x y : Sg} (h0 : x.start = y.start) (h1 : x.len = y.len) (h2 : x.kind = y.kind) (h3 : x.areas = y.areas) (h4 : x.chunk = y.chunk) (h5 : x.stale = y.stale) (h6 : x.log = y.log) (h7 : x.pool = y.pool) (h8 : x.dev = y.dev) (h9 : x.mode = y.mode) (h10 : x.done = y.done) : x = y := by
 obtain ⟨a0, a1, a2, a3, a4, a5, a6, a7, a8, a9, a10⟩ := x
 obtain ⟨b0, b1, b2, b3, b4, b5, b6, b7, b8, b9, b10⟩ := y
 dsimp only at *
 subst_vars
 rfl
set_option maxHeartbeats 8000000 in
theorem sameSg_any {w : World} {S S' : Nat → Prop} {x y : Sg} {v0 u0 : Value} {v1 u1 : Value} (h0 : AL w S v0 x.areas) (k0 : AL w S' u0 y.areas) (h1 : IL w S v1 x.stale) (k1 : IL w S' u1 y.stale) (sx : SmSg x) (sy : SmSg y) {b : Bool} (hb : b = true ↔ x = y) :
  Calls Tryd.prog 94 #[.agg (sgA x v0 v1), .agg (sgA y u0 u1)] w (Ret (.bool b) w) := by
 unfold SmSg at sx sy
 obtain ⟨A0, c0, rfl⟩ := h0.form
 obtain ⟨B0, d0, rfl⟩ := k0.form
 have HL0 := Lib.hid h0
 have HK0 := Lib.hid k0
 obtain ⟨A1, c1, rfl⟩ := h1.form
 obtain ⟨B1, d1, rfl⟩ := k1.form
 have HL1 := Lib.hid h1
 have HK1 := Lib.hid k1
 have HS0 := Lib.hid (fun (b' : Bool) (hb' : b' = true ↔ x.areas = y.areas) (w' : World) (hw : Bel w w') => sequalA_any (HL0.out.up hw) (HK0.out.up hw) hb' sx.1 sy.1)
 have HS1 := Lib.hid (fun (b' : Bool) (hb' : b' = true ↔ x.stale = y.stale) (w' : World) (hw : Bel w w') => sequalI_any (HL1.out.up hw) (HK1.out.up hw) hb' sx.2 sy.2)
 have HB := Lib.hid hb
 have HBEL := Lib.hid (fun o1 o2 : Obj => show Bel w ((w.alloc o1).alloc o2) from ((Below.refl _ _).al _).al _)
 have HX := Lib.hid (show ∀ w', Bel ((w.alloc (.cells (sgX x A0 c0 A1 c1) 58)).alloc (.cells (sgX y B0 d0 B1 d1) 58)) w' → Blk w' w.heap.size 58 (sgX x A0 c0 A1 c1) from fun w' hb => ((Blk.new w 58 (sgX x A0 c0 A1 c1)).alloc (.cells (sgX y B0 d0 B1 d1) 58)).below hb ((Blk.new w 58 (sgX x A0 c0 A1 c1)).alloc (.cells (sgX y B0 d0 B1 d1) 58)).lt)
 have hby := Blk.new (w.alloc (.cells (sgX x A0 c0 A1 c1) 58)) 58 (sgX y B0 d0 B1 d1)
 rw [show (w.alloc (.cells (sgX x A0 c0 A1 c1) 58)).heap.size = w.heap.size + 1 by simp] at hby
 have HY := Lib.hid (show ∀ w', Bel ((w.alloc (.cells (sgX x A0 c0 A1 c1) 58)).alloc (.cells (sgX y B0 d0 B1 d1) 58)) w' → Blk w' (w.heap.size + 1) 58 (sgX y B0 d0 B1 d1) from fun w' hb => hby.below hb hby.lt)
 unfold sgA
 clear h0 k0 h1 k1 hb hby sx sy
 by_cases e0 : x.start = y.start
 case neg =>
  have q0 : (x.start == y.start) = false := beq_eq_false_iff_ne.2 e0
  have HE := Lib.hid (show b = false from bool_false HB.out (fun e => e0 (congrArg Sg.start e)))
  clear e0
  go_enter Tryd.func94, Tryd.ntmps94
  go_wp2_with fail
  go_ret
  exact ⟨by rw [HE.out]; rfl, HBEL.out _ _⟩
 have q0 : (x.start == y.start) = true := by rw [e0]; simp
 by_cases e1 : x.len = y.len
 case neg =>
  have q1 : (x.len == y.len) = false := beq_eq_false_iff_ne.2 e1
  have HE := Lib.hid (show b = false from bool_false HB.out (fun e => e1 (congrArg Sg.len e)))
  clear e0 e1
  go_enter Tryd.func94, Tryd.ntmps94
  go_wp2_with fail
  go_ret
  exact ⟨by rw [HE.out]; rfl, HBEL.out _ _⟩
 have q1 : (x.len == y.len) = true := by rw [e1]; simp
 by_cases e2 : x.kind = y.kind
 case neg =>
  have q2 : (x.kind == y.kind) = false := beq_eq_false_iff_ne.2 e2
  have HE := Lib.hid (show b = false from bool_false HB.out (fun e => e2 (congrArg Sg.kind e)))
  clear e0 e1 e2
  go_enter Tryd.func94, Tryd.ntmps94
  go_wp2_with fail
  go_ret
  exact ⟨by rw [HE.out]; rfl, HBEL.out _ _⟩
 have q2 : (x.kind == y.kind) = true := by rw [e2]; simp
 by_cases e3 : x.areas = y.areas
 case neg =>
  have HS0F := Lib.hid (fun w' hw => HS0.out false ⟨fun h => absurd h (by decide), fun h => absurd h e3⟩ w' hw)
  have HE := Lib.hid (show b = false from bool_false HB.out (fun e => e3 (congrArg Sg.areas e)))
  clear e0 e1 e2 e3
  go_enter Tryd.func94, Tryd.ntmps94
  go_wp2_with fail
  refine (HS0F.out _ (HBEL.out _ _)).mono ?_
  rintro e w0 ⟨rfl, hb0⟩
  have HB0 := Lib.hid ((HBEL.out (.cells (sgX x A0 c0 A1 c1) 58) (.cells (sgX y B0 d0 B1 d1) 58)).next hb0)
  have HZ0 := Lib.hid hb0
  obtain ⟨f0, f1, f2, f3, f4, f5, f6, f7, f8, f9, f10⟩ := eleven (HX.out _ HZ0.out)
  obtain ⟨g0, g1, g2, g3, g4, g5, g6, g7, g8, g9, g10⟩ := eleven (HY.out _ HZ0.out)
  clear hb0
  go_wp2_with fail
  go_ret
  exact ⟨by rw [HE.out]; rfl, HB0.out⟩
 have HS0T := Lib.hid (fun w' hw => HS0.out true ⟨fun _ => e3, fun _ => rfl⟩ w' hw)
 by_cases e4 : x.chunk = y.chunk
 case neg =>
  have q4 : (x.chunk == y.chunk) = false := beq_eq_false_iff_ne.2 e4
  have HE := Lib.hid (show b = false from bool_false HB.out (fun e => e4 (congrArg Sg.chunk e)))
  clear e0 e1 e2 e3 e4
  go_enter Tryd.func94, Tryd.ntmps94
  go_wp2_with fail
  refine (HS0T.out _ (HBEL.out _ _)).mono ?_
  rintro e w0 ⟨rfl, hb0⟩
  have HB0 := Lib.hid ((HBEL.out (.cells (sgX x A0 c0 A1 c1) 58) (.cells (sgX y B0 d0 B1 d1) 58)).next hb0)
  have HZ0 := Lib.hid hb0
  obtain ⟨f0, f1, f2, f3, f4, f5, f6, f7, f8, f9, f10⟩ := eleven (HX.out _ HZ0.out)
  obtain ⟨g0, g1, g2, g3, g4, g5, g6, g7, g8, g9, g10⟩ := eleven (HY.out _ HZ0.out)
  clear hb0
  go_wp2_with fail
  go_ret
  exact ⟨by rw [HE.out]; rfl, HB0.out⟩
 have q4 : (x.chunk == y.chunk) = true := by rw [e4]; simp
 by_cases e5 : x.stale = y.stale
 case neg =>
  have HS1F := Lib.hid (fun w' hw => HS1.out false ⟨fun h => absurd h (by decide), fun h => absurd h e5⟩ w' hw)
  have HE := Lib.hid (show b = false from bool_false HB.out (fun e => e5 (congrArg Sg.stale e)))
  clear e0 e1 e2 e3 e4 e5
  go_enter Tryd.func94, Tryd.ntmps94
  go_wp2_with fail
  refine (HS0T.out _ (HBEL.out _ _)).mono ?_
  rintro e w0 ⟨rfl, hb0⟩
  have HB0 := Lib.hid ((HBEL.out (.cells (sgX x A0 c0 A1 c1) 58) (.cells (sgX y B0 d0 B1 d1) 58)).next hb0)
  have HZ0 := Lib.hid hb0
  obtain ⟨f0, f1, f2, f3, f4, f5, f6, f7, f8, f9, f10⟩ := eleven (HX.out _ HZ0.out)
  obtain ⟨g0, g1, g2, g3, g4, g5, g6, g7, g8, g9, g10⟩ := eleven (HY.out _ HZ0.out)
  clear hb0
  go_wp2_with fail
  refine (HS1F.out _ HB0.out).mono ?_
  rintro e w1 ⟨rfl, hb1⟩
  have HB1 := Lib.hid (HB0.out.next hb1)
  have HZ1 := Lib.hid (HZ0.out.next hb1)
  clear f0 f1 f2 f3 f4 f5 f6 f7 f8 f9 f10 g0 g1 g2 g3 g4 g5 g6 g7 g8 g9 g10
  obtain ⟨f0, f1, f2, f3, f4, f5, f6, f7, f8, f9, f10⟩ := eleven (HX.out _ HZ1.out)
  obtain ⟨g0, g1, g2, g3, g4, g5, g6, g7, g8, g9, g10⟩ := eleven (HY.out _ HZ1.out)
  clear hb1
  go_wp2_with fail
  go_ret
  exact ⟨by rw [HE.out]; rfl, HB1.out⟩
 have HS1T := Lib.hid (fun w' hw => HS1.out true ⟨fun _ => e5, fun _ => rfl⟩ w' hw)
 by_cases e6 : x.log = y.log
 case neg =>
  have q6 : (x.log.toList == y.log.toList) = false := by rw [bytes_beq, decide_eq_false e6]
  have HE := Lib.hid (show b = false from bool_false HB.out (fun e => e6 (congrArg Sg.log e)))
  clear e0 e1 e2 e3 e4 e5 e6
  go_enter Tryd.func94, Tryd.ntmps94
  go_wp2_with fail
  refine (HS0T.out _ (HBEL.out _ _)).mono ?_
  rintro e w0 ⟨rfl, hb0⟩
  have HB0 := Lib.hid ((HBEL.out (.cells (sgX x A0 c0 A1 c1) 58) (.cells (sgX y B0 d0 B1 d1) 58)).next hb0)
  have HZ0 := Lib.hid hb0
  obtain ⟨f0, f1, f2, f3, f4, f5, f6, f7, f8, f9, f10⟩ := eleven (HX.out _ HZ0.out)
  obtain ⟨g0, g1, g2, g3, g4, g5, g6, g7, g8, g9, g10⟩ := eleven (HY.out _ HZ0.out)
  clear hb0
  go_wp2_with fail
  refine (HS1T.out _ HB0.out).mono ?_
  rintro e w1 ⟨rfl, hb1⟩
  have HB1 := Lib.hid (HB0.out.next hb1)
  have HZ1 := Lib.hid (HZ0.out.next hb1)
  clear f0 f1 f2 f3 f4 f5 f6 f7 f8 f9 f10 g0 g1 g2 g3 g4 g5 g6 g7 g8 g9 g10
  obtain ⟨f0, f1, f2, f3, f4, f5, f6, f7, f8, f9, f10⟩ := eleven (HX.out _ HZ1.out)
  obtain ⟨g0, g1, g2, g3, g4, g5, g6, g7, g8, g9, g10⟩ := eleven (HY.out _ HZ1.out)
  clear hb1
  go_wp2_with fail
  go_ret
  exact ⟨by rw [HE.out]; rfl, HB1.out⟩
 have q6 : (x.log.toList == y.log.toList) = true := by rw [e6]; simp
 by_cases e7 : x.pool = y.pool
 case neg =>
  have q7 : (x.pool.toList == y.pool.toList) = false := by rw [bytes_beq, decide_eq_false e7]
  have HE := Lib.hid (show b = false from bool_false HB.out (fun e => e7 (congrArg Sg.pool e)))
  clear e0 e1 e2 e3 e4 e5 e6 e7
  go_enter Tryd.func94, Tryd.ntmps94
  go_wp2_with fail
  refine (HS0T.out _ (HBEL.out _ _)).mono ?_
  rintro e w0 ⟨rfl, hb0⟩
  have HB0 := Lib.hid ((HBEL.out (.cells (sgX x A0 c0 A1 c1) 58) (.cells (sgX y B0 d0 B1 d1) 58)).next hb0)
  have HZ0 := Lib.hid hb0
  obtain ⟨f0, f1, f2, f3, f4, f5, f6, f7, f8, f9, f10⟩ := eleven (HX.out _ HZ0.out)
  obtain ⟨g0, g1, g2, g3, g4, g5, g6, g7, g8, g9, g10⟩ := eleven (HY.out _ HZ0.out)
  clear hb0
  go_wp2_with fail
  refine (HS1T.out _ HB0.out).mono ?_
  rintro e w1 ⟨rfl, hb1⟩
  have HB1 := Lib.hid (HB0.out.next hb1)
  have HZ1 := Lib.hid (HZ0.out.next hb1)
  clear f0 f1 f2 f3 f4 f5 f6 f7 f8 f9 f10 g0 g1 g2 g3 g4 g5 g6 g7 g8 g9 g10
  obtain ⟨f0, f1, f2, f3, f4, f5, f6, f7, f8, f9, f10⟩ := eleven (HX.out _ HZ1.out)
  obtain ⟨g0, g1, g2, g3, g4, g5, g6, g7, g8, g9, g10⟩ := eleven (HY.out _ HZ1.out)
  clear hb1
  go_wp2_with fail
  go_ret
  exact ⟨by rw [HE.out]; rfl, HB1.out⟩
 have q7 : (x.pool.toList == y.pool.toList) = true := by rw [e7]; simp
 by_cases e8 : x.dev = y.dev
 case neg =>
  have q8 : (x.dev == y.dev) = false := beq_eq_false_iff_ne.2 e8
  have HE := Lib.hid (show b = false from bool_false HB.out (fun e => e8 (congrArg Sg.dev e)))
  clear e0 e1 e2 e3 e4 e5 e6 e7 e8
  go_enter Tryd.func94, Tryd.ntmps94
  go_wp2_with fail
  refine (HS0T.out _ (HBEL.out _ _)).mono ?_
  rintro e w0 ⟨rfl, hb0⟩
  have HB0 := Lib.hid ((HBEL.out (.cells (sgX x A0 c0 A1 c1) 58) (.cells (sgX y B0 d0 B1 d1) 58)).next hb0)
  have HZ0 := Lib.hid hb0
  obtain ⟨f0, f1, f2, f3, f4, f5, f6, f7, f8, f9, f10⟩ := eleven (HX.out _ HZ0.out)
  obtain ⟨g0, g1, g2, g3, g4, g5, g6, g7, g8, g9, g10⟩ := eleven (HY.out _ HZ0.out)
  clear hb0
  go_wp2_with fail
  refine (HS1T.out _ HB0.out).mono ?_
  rintro e w1 ⟨rfl, hb1⟩
  have HB1 := Lib.hid (HB0.out.next hb1)
  have HZ1 := Lib.hid (HZ0.out.next hb1)
  clear f0 f1 f2 f3 f4 f5 f6 f7 f8 f9 f10 g0 g1 g2 g3 g4 g5 g6 g7 g8 g9 g10
  obtain ⟨f0, f1, f2, f3, f4, f5, f6, f7, f8, f9, f10⟩ := eleven (HX.out _ HZ1.out)
  obtain ⟨g0, g1, g2, g3, g4, g5, g6, g7, g8, g9, g10⟩ := eleven (HY.out _ HZ1.out)
  clear hb1
  go_wp2_with fail
  go_ret
  exact ⟨by rw [HE.out]; rfl, HB1.out⟩
 have q8 : (x.dev == y.dev) = true := by rw [e8]; simp
 by_cases e9 : x.mode = y.mode
 case neg =>
  have q9 : (x.mode == y.mode) = false := beq_eq_false_iff_ne.2 e9
  have HE := Lib.hid (show b = false from bool_false HB.out (fun e => e9 (congrArg Sg.mode e)))
  clear e0 e1 e2 e3 e4 e5 e6 e7 e8 e9
  go_enter Tryd.func94, Tryd.ntmps94
  go_wp2_with fail
  refine (HS0T.out _ (HBEL.out _ _)).mono ?_
  rintro e w0 ⟨rfl, hb0⟩
  have HB0 := Lib.hid ((HBEL.out (.cells (sgX x A0 c0 A1 c1) 58) (.cells (sgX y B0 d0 B1 d1) 58)).next hb0)
  have HZ0 := Lib.hid hb0
  obtain ⟨f0, f1, f2, f3, f4, f5, f6, f7, f8, f9, f10⟩ := eleven (HX.out _ HZ0.out)
  obtain ⟨g0, g1, g2, g3, g4, g5, g6, g7, g8, g9, g10⟩ := eleven (HY.out _ HZ0.out)
  clear hb0
  go_wp2_with fail
  refine (HS1T.out _ HB0.out).mono ?_
  rintro e w1 ⟨rfl, hb1⟩
  have HB1 := Lib.hid (HB0.out.next hb1)
  have HZ1 := Lib.hid (HZ0.out.next hb1)
  clear f0 f1 f2 f3 f4 f5 f6 f7 f8 f9 f10 g0 g1 g2 g3 g4 g5 g6 g7 g8 g9 g10
  obtain ⟨f0, f1, f2, f3, f4, f5, f6, f7, f8, f9, f10⟩ := eleven (HX.out _ HZ1.out)
  obtain ⟨g0, g1, g2, g3, g4, g5, g6, g7, g8, g9, g10⟩ := eleven (HY.out _ HZ1.out)
  clear hb1
  go_wp2_with fail
  go_ret
  exact ⟨by rw [HE.out]; rfl, HB1.out⟩
 have q9 : (x.mode == y.mode) = true := by rw [e9]; simp
 by_cases e10 : x.done = y.done
 case neg =>
  have q10 : (x.done == y.done) = false := beq_eq_false_iff_ne.2 e10
  have HE := Lib.hid (show b = false from bool_false HB.out (fun e => e10 (congrArg Sg.done e)))
  clear e0 e1 e2 e3 e4 e5 e6 e7 e8 e9 e10
  go_enter Tryd.func94, Tryd.ntmps94
  go_wp2_with fail
  refine (HS0T.out _ (HBEL.out _ _)).mono ?_
  rintro e w0 ⟨rfl, hb0⟩
  have HB0 := Lib.hid ((HBEL.out (.cells (sgX x A0 c0 A1 c1) 58) (.cells (sgX y B0 d0 B1 d1) 58)).next hb0)
  have HZ0 := Lib.hid hb0
  obtain ⟨f0, f1, f2, f3, f4, f5, f6, f7, f8, f9, f10⟩ := eleven (HX.out _ HZ0.out)
  obtain ⟨g0, g1, g2, g3, g4, g5, g6, g7, g8, g9, g10⟩ := eleven (HY.out _ HZ0.out)
  clear hb0
  go_wp2_with fail
  refine (HS1T.out _ HB0.out).mono ?_
  rintro e w1 ⟨rfl, hb1⟩
  have HB1 := Lib.hid (HB0.out.next hb1)
  have HZ1 := Lib.hid (HZ0.out.next hb1)
  clear f0 f1 f2 f3 f4 f5 f6 f7 f8 f9 f10 g0 g1 g2 g3 g4 g5 g6 g7 g8 g9 g10
  obtain ⟨f0, f1, f2, f3, f4, f5, f6, f7, f8, f9, f10⟩ := eleven (HX.out _ HZ1.out)
  obtain ⟨g0, g1, g2, g3, g4, g5, g6, g7, g8, g9, g10⟩ := eleven (HY.out _ HZ1.out)
  clear hb1
  go_wp2_with fail
  go_ret
  exact ⟨by rw [HE.out]; rfl, HB1.out⟩
 have q10 : (x.done == y.done) = true := by rw [e10]; simp
 have HE := Lib.hid (show b = true from HB.out.2 (Sg.eqs e0 e1 e2 e3 e4 e5 e6 e7 e8 e9 e10))
 clear e0 e1 e2 e3 e4 e5 e6 e7 e8 e9 e10
 go_enter Tryd.func94, Tryd.ntmps94
 go_wp2_with fail
 refine (HS0T.out _ (HBEL.out _ _)).mono ?_
 rintro e w0 ⟨rfl, hb0⟩
 have HB0 := Lib.hid ((HBEL.out (.cells (sgX x A0 c0 A1 c1) 58) (.cells (sgX y B0 d0 B1 d1) 58)).next hb0)
 have HZ0 := Lib.hid hb0
 obtain ⟨f0, f1, f2, f3, f4, f5, f6, f7, f8, f9, f10⟩ := eleven (HX.out _ HZ0.out)
 obtain ⟨g0, g1, g2, g3, g4, g5, g6, g7, g8, g9, g10⟩ := eleven (HY.out _ HZ0.out)
 clear hb0
 go_wp2_with fail
 refine (HS1T.out _ HB0.out).mono ?_
 rintro e w1 ⟨rfl, hb1⟩
 have HB1 := Lib.hid (HB0.out.next hb1)
 have HZ1 := Lib.hid (HZ0.out.next hb1)
 clear f0 f1 f2 f3 f4 f5 f6 f7 f8 f9 f10 g0 g1 g2 g3 g4 g5 g6 g7 g8 g9 g10
 obtain ⟨f0, f1, f2, f3, f4, f5, f6, f7, f8, f9, f10⟩ := eleven (HX.out _ HZ1.out)
 obtain ⟨g0, g1, g2, g3, g4, g5, g6, g7, g8, g9, g10⟩ := eleven (HY.out _ HZ1.out)
 clear hb1
 go_wp2_with fail
 go_ret
 exact ⟨by rw [HE.out]; rfl, HB1.out⟩
set_option maxHeartbeats 4000000 in
theorem efSg_any {w : World} {S S' : Nat → Prop} {A A' : Option Addr} {c c' : Nat} {l m : List Sg} (hl : SL w S (.slice A l.length c) l) (hm : SL w S' (.slice A' m.length c') m) (sl : ∀ x ∈ l, SmSg x) (sm : ∀ x ∈ m, SmSg x) {b : Bool} (hb : b = true ↔ l = m) (bl : l.length < 4611686018427387904) (_bm : m.length < 4611686018427387904) :
  Calls Tryd.prog 93 #[.slice A l.length c, .slice A' m.length c', .func (.func 94) #[] #[]] w (Ret (.bool b) w) := by
 have HL := Lib.hid hl
 have HM := Lib.hid hm
 have HB := Lib.hid hb
 have HSL := Lib.hid sl
 have HSM := Lib.hid sm
 clear hl hm hb sl sm
 by_cases hlen : l.length = m.length
 ·have q : ((l.length : Int) != (m.length : Int)) = false := by simp [hlen]
  have HLEN := Lib.hid hlen
  clear hlen
  go_enter Tryd.func93, Tryd.ntmps93
  go_wp2_with fail
  go_loopw [17] (fun v wr => ∃ k : Nat, k ≤ l.length ∧ v = .int .i64 (k : Int) ∧ l.take k = m.take k ∧ Bel w wr) (fun v _ => l.length - (intOf v).toNat)
  case atStart => exact ⟨0, by omega, rfl, by simp, Below.refl _ _⟩
  case round =>
   obtain ⟨k, hk, rfl, hx, hbw⟩ := hrel
   have HX := Lib.hid hx
   have HW := Lib.hid hbw
   clear hx hbw
   by_cases hlt : k < l.length
   ·have j0 : (k : Int) < (l.length : Int) := by omega
    have j1 : (0 : Int) ≤ (k : Int) := by omega
    have j2 : (k : Int) < (m.length : Int) := by have := HLEN.out; omega
    obtain ⟨ad, x, rfl, hx, _, had, v0, v1, h6, r0, r1⟩ := (HL.out.up HW.out).at_ hlt
    obtain ⟨ad', y, rfl, hy, _, had', u0, u1, h6', t0, t1⟩ := (HM.out.up HW.out).at_ (k := k) (by have := HLEN.out; omega)
    obtain ⟨V0, z0, rfl⟩ := r0.form
    obtain ⟨U0, y0, rfl⟩ := t0.form
    obtain ⟨V1, z1, rfl⟩ := r1.form
    obtain ⟨U1, y1, rfl⟩ := t1.form
    have HXX := Lib.hid hx
    have HYY := Lib.hid hy
    obtain ⟨bx, hbx⟩ : ∃ bx : Bool, bx = true ↔ x = y := ⟨@decide _ (Classical.propDecidable _), @decide_eq_true_iff _ (Classical.propDecidable _)⟩
    have HC := Lib.hid (fun (w' : World) (hw : Bel wr w') => show Calls Tryd.prog 94 #[.agg (sgA x (.slice V0 x.areas.length z0) (.slice V1 x.stale.length z1)), .agg (sgA y (.slice U0 y.areas.length y0) (.slice U1 y.stale.length y1))] w' (fun e w2 => e = .returned (.bool bx) ∧ Bel w w2) from (sameSg_any (AL.up r0 hw) (AL.up t0 hw) (IL.up r1 hw) (IL.up t1 hw) (HSL.out x (List.mem_of_getElem? hx)) (HSM.out y (List.mem_of_getElem? hy)) hbx).mono fun _ _ h => ⟨h.1, (HW.out.next hw).next h.2⟩)
    have HBX := Lib.hid hbx
    obtain ⟨p0, p1, p2, p3, p4, p5, p6, p7, p8, p9, p10⟩ := h6
    obtain ⟨q0, q1, q2, q3, q4, q5, q6, q7, q8, q9, q10⟩ := h6'
    have had2 : (ad.add (k * 11)).block < wr.heap.size := by rw [block_of_add]; exact had
    have had3 : (ad'.add (k * 11)).block < wr.heap.size := by rw [block_of_add]; exact had'
    unfold sgA at HC
    clear hx hy r0 t0 r1 t1 hbx
    go_wp2_with fail
    refine (HC.out _ (by first | exact Below.refl _ _ | exact ((Below.refl _ _).al _) | exact (((Below.refl _ _).al _).al _))).mono ?_
    rintro e w5 ⟨rfl, hb5⟩
    have HB5 := Lib.hid hb5
    clear hb5 p0 q0 p1 q1 p2 q2 p3 q3 p4 q4 p5 q5 p6 q6 p7 q7 p8 q8 p9 q9 p10 q10 HC
    cases bx with
    | false =>
     have HE := Lib.hid (show b = false from bool_false HB.out (fun e => by
      have h1 := HXX.out
      rw [e, HYY.out] at h1
      injection h1 with h1
      have := HBX.out.2 h1.symm
      cases this))
     go_wp2_with fail
     go_ret
     exact ⟨by rw [HE.out]; rfl, HB5.out⟩
    | true =>
     have HN := Lib.hid (take_eq_next HX.out HXX.out (by rw [HBX.out.1 rfl]; exact HYY.out))
     go_wp2_with fail
     go_roundw
     case rel => exact ⟨k + 1, by omega, by go_num, HN.out, HB5.out⟩
     case measure => simp [intOf]; omega
   ·obtain rfl : k = l.length := by omega
    have HE := Lib.hid (show b = true from HB.out.2 (by have := HX.out; rw [List.take_length, HLEN.out, List.take_length] at this; exact this))
    go_wp2_with fail
    go_ret
    exact ⟨by rw [HE.out]; rfl, HW.out⟩
 ·have q : ((l.length : Int) != (m.length : Int)) = true := by simp; omega
  have HE := Lib.hid (show b = false from bool_false HB.out (fun e => hlen (congrArg List.length e)))
  go_enter Tryd.func93, Tryd.ntmps93
  go_wp2_with fail
  go_ret
  exact ⟨by rw [HE.out]; rfl, Below.refl _ _⟩
/-- its lists fit -/
def SmVo (x : Vo) : Prop := x.tags.length < 4611686018427387904 ∧ x.segs.length < 4611686018427387904 ∧ (∀ y ∈ x.segs, SmSg y)
theorem Vo.eqs {x y : Vo} (h0 : x.name = y.name) (h1 : x.id = y.id) (h2 : x.hid = y.hid) (h3 : x.ro = y.ro) (h4 : x.tags = y.tags) (h5 : x.segs = y.segs) : x = y := by
 obtain ⟨a0, a1, a2, a3, a4, a5⟩ := x
 obtain ⟨b0, b1, b2, b3, b4, b5⟩ := y
 dsimp only at *
 subst_vars
 rfl
set_option maxHeartbeats 8000000 in
theorem sameVo_any {w : World} {S S' : Nat → Prop} {x y : Vo} {v0 u0 : Value} {v1 u1 : Value} (h0 : TL w S v0 x.tags) (k0 : TL w S' u0 y.tags) (h1 : SL w S v1 x.segs) (k1 : SL w S' u1 y.segs) (sx : SmVo x) (sy : SmVo y) {b : Bool} (hb : b = true ↔ x = y) :
  Calls Tryd.prog 50 #[.agg (voA x v0 v1), .agg (voA y u0 u1)] w (Ret (.bool b) w) := by
 unfold SmVo at sx sy
 obtain ⟨A0, c0, rfl⟩ := h0.form
 obtain ⟨B0, d0, rfl⟩ := k0.form
 have HL0 := Lib.hid h0
 have HK0 := Lib.hid k0
 obtain ⟨A1, c1, rfl⟩ := h1.form
 obtain ⟨B1, d1, rfl⟩ := k1.form
 have HL1 := Lib.hid h1
 have HK1 := Lib.hid k1
 have HS0 := Lib.hid (fun (b' : Bool) (hb' : b' = true ↔ x.tags = y.tags) (w' : World) (hw : Bel w w') => sequalT_any (HL0.out.up hw) (HK0.out.up hw) hb' sx.1 sy.1)
 have HS1 := Lib.hid (fun (b' : Bool) (hb' : b' = true ↔ x.segs = y.segs) (w' : World) (hw : Bel w w') => efSg_any (HL1.out.up hw) (HK1.out.up hw) sx.2.2 sy.2.2 hb' sx.2.1 sy.2.1)
 have HB := Lib.hid hb
 have HBEL := Lib.hid (fun o1 o2 : Obj => show Bel w ((w.alloc o1).alloc o2) from ((Below.refl _ _).al _).al _)
 have HX := Lib.hid (show ∀ w', Bel ((w.alloc (.cells (voX x A0 c0 A1 c1) 53)).alloc (.cells (voX y B0 d0 B1 d1) 53)) w' → Blk w' w.heap.size 53 (voX x A0 c0 A1 c1) from fun w' hb => ((Blk.new w 53 (voX x A0 c0 A1 c1)).alloc (.cells (voX y B0 d0 B1 d1) 53)).below hb ((Blk.new w 53 (voX x A0 c0 A1 c1)).alloc (.cells (voX y B0 d0 B1 d1) 53)).lt)
 have hby := Blk.new (w.alloc (.cells (voX x A0 c0 A1 c1) 53)) 53 (voX y B0 d0 B1 d1)
 rw [show (w.alloc (.cells (voX x A0 c0 A1 c1) 53)).heap.size = w.heap.size + 1 by simp] at hby
 have HY := Lib.hid (show ∀ w', Bel ((w.alloc (.cells (voX x A0 c0 A1 c1) 53)).alloc (.cells (voX y B0 d0 B1 d1) 53)) w' → Blk w' (w.heap.size + 1) 53 (voX y B0 d0 B1 d1) from fun w' hb => hby.below hb hby.lt)
 unfold voA
 clear h0 k0 h1 k1 hb hby sx sy
 by_cases e0 : x.name = y.name
 case neg =>
  have q0 : (x.name.toList == y.name.toList) = false := by rw [bytes_beq, decide_eq_false e0]
  have HE := Lib.hid (show b = false from bool_false HB.out (fun e => e0 (congrArg Vo.name e)))
  clear e0
  go_enter Tryd.func50, Tryd.ntmps50
  go_wp2_with fail
  go_ret
  exact ⟨by rw [HE.out]; rfl, HBEL.out _ _⟩
 have q0 : (x.name.toList == y.name.toList) = true := by rw [e0]; simp
 by_cases e1 : x.id = y.id
 case neg =>
  have q1 : (x.id == y.id) = false := beq_eq_false_iff_ne.2 e1
  have HE := Lib.hid (show b = false from bool_false HB.out (fun e => e1 (congrArg Vo.id e)))
  clear e0 e1
  go_enter Tryd.func50, Tryd.ntmps50
  go_wp2_with fail
  go_ret
  exact ⟨by rw [HE.out]; rfl, HBEL.out _ _⟩
 have q1 : (x.id == y.id) = true := by rw [e1]; simp
 by_cases e2 : x.hid = y.hid
 case neg =>
  have q2 : (x.hid == y.hid) = false := beq_eq_false_iff_ne.2 e2
  have HE := Lib.hid (show b = false from bool_false HB.out (fun e => e2 (congrArg Vo.hid e)))
  clear e0 e1 e2
  go_enter Tryd.func50, Tryd.ntmps50
  go_wp2_with fail
  go_ret
  exact ⟨by rw [HE.out]; rfl, HBEL.out _ _⟩
 have q2 : (x.hid == y.hid) = true := by rw [e2]; simp
 by_cases e3 : x.ro = y.ro
 case neg =>
  have q3 : (x.ro == y.ro) = false := beq_eq_false_iff_ne.2 e3
  have HE := Lib.hid (show b = false from bool_false HB.out (fun e => e3 (congrArg Vo.ro e)))
  clear e0 e1 e2 e3
  go_enter Tryd.func50, Tryd.ntmps50
  go_wp2_with fail
  go_ret
  exact ⟨by rw [HE.out]; rfl, HBEL.out _ _⟩
 have q3 : (x.ro == y.ro) = true := by rw [e3]; simp
 by_cases e4 : x.tags = y.tags
 case neg =>
  have HS0F := Lib.hid (fun w' hw => HS0.out false ⟨fun h => absurd h (by decide), fun h => absurd h e4⟩ w' hw)
  have HE := Lib.hid (show b = false from bool_false HB.out (fun e => e4 (congrArg Vo.tags e)))
  clear e0 e1 e2 e3 e4
  go_enter Tryd.func50, Tryd.ntmps50
  go_wp2_with fail
  refine (HS0F.out _ (HBEL.out _ _)).mono ?_
  rintro e w0 ⟨rfl, hb0⟩
  have HB0 := Lib.hid ((HBEL.out (.cells (voX x A0 c0 A1 c1) 53) (.cells (voX y B0 d0 B1 d1) 53)).next hb0)
  have HZ0 := Lib.hid hb0
  obtain ⟨f0, f1, f2, f3, f4, f5⟩ := six6 (HX.out _ HZ0.out)
  obtain ⟨g0, g1, g2, g3, g4, g5⟩ := six6 (HY.out _ HZ0.out)
  clear hb0
  go_wp2_with fail
  go_ret
  exact ⟨by rw [HE.out]; rfl, HB0.out⟩
 have HS0T := Lib.hid (fun w' hw => HS0.out true ⟨fun _ => e4, fun _ => rfl⟩ w' hw)
 by_cases e5 : x.segs = y.segs
 case neg =>
  have HS1F := Lib.hid (fun w' hw => HS1.out false ⟨fun h => absurd h (by decide), fun h => absurd h e5⟩ w' hw)
  have HE := Lib.hid (show b = false from bool_false HB.out (fun e => e5 (congrArg Vo.segs e)))
  clear e0 e1 e2 e3 e4 e5
  go_enter Tryd.func50, Tryd.ntmps50
  go_wp2_with fail
  refine (HS0T.out _ (HBEL.out _ _)).mono ?_
  rintro e w0 ⟨rfl, hb0⟩
  have HB0 := Lib.hid ((HBEL.out (.cells (voX x A0 c0 A1 c1) 53) (.cells (voX y B0 d0 B1 d1) 53)).next hb0)
  have HZ0 := Lib.hid hb0
  obtain ⟨f0, f1, f2, f3, f4, f5⟩ := six6 (HX.out _ HZ0.out)
  obtain ⟨g0, g1, g2, g3, g4, g5⟩ := six6 (HY.out _ HZ0.out)
  clear hb0
  go_wp2_with fail
  refine (HS1F.out _ HB0.out).mono ?_
  rintro e w1 ⟨rfl, hb1⟩
  have HB1 := Lib.hid (HB0.out.next hb1)
  have HZ1 := Lib.hid (HZ0.out.next hb1)
  clear f0 f1 f2 f3 f4 f5 g0 g1 g2 g3 g4 g5
  obtain ⟨f0, f1, f2, f3, f4, f5⟩ := six6 (HX.out _ HZ1.out)
  obtain ⟨g0, g1, g2, g3, g4, g5⟩ := six6 (HY.out _ HZ1.out)
  clear hb1
  go_wp2_with fail
  go_ret
  exact ⟨by rw [HE.out]; rfl, HB1.out⟩
 have HS1T := Lib.hid (fun w' hw => HS1.out true ⟨fun _ => e5, fun _ => rfl⟩ w' hw)
 have HE := Lib.hid (show b = true from HB.out.2 (Vo.eqs e0 e1 e2 e3 e4 e5))
 clear e0 e1 e2 e3 e4 e5
 go_enter Tryd.func50, Tryd.ntmps50
 go_wp2_with fail
 refine (HS0T.out _ (HBEL.out _ _)).mono ?_
 rintro e w0 ⟨rfl, hb0⟩
 have HB0 := Lib.hid ((HBEL.out (.cells (voX x A0 c0 A1 c1) 53) (.cells (voX y B0 d0 B1 d1) 53)).next hb0)
 have HZ0 := Lib.hid hb0
 obtain ⟨f0, f1, f2, f3, f4, f5⟩ := six6 (HX.out _ HZ0.out)
 obtain ⟨g0, g1, g2, g3, g4, g5⟩ := six6 (HY.out _ HZ0.out)
 clear hb0
 go_wp2_with fail
 refine (HS1T.out _ HB0.out).mono ?_
 rintro e w1 ⟨rfl, hb1⟩
 have HB1 := Lib.hid (HB0.out.next hb1)
 have HZ1 := Lib.hid (HZ0.out.next hb1)
 clear f0 f1 f2 f3 f4 f5 g0 g1 g2 g3 g4 g5
 obtain ⟨f0, f1, f2, f3, f4, f5⟩ := six6 (HX.out _ HZ1.out)
 obtain ⟨g0, g1, g2, g3, g4, g5⟩ := six6 (HY.out _ HZ1.out)
 clear hb1
 go_wp2_with fail
 go_ret
 exact ⟨by rw [HE.out]; rfl, HB1.out⟩
set_option maxHeartbeats 4000000 in
theorem efVo_any {w : World} {S S' : Nat → Prop} {A A' : Option Addr} {c c' : Nat} {l m : List Vo} (hl : VL w S (.slice A l.length c) l) (hm : VL w S' (.slice A' m.length c') m) (sl : ∀ x ∈ l, SmVo x) (sm : ∀ x ∈ m, SmVo x) {b : Bool} (hb : b = true ↔ l = m) (bl : l.length < 4611686018427387904) (_bm : m.length < 4611686018427387904) :
  Calls Tryd.prog 49 #[.slice A l.length c, .slice A' m.length c', .func (.func 50) #[] #[]] w (Ret (.bool b) w) := by
 have HL := Lib.hid hl
 have HM := Lib.hid hm
 have HB := Lib.hid hb
 have HSL := Lib.hid sl
 have HSM := Lib.hid sm
 clear hl hm hb sl sm
 by_cases hlen : l.length = m.length
 ·have q : ((l.length : Int) != (m.length : Int)) = false := by simp [hlen]
  have HLEN := Lib.hid hlen
  clear hlen
  go_enter Tryd.func49, Tryd.ntmps49
  go_wp2_with fail
  go_loopw [17] (fun v wr => ∃ k : Nat, k ≤ l.length ∧ v = .int .i64 (k : Int) ∧ l.take k = m.take k ∧ Bel w wr) (fun v _ => l.length - (intOf v).toNat)
  case atStart => exact ⟨0, by omega, rfl, by simp, Below.refl _ _⟩
  case round =>
   obtain ⟨k, hk, rfl, hx, hbw⟩ := hrel
   have HX := Lib.hid hx
   have HW := Lib.hid hbw
   clear hx hbw
   by_cases hlt : k < l.length
   ·have j0 : (k : Int) < (l.length : Int) := by omega
    have j1 : (0 : Int) ≤ (k : Int) := by omega
    have j2 : (k : Int) < (m.length : Int) := by have := HLEN.out; omega
    obtain ⟨ad, x, rfl, hx, _, had, v0, v1, h6, r0, r1⟩ := (HL.out.up HW.out).at_ hlt
    obtain ⟨ad', y, rfl, hy, _, had', u0, u1, h6', t0, t1⟩ := (HM.out.up HW.out).at_ (k := k) (by have := HLEN.out; omega)
    obtain ⟨V0, z0, rfl⟩ := r0.form
    obtain ⟨U0, y0, rfl⟩ := t0.form
    obtain ⟨V1, z1, rfl⟩ := r1.form
    obtain ⟨U1, y1, rfl⟩ := t1.form
    have HXX := Lib.hid hx
    have HYY := Lib.hid hy
    obtain ⟨bx, hbx⟩ : ∃ bx : Bool, bx = true ↔ x = y := ⟨@decide _ (Classical.propDecidable _), @decide_eq_true_iff _ (Classical.propDecidable _)⟩
    have HC := Lib.hid (fun (w' : World) (hw : Bel wr w') => show Calls Tryd.prog 50 #[.agg (voA x (.slice V0 x.tags.length z0) (.slice V1 x.segs.length z1)), .agg (voA y (.slice U0 y.tags.length y0) (.slice U1 y.segs.length y1))] w' (fun e w2 => e = .returned (.bool bx) ∧ Bel w w2) from (sameVo_any (TL.up r0 hw) (TL.up t0 hw) (SL.up r1 hw) (SL.up t1 hw) (HSL.out x (List.mem_of_getElem? hx)) (HSM.out y (List.mem_of_getElem? hy)) hbx).mono fun _ _ h => ⟨h.1, (HW.out.next hw).next h.2⟩)
    have HBX := Lib.hid hbx
    obtain ⟨p0, p1, p2, p3, p4, p5⟩ := h6
    obtain ⟨q0, q1, q2, q3, q4, q5⟩ := h6'
    have had2 : (ad.add (k * 6)).block < wr.heap.size := by rw [block_of_add]; exact had
    have had3 : (ad'.add (k * 6)).block < wr.heap.size := by rw [block_of_add]; exact had'
    unfold voA at HC
    clear hx hy r0 t0 r1 t1 hbx
    go_wp2_with fail
    refine (HC.out _ (by first | exact Below.refl _ _ | exact ((Below.refl _ _).al _) | exact (((Below.refl _ _).al _).al _))).mono ?_
    rintro e w5 ⟨rfl, hb5⟩
    have HB5 := Lib.hid hb5
    clear hb5 p0 q0 p1 q1 p2 q2 p3 q3 p4 q4 p5 q5 HC
    cases bx with
    | false =>
     have HE := Lib.hid (show b = false from bool_false HB.out (fun e => by
      have h1 := HXX.out
      rw [e, HYY.out] at h1
      injection h1 with h1
      have := HBX.out.2 h1.symm
      cases this))
     go_wp2_with fail
     go_ret
     exact ⟨by rw [HE.out]; rfl, HB5.out⟩
    | true =>
     have HN := Lib.hid (take_eq_next HX.out HXX.out (by rw [HBX.out.1 rfl]; exact HYY.out))
     go_wp2_with fail
     go_roundw
     case rel => exact ⟨k + 1, by omega, by go_num, HN.out, HB5.out⟩
     case measure => simp [intOf]; omega
   ·obtain rfl : k = l.length := by omega
    have HE := Lib.hid (show b = true from HB.out.2 (by have := HX.out; rw [List.take_length, HLEN.out, List.take_length] at this; exact this))
    go_wp2_with fail
    go_ret
    exact ⟨by rw [HE.out]; rfl, HW.out⟩
 ·have q : ((l.length : Int) != (m.length : Int)) = true := by simp; omega
  have HE := Lib.hid (show b = false from bool_false HB.out (fun e => hlen (congrArg List.length e)))
  go_enter Tryd.func49, Tryd.ntmps49
  go_wp2_with fail
  go_ret
  exact ⟨by rw [HE.out]; rfl, Below.refl _ _⟩
/-- its lists fit -/
def SmDk (x : Dk) : Prop := x.tags.length < 4611686018427387904
theorem Dk.eqs {x y : Dk} (h0 : x.name = y.name) (h1 : x.id = y.id) (h2 : x.first = y.first) (h3 : x.ext = y.ext) (h4 : x.closed = y.closed) (h5 : x.missing = y.missing) (h6 : x.tags = y.tags) : x = y := by
 obtain ⟨a0, a1, a2, a3, a4, a5, a6⟩ := x
 obtain ⟨b0, b1, b2, b3, b4, b5, b6⟩ := y
 dsimp only at *
 subst_vars
 rfl
set_option maxHeartbeats 8000000 in
theorem sameDk_any {w : World} {S S' : Nat → Prop} {x y : Dk} {v0 u0 : Value} (h0 : TL w S v0 x.tags) (k0 : TL w S' u0 y.tags) (sx : SmDk x) (sy : SmDk y) {b : Bool} (hb : b = true ↔ x = y) :
  Calls Tryd.prog 48 #[.agg (dkA x v0), .agg (dkA y u0)] w (Ret (.bool b) w) := by
 unfold SmDk at sx sy
 obtain ⟨A0, c0, rfl⟩ := h0.form
 obtain ⟨B0, d0, rfl⟩ := k0.form
 have HL0 := Lib.hid h0
 have HK0 := Lib.hid k0
 have HS0 := Lib.hid (fun (b' : Bool) (hb' : b' = true ↔ x.tags = y.tags) (w' : World) (hw : Bel w w') => sequalT_any (HL0.out.up hw) (HK0.out.up hw) hb' sx sy)
 have HB := Lib.hid hb
 have HBEL := Lib.hid (fun o1 o2 : Obj => show Bel w ((w.alloc o1).alloc o2) from ((Below.refl _ _).al _).al _)
 have HX := Lib.hid (show ∀ w', Bel ((w.alloc (.cells (dkX x A0 c0) 46)).alloc (.cells (dkX y B0 d0) 46)) w' → Blk w' w.heap.size 46 (dkX x A0 c0) from fun w' hb => ((Blk.new w 46 (dkX x A0 c0)).alloc (.cells (dkX y B0 d0) 46)).below hb ((Blk.new w 46 (dkX x A0 c0)).alloc (.cells (dkX y B0 d0) 46)).lt)
 have hby := Blk.new (w.alloc (.cells (dkX x A0 c0) 46)) 46 (dkX y B0 d0)
 rw [show (w.alloc (.cells (dkX x A0 c0) 46)).heap.size = w.heap.size + 1 by simp] at hby
 have HY := Lib.hid (show ∀ w', Bel ((w.alloc (.cells (dkX x A0 c0) 46)).alloc (.cells (dkX y B0 d0) 46)) w' → Blk w' (w.heap.size + 1) 46 (dkX y B0 d0) from fun w' hb => hby.below hb hby.lt)
 unfold dkA
 clear h0 k0 hb hby sx sy
 by_cases e0 : x.name = y.name
 case neg =>
  have q0 : (x.name.toList == y.name.toList) = false := by rw [bytes_beq, decide_eq_false e0]
  have HE := Lib.hid (show b = false from bool_false HB.out (fun e => e0 (congrArg Dk.name e)))
  clear e0
  go_enter Tryd.func48, Tryd.ntmps48
  go_wp2_with fail
  go_ret
  exact ⟨by rw [HE.out]; rfl, HBEL.out _ _⟩
 have q0 : (x.name.toList == y.name.toList) = true := by rw [e0]; simp
 by_cases e1 : x.id = y.id
 case neg =>
  have q1 : (x.id == y.id) = false := beq_eq_false_iff_ne.2 e1
  have HE := Lib.hid (show b = false from bool_false HB.out (fun e => e1 (congrArg Dk.id e)))
  clear e0 e1
  go_enter Tryd.func48, Tryd.ntmps48
  go_wp2_with fail
  go_ret
  exact ⟨by rw [HE.out]; rfl, HBEL.out _ _⟩
 have q1 : (x.id == y.id) = true := by rw [e1]; simp
 by_cases e2 : x.first = y.first
 case neg =>
  have q2 : (x.first == y.first) = false := beq_eq_false_iff_ne.2 e2
  have HE := Lib.hid (show b = false from bool_false HB.out (fun e => e2 (congrArg Dk.first e)))
  clear e0 e1 e2
  go_enter Tryd.func48, Tryd.ntmps48
  go_wp2_with fail
  go_ret
  exact ⟨by rw [HE.out]; rfl, HBEL.out _ _⟩
 have q2 : (x.first == y.first) = true := by rw [e2]; simp
 by_cases e3 : x.ext = y.ext
 case neg =>
  have q3 : (x.ext == y.ext) = false := beq_eq_false_iff_ne.2 e3
  have HE := Lib.hid (show b = false from bool_false HB.out (fun e => e3 (congrArg Dk.ext e)))
  clear e0 e1 e2 e3
  go_enter Tryd.func48, Tryd.ntmps48
  go_wp2_with fail
  go_ret
  exact ⟨by rw [HE.out]; rfl, HBEL.out _ _⟩
 have q3 : (x.ext == y.ext) = true := by rw [e3]; simp
 by_cases e4 : x.closed = y.closed
 case neg =>
  have q4 : (x.closed == y.closed) = false := beq_eq_false_iff_ne.2 e4
  have HE := Lib.hid (show b = false from bool_false HB.out (fun e => e4 (congrArg Dk.closed e)))
  clear e0 e1 e2 e3 e4
  go_enter Tryd.func48, Tryd.ntmps48
  go_wp2_with fail
  go_ret
  exact ⟨by rw [HE.out]; rfl, HBEL.out _ _⟩
 have q4 : (x.closed == y.closed) = true := by rw [e4]; simp
 by_cases e5 : x.missing = y.missing
 case neg =>
  have q5 : (x.missing == y.missing) = false := beq_eq_false_iff_ne.2 e5
  have HE := Lib.hid (show b = false from bool_false HB.out (fun e => e5 (congrArg Dk.missing e)))
  clear e0 e1 e2 e3 e4 e5
  go_enter Tryd.func48, Tryd.ntmps48
  go_wp2_with fail
  go_ret
  exact ⟨by rw [HE.out]; rfl, HBEL.out _ _⟩
 have q5 : (x.missing == y.missing) = true := by rw [e5]; simp
 by_cases e6 : x.tags = y.tags
 case neg =>
  have HS0F := Lib.hid (fun w' hw => HS0.out false ⟨fun h => absurd h (by decide), fun h => absurd h e6⟩ w' hw)
  have HE := Lib.hid (show b = false from bool_false HB.out (fun e => e6 (congrArg Dk.tags e)))
  clear e0 e1 e2 e3 e4 e5 e6
  go_enter Tryd.func48, Tryd.ntmps48
  go_wp2_with fail
  refine (HS0F.out _ (HBEL.out _ _)).mono ?_
  rintro e w0 ⟨rfl, hb0⟩
  have HB0 := Lib.hid ((HBEL.out (.cells (dkX x A0 c0) 46) (.cells (dkX y B0 d0) 46)).next hb0)
  have HZ0 := Lib.hid hb0
  obtain ⟨f0, f1, f2, f3, f4, f5, f6⟩ := seven7 (HX.out _ HZ0.out)
  obtain ⟨g0, g1, g2, g3, g4, g5, g6⟩ := seven7 (HY.out _ HZ0.out)
  clear hb0
  go_wp2_with fail
  go_ret
  exact ⟨by rw [HE.out]; rfl, HB0.out⟩
 have HS0T := Lib.hid (fun w' hw => HS0.out true ⟨fun _ => e6, fun _ => rfl⟩ w' hw)
 have HE := Lib.hid (show b = true from HB.out.2 (Dk.eqs e0 e1 e2 e3 e4 e5 e6))
 clear e0 e1 e2 e3 e4 e5 e6
 go_enter Tryd.func48, Tryd.ntmps48
 go_wp2_with fail
 refine (HS0T.out _ (HBEL.out _ _)).mono ?_
 rintro e w0 ⟨rfl, hb0⟩
 have HB0 := Lib.hid ((HBEL.out (.cells (dkX x A0 c0) 46) (.cells (dkX y B0 d0) 46)).next hb0)
 have HZ0 := Lib.hid hb0
 obtain ⟨f0, f1, f2, f3, f4, f5, f6⟩ := seven7 (HX.out _ HZ0.out)
 obtain ⟨g0, g1, g2, g3, g4, g5, g6⟩ := seven7 (HY.out _ HZ0.out)
 clear hb0
 go_wp2_with fail
 go_ret
 exact ⟨by rw [HE.out]; rfl, HB0.out⟩
set_option maxHeartbeats 4000000 in
theorem efDk_any {w : World} {S S' : Nat → Prop} {A A' : Option Addr} {c c' : Nat} {l m : List Dk} (hl : DL w S (.slice A l.length c) l) (hm : DL w S' (.slice A' m.length c') m) (sl : ∀ x ∈ l, SmDk x) (sm : ∀ x ∈ m, SmDk x) {b : Bool} (hb : b = true ↔ l = m) (bl : l.length < 4611686018427387904) (_bm : m.length < 4611686018427387904) :
  Calls Tryd.prog 47 #[.slice A l.length c, .slice A' m.length c', .func (.func 48) #[] #[]] w (Ret (.bool b) w) := by
 have HL := Lib.hid hl
 have HM := Lib.hid hm
 have HB := Lib.hid hb
 have HSL := Lib.hid sl
 have HSM := Lib.hid sm
 clear hl hm hb sl sm
 by_cases hlen : l.length = m.length
 ·have q : ((l.length : Int) != (m.length : Int)) = false := by simp [hlen]
  have HLEN := Lib.hid hlen
  clear hlen
  go_enter Tryd.func47, Tryd.ntmps47
  go_wp2_with fail
  go_loopw [17] (fun v wr => ∃ k : Nat, k ≤ l.length ∧ v = .int .i64 (k : Int) ∧ l.take k = m.take k ∧ Bel w wr) (fun v _ => l.length - (intOf v).toNat)
  case atStart => exact ⟨0, by omega, rfl, by simp, Below.refl _ _⟩
  case round =>
   obtain ⟨k, hk, rfl, hx, hbw⟩ := hrel
   have HX := Lib.hid hx
   have HW := Lib.hid hbw
   clear hx hbw
   by_cases hlt : k < l.length
   ·have j0 : (k : Int) < (l.length : Int) := by omega
    have j1 : (0 : Int) ≤ (k : Int) := by omega
    have j2 : (k : Int) < (m.length : Int) := by have := HLEN.out; omega
    obtain ⟨ad, x, rfl, hx, _, had, v0, h6, r0⟩ := (HL.out.up HW.out).at_ hlt
    obtain ⟨ad', y, rfl, hy, _, had', u0, h6', t0⟩ := (HM.out.up HW.out).at_ (k := k) (by have := HLEN.out; omega)
    obtain ⟨V0, z0, rfl⟩ := r0.form
    obtain ⟨U0, y0, rfl⟩ := t0.form
    have HXX := Lib.hid hx
    have HYY := Lib.hid hy
    obtain ⟨bx, hbx⟩ : ∃ bx : Bool, bx = true ↔ x = y := ⟨@decide _ (Classical.propDecidable _), @decide_eq_true_iff _ (Classical.propDecidable _)⟩
    have HC := Lib.hid (fun (w' : World) (hw : Bel wr w') => show Calls Tryd.prog 48 #[.agg (dkA x (.slice V0 x.tags.length z0)), .agg (dkA y (.slice U0 y.tags.length y0))] w' (fun e w2 => e = .returned (.bool bx) ∧ Bel w w2) from (sameDk_any (TL.up r0 hw) (TL.up t0 hw) (HSL.out x (List.mem_of_getElem? hx)) (HSM.out y (List.mem_of_getElem? hy)) hbx).mono fun _ _ h => ⟨h.1, (HW.out.next hw).next h.2⟩)
    have HBX := Lib.hid hbx
    obtain ⟨p0, p1, p2, p3, p4, p5, p6⟩ := h6
    obtain ⟨q0, q1, q2, q3, q4, q5, q6⟩ := h6'
    have had2 : (ad.add (k * 7)).block < wr.heap.size := by rw [block_of_add]; exact had
    have had3 : (ad'.add (k * 7)).block < wr.heap.size := by rw [block_of_add]; exact had'
    unfold dkA at HC
    clear hx hy r0 t0 hbx
    go_wp2_with fail
    refine (HC.out _ (by first | exact Below.refl _ _ | exact ((Below.refl _ _).al _) | exact (((Below.refl _ _).al _).al _))).mono ?_
    rintro e w5 ⟨rfl, hb5⟩
    have HB5 := Lib.hid hb5
    clear hb5 p0 q0 p1 q1 p2 q2 p3 q3 p4 q4 p5 q5 p6 q6 HC
    cases bx with
    | false =>
     have HE := Lib.hid (show b = false from bool_false HB.out (fun e => by
      have h1 := HXX.out
      rw [e, HYY.out] at h1
      injection h1 with h1
      have := HBX.out.2 h1.symm
      cases this))
     go_wp2_with fail
     go_ret
     exact ⟨by rw [HE.out]; rfl, HB5.out⟩
    | true =>
     have HN := Lib.hid (take_eq_next HX.out HXX.out (by rw [HBX.out.1 rfl]; exact HYY.out))
     go_wp2_with fail
     go_roundw
     case rel => exact ⟨k + 1, by omega, by go_num, HN.out, HB5.out⟩
     case measure => simp [intOf]; omega
   ·obtain rfl : k = l.length := by omega
    have HE := Lib.hid (show b = true from HB.out.2 (by have := HX.out; rw [List.take_length, HLEN.out, List.take_length] at this; exact this))
    go_wp2_with fail
    go_ret
    exact ⟨by rw [HE.out]; rfl, HW.out⟩
 ·have q : ((l.length : Int) != (m.length : Int)) = true := by simp; omega
  have HE := Lib.hid (show b = false from bool_false HB.out (fun e => hlen (congrArg List.length e)))
  go_enter Tryd.func47, Tryd.ntmps47
  go_wp2_with fail
  go_ret
  exact ⟨by rw [HE.out]; rfl, Below.refl _ _⟩
/-- its lists fit -/
def SmGr (x : Gr) : Prop := x.tags.length < 4611686018427387904 ∧ x.disks.length < 4611686018427387904 ∧ x.vols.length < 4611686018427387904 ∧ x.hist.length < 4611686018427387904 ∧ (∀ y ∈ x.disks, SmDk y) ∧ (∀ y ∈ x.vols, SmVo y)
theorem Gr.eqs {x y : Gr} (h0 : x.name = y.name) (h1 : x.id = y.id) (h2 : x.seq = y.seq) (h3 : x.extent = y.extent) (h4 : x.next = y.next) (h5 : x.tags = y.tags) (h6 : x.disks = y.disks) (h7 : x.vols = y.vols) (h8 : x.hist = y.hist) : x = y := by
 obtain ⟨a0, a1, a2, a3, a4, a5, a6, a7, a8⟩ := x
 obtain ⟨b0, b1, b2, b3, b4, b5, b6, b7, b8⟩ := y
 dsimp only at *
 subst_vars
 rfl
set_option maxHeartbeats 8000000 in
theorem sameGr_any {w : World} {S S' : Nat → Prop} {x y : Gr} {v0 u0 : Value} {v1 u1 : Value} {v2 u2 : Value} {v3 u3 : Value} (h0 : TL w S v0 x.tags) (k0 : TL w S' u0 y.tags) (h1 : DL w S v1 x.disks) (k1 : DL w S' u1 y.disks) (h2 : VL w S v2 x.vols) (k2 : VL w S' u2 y.vols) (h3 : ML w S v3 x.hist) (k3 : ML w S' u3 y.hist) (sx : SmGr x) (sy : SmGr y) {b : Bool} (hb : b = true ↔ x = y) :
  Calls Tryd.prog 15 #[.agg (grA x v0 v1 v2 v3), .agg (grA y u0 u1 u2 u3)] w (Ret (.bool b) w) := by
 unfold SmGr at sx sy
 obtain ⟨A0, c0, rfl⟩ := h0.form
 obtain ⟨B0, d0, rfl⟩ := k0.form
 have HL0 := Lib.hid h0
 have HK0 := Lib.hid k0
 obtain ⟨A1, c1, rfl⟩ := h1.form
 obtain ⟨B1, d1, rfl⟩ := k1.form
 have HL1 := Lib.hid h1
 have HK1 := Lib.hid k1
 obtain ⟨A2, c2, rfl⟩ := h2.form
 obtain ⟨B2, d2, rfl⟩ := k2.form
 have HL2 := Lib.hid h2
 have HK2 := Lib.hid k2
 obtain ⟨A3, c3, rfl⟩ := h3.form
 obtain ⟨B3, d3, rfl⟩ := k3.form
 have HL3 := Lib.hid h3
 have HK3 := Lib.hid k3
 have HS0 := Lib.hid (fun (b' : Bool) (hb' : b' = true ↔ x.tags = y.tags) (w' : World) (hw : Bel w w') => sequalT_any (HL0.out.up hw) (HK0.out.up hw) hb' sx.1 sy.1)
 have HS1 := Lib.hid (fun (b' : Bool) (hb' : b' = true ↔ x.disks = y.disks) (w' : World) (hw : Bel w w') => efDk_any (HL1.out.up hw) (HK1.out.up hw) sx.2.2.2.2.1 sy.2.2.2.2.1 hb' sx.2.1 sy.2.1)
 have HS2 := Lib.hid (fun (b' : Bool) (hb' : b' = true ↔ x.vols = y.vols) (w' : World) (hw : Bel w w') => efVo_any (HL2.out.up hw) (HK2.out.up hw) sx.2.2.2.2.2 sy.2.2.2.2.2 hb' sx.2.2.1 sy.2.2.1)
 have HS3 := Lib.hid (fun (b' : Bool) (hb' : b' = true ↔ x.hist = y.hist) (w' : World) (hw : Bel w w') => sequalM_any (HL3.out.up hw) (HK3.out.up hw) hb' sx.2.2.2.1 sy.2.2.2.1)
 have HB := Lib.hid hb
 have HBEL := Lib.hid (fun o1 o2 : Obj => show Bel w ((w.alloc o1).alloc o2) from ((Below.refl _ _).al _).al _)
 have HX := Lib.hid (show ∀ w', Bel ((w.alloc (.cells (grX x A0 c0 A1 c1 A2 c2 A3 c3) 31)).alloc (.cells (grX y B0 d0 B1 d1 B2 d2 B3 d3) 31)) w' → Blk w' w.heap.size 31 (grX x A0 c0 A1 c1 A2 c2 A3 c3) from fun w' hb => ((Blk.new w 31 (grX x A0 c0 A1 c1 A2 c2 A3 c3)).alloc (.cells (grX y B0 d0 B1 d1 B2 d2 B3 d3) 31)).below hb ((Blk.new w 31 (grX x A0 c0 A1 c1 A2 c2 A3 c3)).alloc (.cells (grX y B0 d0 B1 d1 B2 d2 B3 d3) 31)).lt)
 have hby := Blk.new (w.alloc (.cells (grX x A0 c0 A1 c1 A2 c2 A3 c3) 31)) 31 (grX y B0 d0 B1 d1 B2 d2 B3 d3)
 rw [show (w.alloc (.cells (grX x A0 c0 A1 c1 A2 c2 A3 c3) 31)).heap.size = w.heap.size + 1 by simp] at hby
 have HY := Lib.hid (show ∀ w', Bel ((w.alloc (.cells (grX x A0 c0 A1 c1 A2 c2 A3 c3) 31)).alloc (.cells (grX y B0 d0 B1 d1 B2 d2 B3 d3) 31)) w' → Blk w' (w.heap.size + 1) 31 (grX y B0 d0 B1 d1 B2 d2 B3 d3) from fun w' hb => hby.below hb hby.lt)
 unfold grA
 clear h0 k0 h1 k1 h2 k2 h3 k3 hb hby sx sy
 by_cases e0 : x.name = y.name
 case neg =>
  have q0 : (x.name.toList == y.name.toList) = false := by rw [bytes_beq, decide_eq_false e0]
  have HE := Lib.hid (show b = false from bool_false HB.out (fun e => e0 (congrArg Gr.name e)))
  clear e0
  go_enter Tryd.func15, Tryd.ntmps15
  go_wp2_with fail
  go_ret
  exact ⟨by rw [HE.out]; rfl, HBEL.out _ _⟩
 have q0 : (x.name.toList == y.name.toList) = true := by rw [e0]; simp
 by_cases e1 : x.id = y.id
 case neg =>
  have q1 : (x.id == y.id) = false := beq_eq_false_iff_ne.2 e1
  have HE := Lib.hid (show b = false from bool_false HB.out (fun e => e1 (congrArg Gr.id e)))
  clear e0 e1
  go_enter Tryd.func15, Tryd.ntmps15
  go_wp2_with fail
  go_ret
  exact ⟨by rw [HE.out]; rfl, HBEL.out _ _⟩
 have q1 : (x.id == y.id) = true := by rw [e1]; simp
 by_cases e2 : x.seq = y.seq
 case neg =>
  have q2 : (x.seq == y.seq) = false := beq_eq_false_iff_ne.2 e2
  have HE := Lib.hid (show b = false from bool_false HB.out (fun e => e2 (congrArg Gr.seq e)))
  clear e0 e1 e2
  go_enter Tryd.func15, Tryd.ntmps15
  go_wp2_with fail
  go_ret
  exact ⟨by rw [HE.out]; rfl, HBEL.out _ _⟩
 have q2 : (x.seq == y.seq) = true := by rw [e2]; simp
 by_cases e3 : x.extent = y.extent
 case neg =>
  have q3 : (x.extent == y.extent) = false := beq_eq_false_iff_ne.2 e3
  have HE := Lib.hid (show b = false from bool_false HB.out (fun e => e3 (congrArg Gr.extent e)))
  clear e0 e1 e2 e3
  go_enter Tryd.func15, Tryd.ntmps15
  go_wp2_with fail
  go_ret
  exact ⟨by rw [HE.out]; rfl, HBEL.out _ _⟩
 have q3 : (x.extent == y.extent) = true := by rw [e3]; simp
 by_cases e4 : x.next = y.next
 case neg =>
  have q4 : (x.next == y.next) = false := beq_eq_false_iff_ne.2 e4
  have HE := Lib.hid (show b = false from bool_false HB.out (fun e => e4 (congrArg Gr.next e)))
  clear e0 e1 e2 e3 e4
  go_enter Tryd.func15, Tryd.ntmps15
  go_wp2_with fail
  go_ret
  exact ⟨by rw [HE.out]; rfl, HBEL.out _ _⟩
 have q4 : (x.next == y.next) = true := by rw [e4]; simp
 by_cases e5 : x.tags = y.tags
 case neg =>
  have HS0F := Lib.hid (fun w' hw => HS0.out false ⟨fun h => absurd h (by decide), fun h => absurd h e5⟩ w' hw)
  have HE := Lib.hid (show b = false from bool_false HB.out (fun e => e5 (congrArg Gr.tags e)))
  clear e0 e1 e2 e3 e4 e5
  go_enter Tryd.func15, Tryd.ntmps15
  go_wp2_with fail
  refine (HS0F.out _ (HBEL.out _ _)).mono ?_
  rintro e w0 ⟨rfl, hb0⟩
  have HB0 := Lib.hid ((HBEL.out (.cells (grX x A0 c0 A1 c1 A2 c2 A3 c3) 31) (.cells (grX y B0 d0 B1 d1 B2 d2 B3 d3) 31)).next hb0)
  have HZ0 := Lib.hid hb0
  obtain ⟨f0, f1, f2, f3, f4, f5, f6, f7, f8⟩ := nine99 (HX.out _ HZ0.out)
  obtain ⟨g0, g1, g2, g3, g4, g5, g6, g7, g8⟩ := nine99 (HY.out _ HZ0.out)
  clear hb0
  go_wp2_with fail
  go_ret
  exact ⟨by rw [HE.out]; rfl, HB0.out⟩
 have HS0T := Lib.hid (fun w' hw => HS0.out true ⟨fun _ => e5, fun _ => rfl⟩ w' hw)
 by_cases e6 : x.disks = y.disks
 case neg =>
  have HS1F := Lib.hid (fun w' hw => HS1.out false ⟨fun h => absurd h (by decide), fun h => absurd h e6⟩ w' hw)
  have HE := Lib.hid (show b = false from bool_false HB.out (fun e => e6 (congrArg Gr.disks e)))
  clear e0 e1 e2 e3 e4 e5 e6
  go_enter Tryd.func15, Tryd.ntmps15
  go_wp2_with fail
  refine (HS0T.out _ (HBEL.out _ _)).mono ?_
  rintro e w0 ⟨rfl, hb0⟩
  have HB0 := Lib.hid ((HBEL.out (.cells (grX x A0 c0 A1 c1 A2 c2 A3 c3) 31) (.cells (grX y B0 d0 B1 d1 B2 d2 B3 d3) 31)).next hb0)
  have HZ0 := Lib.hid hb0
  obtain ⟨f0, f1, f2, f3, f4, f5, f6, f7, f8⟩ := nine99 (HX.out _ HZ0.out)
  obtain ⟨g0, g1, g2, g3, g4, g5, g6, g7, g8⟩ := nine99 (HY.out _ HZ0.out)
  clear hb0
  go_wp2_with fail
  refine (HS1F.out _ HB0.out).mono ?_
  rintro e w1 ⟨rfl, hb1⟩
  have HB1 := Lib.hid (HB0.out.next hb1)
  have HZ1 := Lib.hid (HZ0.out.next hb1)
  clear f0 f1 f2 f3 f4 f5 f6 f7 f8 g0 g1 g2 g3 g4 g5 g6 g7 g8
  obtain ⟨f0, f1, f2, f3, f4, f5, f6, f7, f8⟩ := nine99 (HX.out _ HZ1.out)
  obtain ⟨g0, g1, g2, g3, g4, g5, g6, g7, g8⟩ := nine99 (HY.out _ HZ1.out)
  clear hb1
  go_wp2_with fail
  go_ret
  exact ⟨by rw [HE.out]; rfl, HB1.out⟩
 have HS1T := Lib.hid (fun w' hw => HS1.out true ⟨fun _ => e6, fun _ => rfl⟩ w' hw)
 by_cases e7 : x.vols = y.vols
 case neg =>
  have HS2F := Lib.hid (fun w' hw => HS2.out false ⟨fun h => absurd h (by decide), fun h => absurd h e7⟩ w' hw)
  have HE := Lib.hid (show b = false from bool_false HB.out (fun e => e7 (congrArg Gr.vols e)))
  clear e0 e1 e2 e3 e4 e5 e6 e7
  go_enter Tryd.func15, Tryd.ntmps15
  go_wp2_with fail
  refine (HS0T.out _ (HBEL.out _ _)).mono ?_
  rintro e w0 ⟨rfl, hb0⟩
  have HB0 := Lib.hid ((HBEL.out (.cells (grX x A0 c0 A1 c1 A2 c2 A3 c3) 31) (.cells (grX y B0 d0 B1 d1 B2 d2 B3 d3) 31)).next hb0)
  have HZ0 := Lib.hid hb0
  obtain ⟨f0, f1, f2, f3, f4, f5, f6, f7, f8⟩ := nine99 (HX.out _ HZ0.out)
  obtain ⟨g0, g1, g2, g3, g4, g5, g6, g7, g8⟩ := nine99 (HY.out _ HZ0.out)
  clear hb0
  go_wp2_with fail
  refine (HS1T.out _ HB0.out).mono ?_
  rintro e w1 ⟨rfl, hb1⟩
  have HB1 := Lib.hid (HB0.out.next hb1)
  have HZ1 := Lib.hid (HZ0.out.next hb1)
  clear f0 f1 f2 f3 f4 f5 f6 f7 f8 g0 g1 g2 g3 g4 g5 g6 g7 g8
  obtain ⟨f0, f1, f2, f3, f4, f5, f6, f7, f8⟩ := nine99 (HX.out _ HZ1.out)
  obtain ⟨g0, g1, g2, g3, g4, g5, g6, g7, g8⟩ := nine99 (HY.out _ HZ1.out)
  clear hb1
  go_wp2_with fail
  refine (HS2F.out _ HB1.out).mono ?_
  rintro e w2 ⟨rfl, hb2⟩
  have HB2 := Lib.hid (HB1.out.next hb2)
  have HZ2 := Lib.hid (HZ1.out.next hb2)
  clear f0 f1 f2 f3 f4 f5 f6 f7 f8 g0 g1 g2 g3 g4 g5 g6 g7 g8
  obtain ⟨f0, f1, f2, f3, f4, f5, f6, f7, f8⟩ := nine99 (HX.out _ HZ2.out)
  obtain ⟨g0, g1, g2, g3, g4, g5, g6, g7, g8⟩ := nine99 (HY.out _ HZ2.out)
  clear hb2
  go_wp2_with fail
  go_ret
  exact ⟨by rw [HE.out]; rfl, HB2.out⟩
 have HS2T := Lib.hid (fun w' hw => HS2.out true ⟨fun _ => e7, fun _ => rfl⟩ w' hw)
 by_cases e8 : x.hist = y.hist
 case neg =>
  have HS3F := Lib.hid (fun w' hw => HS3.out false ⟨fun h => absurd h (by decide), fun h => absurd h e8⟩ w' hw)
  have HE := Lib.hid (show b = false from bool_false HB.out (fun e => e8 (congrArg Gr.hist e)))
  clear e0 e1 e2 e3 e4 e5 e6 e7 e8
  go_enter Tryd.func15, Tryd.ntmps15
  go_wp2_with fail
  refine (HS0T.out _ (HBEL.out _ _)).mono ?_
  rintro e w0 ⟨rfl, hb0⟩
  have HB0 := Lib.hid ((HBEL.out (.cells (grX x A0 c0 A1 c1 A2 c2 A3 c3) 31) (.cells (grX y B0 d0 B1 d1 B2 d2 B3 d3) 31)).next hb0)
  have HZ0 := Lib.hid hb0
  obtain ⟨f0, f1, f2, f3, f4, f5, f6, f7, f8⟩ := nine99 (HX.out _ HZ0.out)
  obtain ⟨g0, g1, g2, g3, g4, g5, g6, g7, g8⟩ := nine99 (HY.out _ HZ0.out)
  clear hb0
  go_wp2_with fail
  refine (HS1T.out _ HB0.out).mono ?_
  rintro e w1 ⟨rfl, hb1⟩
  have HB1 := Lib.hid (HB0.out.next hb1)
  have HZ1 := Lib.hid (HZ0.out.next hb1)
  clear f0 f1 f2 f3 f4 f5 f6 f7 f8 g0 g1 g2 g3 g4 g5 g6 g7 g8
  obtain ⟨f0, f1, f2, f3, f4, f5, f6, f7, f8⟩ := nine99 (HX.out _ HZ1.out)
  obtain ⟨g0, g1, g2, g3, g4, g5, g6, g7, g8⟩ := nine99 (HY.out _ HZ1.out)
  clear hb1
  go_wp2_with fail
  refine (HS2T.out _ HB1.out).mono ?_
  rintro e w2 ⟨rfl, hb2⟩
  have HB2 := Lib.hid (HB1.out.next hb2)
  have HZ2 := Lib.hid (HZ1.out.next hb2)
  clear f0 f1 f2 f3 f4 f5 f6 f7 f8 g0 g1 g2 g3 g4 g5 g6 g7 g8
  obtain ⟨f0, f1, f2, f3, f4, f5, f6, f7, f8⟩ := nine99 (HX.out _ HZ2.out)
  obtain ⟨g0, g1, g2, g3, g4, g5, g6, g7, g8⟩ := nine99 (HY.out _ HZ2.out)
  clear hb2
  go_wp2_with fail
  refine (HS3F.out _ HB2.out).mono ?_
  rintro e w3 ⟨rfl, hb3⟩
  have HB3 := Lib.hid (HB2.out.next hb3)
  have HZ3 := Lib.hid (HZ2.out.next hb3)
  clear f0 f1 f2 f3 f4 f5 f6 f7 f8 g0 g1 g2 g3 g4 g5 g6 g7 g8
  obtain ⟨f0, f1, f2, f3, f4, f5, f6, f7, f8⟩ := nine99 (HX.out _ HZ3.out)
  obtain ⟨g0, g1, g2, g3, g4, g5, g6, g7, g8⟩ := nine99 (HY.out _ HZ3.out)
  clear hb3
  go_wp2_with fail
  go_ret
  exact ⟨by rw [HE.out]; rfl, HB3.out⟩
 have HS3T := Lib.hid (fun w' hw => HS3.out true ⟨fun _ => e8, fun _ => rfl⟩ w' hw)
 have HE := Lib.hid (show b = true from HB.out.2 (Gr.eqs e0 e1 e2 e3 e4 e5 e6 e7 e8))
 clear e0 e1 e2 e3 e4 e5 e6 e7 e8
 go_enter Tryd.func15, Tryd.ntmps15
 go_wp2_with fail
 refine (HS0T.out _ (HBEL.out _ _)).mono ?_
 rintro e w0 ⟨rfl, hb0⟩
 have HB0 := Lib.hid ((HBEL.out (.cells (grX x A0 c0 A1 c1 A2 c2 A3 c3) 31) (.cells (grX y B0 d0 B1 d1 B2 d2 B3 d3) 31)).next hb0)
 have HZ0 := Lib.hid hb0
 obtain ⟨f0, f1, f2, f3, f4, f5, f6, f7, f8⟩ := nine99 (HX.out _ HZ0.out)
 obtain ⟨g0, g1, g2, g3, g4, g5, g6, g7, g8⟩ := nine99 (HY.out _ HZ0.out)
 clear hb0
 go_wp2_with fail
 refine (HS1T.out _ HB0.out).mono ?_
 rintro e w1 ⟨rfl, hb1⟩
 have HB1 := Lib.hid (HB0.out.next hb1)
 have HZ1 := Lib.hid (HZ0.out.next hb1)
 clear f0 f1 f2 f3 f4 f5 f6 f7 f8 g0 g1 g2 g3 g4 g5 g6 g7 g8
 obtain ⟨f0, f1, f2, f3, f4, f5, f6, f7, f8⟩ := nine99 (HX.out _ HZ1.out)
 obtain ⟨g0, g1, g2, g3, g4, g5, g6, g7, g8⟩ := nine99 (HY.out _ HZ1.out)
 clear hb1
 go_wp2_with fail
 refine (HS2T.out _ HB1.out).mono ?_
 rintro e w2 ⟨rfl, hb2⟩
 have HB2 := Lib.hid (HB1.out.next hb2)
 have HZ2 := Lib.hid (HZ1.out.next hb2)
 clear f0 f1 f2 f3 f4 f5 f6 f7 f8 g0 g1 g2 g3 g4 g5 g6 g7 g8
 obtain ⟨f0, f1, f2, f3, f4, f5, f6, f7, f8⟩ := nine99 (HX.out _ HZ2.out)
 obtain ⟨g0, g1, g2, g3, g4, g5, g6, g7, g8⟩ := nine99 (HY.out _ HZ2.out)
 clear hb2
 go_wp2_with fail
 refine (HS3T.out _ HB2.out).mono ?_
 rintro e w3 ⟨rfl, hb3⟩
 have HB3 := Lib.hid (HB2.out.next hb3)
 have HZ3 := Lib.hid (HZ2.out.next hb3)
 clear f0 f1 f2 f3 f4 f5 f6 f7 f8 g0 g1 g2 g3 g4 g5 g6 g7 g8
 obtain ⟨f0, f1, f2, f3, f4, f5, f6, f7, f8⟩ := nine99 (HX.out _ HZ3.out)
 obtain ⟨g0, g1, g2, g3, g4, g5, g6, g7, g8⟩ := nine99 (HY.out _ HZ3.out)
 clear hb3
 go_wp2_with fail
 go_ret
 exact ⟨by rw [HE.out]; rfl, HB3.out⟩
end Go.Proofs.YtdkcfgahdcpkkaaDoor
