/- Merged: RRead, RNext, RList, RName, RValue, RValueB. -/
import Derived.Test.YtfmdbmalmeimbaaDoorPSect
/- The reference's reader: plain mathematics, and the reader in memory. -/
namespace Go.Proofs.YtfmdbmalmeimbaaDoor
open Go.RowKit
set_option maxRecDepth 100000

/-- what stands behind the sign of equality -/
def valueP (T : List Tk) (name : ByteArray) (i n : Nat) : PR Nd :=
  if isSign (tkAt T i) 91 = true then match listT T (i + 1) n with
    | .bad f => .bad f
    | .ok l i' n' => .ok (.mk name 3 0 e0 l []) i' n'
  else if (tkAt T i).kind = 2 then .ok (.mk name 1 (tkAt T i).num e0 [] []) (i + 1) n
  else if (tkAt T i).kind = 3 then .ok (.mk name 2 0 (tkAt T i).text [] []) (i + 1) n
  else .bad (flAt (tkAt T i) 8)
/-- the token that ends nodes -/
def shut (d : Nat) (t : Tk) : Bool := if d = 0 then decide (t.kind = 5) else isSign t 125
/-- the nodes with the token that ends them -/
def shutP (T : List Tk) (d : Nat) (r : PR (List Nd)) : PR (List Nd) := match r with
  | .bad f => .bad f
  | .ok l i n => if shut d (tkAt T i) = true then .ok l (adv T i) n else .bad (flAt (tkAt T i) 8)
theorem nodeP_alt (sect : Nat → Nat → Nat → PR (List Nd)) (T : List Tk) (name : ByteArray) (d i n : Nat) : nodeP sect T name d i n =
    (if isSign (tkAt T i) 123 = true then
      if d = 8 then .bad (flAt (tkAt T i) 4)
      else match shutP T (d + 1) (sect (d + 1) (i + 1) n) with
        | .bad f => .bad f
        | .ok l i' n' => .ok (.mk name 4 0 e0 [] l) i' n'
    else if isSign (tkAt T i) 61 = true then valueP T name (i + 1) n else .bad (flAt (tkAt T i) 8)) := by
  unfold nodeP
  split
  · split
    · rfl
    · cases sect (d + 1) (i + 1) n with
      | bad f => rfl
      | ok l i' n' =>
        simp only [shutP]
        have e : shut (d + 1) (tkAt T i') = isSign (tkAt T i') 125 := by unfold shut; rw [if_neg (Nat.succ_ne_zero d)]
        rw [e]
        cases hs : isSign (tkAt T i') 125 with
        | true =>
          have hk := (sign_kind hs).1
          simp only [if_true]
          congr 1
          unfold adv
          rw [hk]
          rfl
        | false => simp
  · split
    · unfold valueP
      rfl
    · rfl
/-- the state of the reader: place, count, error and its place -/
structure RdS where
  i : Nat
  n : Nat
  er : Int
  line : Nat
  col : Nat
def RdS.fl (s : RdS) : Fl := ⟨s.line, s.col, s.er⟩
/-- an error is kept if there is none -/
def RdS.stop (s : RdS) (t : Tk) (er : Int) : RdS := if s.er = 0 then ⟨s.i, s.n, er, t.line, t.col⟩ else s
def nx (T : List Tk) (i : Nat) : Nat := if i + 1 < T.length then i + 1 else i
theorem nx_adv {T : List Tk} {i : Nat} (h : TOk T) (hi : i < T.length) : nx T i = adv T i := by
  have := h.last i hi
  unfold nx adv
  split
  · rw [if_neg (by omega)]
  · rw [if_pos (by omega)]
theorem nx_lt {T : List Tk} {i : Nat} (hi : i < T.length) : nx T i < T.length := by unfold nx; split <;> omega
def rsC (A : Option Addr) (m c : Nat) (s : RdS) : Array Value := #[.slice A m c, .int .i64 (s.i : Int), .int .i64 (s.n : Int), .int .i64 s.er, .int .i64 (s.line : Int), .int .i64 (s.col : Int)]
/-- the reader in memory -/
structure RB (w : World) (g : Nat) (A : Option Addr) (c : Nat) (T : List Tk) (s : RdS) : Prop where
  blk : Blk w g 92 (rsC A T.length c s)
  row : KRow w g A T
  ok : TOk T
  hi : s.i < T.length
  hn : s.n ≤ 1025
section
variable {w w' : World} {g c : Nat} {A : Option Addr} {T : List Tk} {s : RdS}
theorem RB.up (h : RB w g A c T s) (hb : Below w.heap.size w w') : RB w' g A c T s := ⟨h.blk.below hb h.blk.lt, h.row.below hb (Nat.le_of_lt h.blk.lt), h.ok, h.hi, h.hn⟩
theorem RB.cs (h : RB w g A c T s) : w.cell? ⟨g, 0, none⟩ = some (.slice A T.length c) ∧ w.cell? ⟨g, 1, none⟩ = some (.int .i64 (s.i : Int)) ∧ w.cell? ⟨g, 2, none⟩ = some (.int .i64 (s.n : Int)) ∧ w.cell? ⟨g, 3, none⟩ = some (.int .i64 s.er) ∧ w.cell? ⟨g, 4, none⟩ = some (.int .i64 (s.line : Int)) ∧ w.cell? ⟨g, 5, none⟩ = some (.int .i64 (s.col : Int)) ∧ ∀ o, w.frozen? ⟨g, o, none⟩ = false :=
  ⟨by rw [h.blk.cell]; rfl, by rw [h.blk.cell]; rfl, by rw [h.blk.cell]; rfl, by rw [h.blk.cell]; rfl, by rw [h.blk.cell]; rfl, by rw [h.blk.cell]; rfl, fun o => h.blk.frozen o⟩
theorem RB.tok (h : RB w g A c T s) : ∃ gt, A = some ⟨gt, 0, none⟩ ∧ gt < g ∧ Tk5 w gt (s.i * 5) (tkAt T s.i) := by
  obtain ⟨gt, t, e, hlt, ht, h5⟩ := h.row.at_ h.hi
  obtain rfl := Option.some.inj (ht.symm.trans (tkAt_get h.hi))
  exact ⟨gt, e, hlt, h5⟩
theorem RB.only {F : Nat → Prop} (h : RB w g A c T s) (ho : Only F w w') (hF : ∀ k, F k → g < k) : RB w' g A c T s :=
  ⟨h.blk.only ho (fun e => absurd (hF _ e) (Nat.lt_irrefl _)), h.row.below (ho.below (B := g) (Nat.le_of_lt h.blk.lt) (fun k hk => Nat.le_of_lt (hF k hk))) (Nat.le_refl _), h.ok, h.hi, h.hn⟩
theorem RB.grown {row : Option Nat} (h : RB w g A c T s) (hg : w.grownBy w' row) (hr : ∀ k, row = some k → g < k) : RB w' g A c T s :=
  h.only ((Only.refl (fun k => row = some k) w).grown hg (fun _ e => .inl e)) (fun k e => hr k e)
theorem RB.drew (h : RB w g A c T s) : RB w.drew g A c T s := h.only ((Only.refl (fun _ => False) w).drew) (fun _ h => h.elim)
theorem RB.put (h : RB w g A c T s) (p : Addr) (hp : g < p.block) (u : Value) : RB (w.setCell p u) g A c T s :=
  h.only ((Only.refl (fun j => j = p.block) w).setCell (.inl rfl) u) (fun k e => by rw [e]; exact hp)
theorem RB.turn (h : RB w g A c T s) {k : Nat} {u : Value} {s' : RdS} (e : (rsC A T.length c s).setIfInBounds k u = rsC A T.length c s') (hi : s'.i < T.length) (hn : s'.n ≤ 1025) : RB (w.setCell ⟨g, k, none⟩ u) g A c T s' := by
  have ho : Only (· = g) w (w.setCell ⟨g, k, none⟩ u) := (Only.refl (· = g) w).setCell (p := ⟨g, k, none⟩) (.inl rfl) _
  have hb := h.blk.set_ k u
  rw [e] at hb
  exact ⟨hb, h.row.only ho (Nat.le_refl _) (Nat.le_of_lt h.blk.lt), h.ok, hi, hn⟩
theorem RB.set1 (h : RB w g A c T s) {j : Nat} (hj : j < T.length) : RB (w.setCell ⟨g, 1, none⟩ (.int .i64 (j : Int))) g A c T ⟨j, s.n, s.er, s.line, s.col⟩ := h.turn (by rfl) hj h.hn
theorem RB.set2 (h : RB w g A c T s) {m : Nat} (hm : m ≤ 1025) : RB (w.setCell ⟨g, 2, none⟩ (.int .i64 (m : Int))) g A c T ⟨s.i, m, s.er, s.line, s.col⟩ := h.turn (by rfl) h.hi hm
theorem RB.set3 (h : RB w g A c T s) (er : Int) : RB (w.setCell ⟨g, 3, none⟩ (.int .i64 er)) g A c T ⟨s.i, s.n, er, s.line, s.col⟩ := h.turn (by rfl) h.hi h.hn
theorem RB.set4 (h : RB w g A c T s) (li : Nat) : RB (w.setCell ⟨g, 4, none⟩ (.int .i64 (li : Int))) g A c T ⟨s.i, s.n, s.er, li, s.col⟩ := h.turn (by rfl) h.hi h.hn
theorem RB.set5 (h : RB w g A c T s) (co : Nat) : RB (w.setCell ⟨g, 5, none⟩ (.int .i64 (co : Int))) g A c T ⟨s.i, s.n, s.er, s.line, co⟩ := h.turn (by rfl) h.hi h.hn
/-- how a function of the reader ends: with a value, or with an error kept -/
def ReadRet {α : Type} (w : World) (g : Nat) (A : Option Addr) (c : Nat) (T : List Tk) (V : World → Value → α → Prop) (B : Value → Prop) (r : PR α) (e : Ending) (w' : World) : Prop := match r with
  | .ok a i n => ∃ v, e = .returned v ∧ V w' v a ∧ RB w' g A c T ⟨i, n, 0, 0, 0⟩ ∧ n ≤ 1024 ∧ Only (· = g) w w'
  | .bad f => f.er ≠ 0 ∧ ∃ v s, e = .returned v ∧ B v ∧ RB w' g A c T s ∧ s.fl = f ∧ Only (· = g) w w'
end
end Go.Proofs.YtfmdbmalmeimbaaDoor
/- next, stop, sign of the reference's reader. -/
namespace Go.Proofs.YtfmdbmalmeimbaaDoor
open Go.RowKit
set_option maxRecDepth 100000

def NextRet (w : World) (g : Nat) (A : Option Addr) (c : Nat) (T : List Tk) (s : RdS) (e : Ending) (w' : World) : Prop := e = .returned (tokV (tkAt T s.i)) ∧ RB w' g A c T ⟨nx T s.i, s.n, s.er, s.line, s.col⟩ ∧ Only (· = g) w w'
set_option maxHeartbeats 4000000 in
theorem rnext_any {w : World} {g c : Nat} {A : Option Addr} {T : List Tk} {s : RdS} (h : RB w g A c T s) :
    Calls Tryd.prog 68 #[.pointer (some ⟨g, 0, none⟩)] w (NextRet w g A c T s) := by
  obtain ⟨gt, rfl, hgt, h5⟩ := h.tok
  obtain ⟨a0, a1, a2, a3, a4, a5, ff⟩ := h.cs
  obtain ⟨t0, t1, t2, t3, t4⟩ := h5
  have f1 := ff 1
  have hg := h.blk.lt
  have hi := h.hi
  have hlen := h.ok.small
  have HP := Lib.hid h
  obtain ⟨i, n, er, li, co⟩ := s
  simp only at *
  have i0 : (0 : Int) ≤ (i : Int) := by omega
  have i1 : (i : Int) < (T.length : Int) := by omega
  have HA := Lib.hid (show nx T i = if i + 1 < T.length then i + 1 else i from rfl)
  generalize hta : tkAt T i = t at *
  have HT := Lib.hid hta
  clear h hta hi ff
  have hwr : IntKind.i64.wrap ((i : Int) + 1) = (i : Int) + 1 := IntWalk.i64_in _ (by omega)
  have hcase : (((i : Int) + 1 < (T.length : Int)) ∧ nx T i = i + 1 ∧ i + 1 < T.length) ∨ (¬ ((i : Int) + 1 < (T.length : Int)) ∧ nx T i = i) := by
    rw [HA.out]
    by_cases hj : i + 1 < T.length
    · exact .inl ⟨by omega, if_pos hj, hj⟩
    · exact .inr ⟨by omega, if_neg hj⟩
  clear HA
  rcases hcase with ⟨q, hn, hj⟩ | ⟨q, hn⟩
  all_goals
    go_enter Tryd.func68, Tryd.ntmps68
    go_wp2_with fail
    go_region_held3 (fun w' => w'.cell? ⟨g, 0, none⟩ = some (.slice (some ⟨gt, 0, none⟩) T.length c) ∧ w'.cell? ⟨g, 1, none⟩ = some (.int .i64 (i : Int)) ∧ w'.cell? ⟨gt, i * 5, none⟩ = some (.int .i64 t.kind) ∧ w'.cell? ⟨gt, i * 5 + 1, none⟩ = some (.string t.text) ∧ w'.cell? ⟨gt, i * 5 + 2, none⟩ = some (.int .i64 t.num) ∧ w'.cell? ⟨gt, i * 5 + 3, none⟩ = some (.int .i64 (t.line : Int)) ∧ w'.cell? ⟨gt, i * 5 + 4, none⟩ = some (.int .i64 (t.col : Int)))
      (go_keep) (first | fail)
    go_wp2_with fail
    go_region_held3 (fun w' => w'.cell? ⟨g, 0, none⟩ = some (.slice (some ⟨gt, 0, none⟩) T.length c) ∧ w'.cell? ⟨g, 1, none⟩ = some (.int .i64 (i : Int)))
      (go_keep) (first | fail)
    go_wp2_with fail
  · have ho : Only (· = g) w (w.setCell ⟨g, 1, none⟩ (.int .i64 ((i : Int) + 1))) := (Only.refl (· = g) w).setCell (p := ⟨g, 1, none⟩) (.inl rfl) _
    refine bodyPost_ret (results_cell_row rfl _ _ w.heap.size 81 (tokC t) (0, 0) _ rfl (blk_two _ (by simp [World.setCell])) Tryd.underlying81 rfl (by kernel_rfl)) rfl ⟨by rw [HT.out]; rfl, ?_, ?_⟩
    · have h := (HP.out.set1 (j := i + 1) hj).up (((Below.refl _ _).al (.cells (tokC t) 81)).al (.cells (tokC t) 81)).drew.drew
      rw [hn]
      exact h
    · exact ((ho.alloc _).alloc _).drew.drew
  · refine bodyPost_ret (results_cell_row rfl _ _ w.heap.size 81 (tokC t) (0, 0) _ rfl (blk_two _ rfl) Tryd.underlying81 rfl (by kernel_rfl)) rfl ⟨by rw [HT.out]; rfl, ?_, ?_⟩
    · simp only [hn]
      exact HP.out.up (((Below.refl _ _).al _).al _).drew.drew
    · exact (((Only.refl (· = g) w).alloc _).alloc _).drew.drew
/-- the reader lies, whatever it holds -/
def SB (g n : Nat) (w : World) : Prop := w.heap.size = n ∧ ∃ cs, Blk w g 92 cs
theorem SB.set {g n : Nat} {w : World} (hs : SB g n w) (k : Nat) (u : Value) : SB g n (w.setCell ⟨g, k, none⟩ u) := by
  obtain ⟨hn, ⟨cs, b⟩⟩ := hs
  exact ⟨by simpa [World.setCell] using hn, ⟨_, b.set_ k u⟩⟩
theorem SB.cells {g n : Nat} {t : Tk} {w : World} (hs : SB g n w) :
    (w.alloc (.cells #[.int .i64 t.kind, .string t.text, .int .i64 t.num, .int .i64 (t.line : Int), .int .i64 (t.col : Int)] 81)).drew.cell? ⟨n, 3, none⟩ = some (.int .i64 (t.line : Int)) ∧
    (w.alloc (.cells #[.int .i64 t.kind, .string t.text, .int .i64 t.num, .int .i64 (t.line : Int), .int .i64 (t.col : Int)] 81)).drew.cell? ⟨n, 4, none⟩ = some (.int .i64 (t.col : Int)) ∧
    (w.alloc (.cells #[.int .i64 t.kind, .string t.text, .int .i64 t.num, .int .i64 (t.line : Int), .int .i64 (t.col : Int)] 81)).drew.frozen? ⟨g, 3, none⟩ = false ∧
    (w.alloc (.cells #[.int .i64 t.kind, .string t.text, .int .i64 t.num, .int .i64 (t.line : Int), .int .i64 (t.col : Int)] 81)).drew.frozen? ⟨g, 4, none⟩ = false ∧
    (w.alloc (.cells #[.int .i64 t.kind, .string t.text, .int .i64 t.num, .int .i64 (t.line : Int), .int .i64 (t.col : Int)] 81)).drew.frozen? ⟨g, 5, none⟩ = false := by
  obtain ⟨hn, ⟨cs, b⟩⟩ := hs
  subst hn
  have bt := Blk.new w 81 (tokC t)
  have b' := (b.below ((Below.refl _ _).al (.cells (tokC t) 81)) b.lt)
  refine ⟨?_, ?_, b'.frozen 3, b'.frozen 4, b'.frozen 5⟩
  · exact (bt.cell 3).trans rfl
  · exact (bt.cell 4).trans rfl
def StopRet (w : World) (g : Nat) (A : Option Addr) (c : Nat) (T : List Tk) (s : RdS) (e : Ending) (w' : World) : Prop := e = .returned (.tuple #[]) ∧ RB w' g A c T s ∧ Only (· = g) w w'
set_option maxHeartbeats 4000000 in
theorem rstop_any {w : World} {g c : Nat} {A : Option Addr} {T : List Tk} {s : RdS} (h : RB w g A c T s) (t : Tk) (e0 : Int) :
    Calls Tryd.prog 69 #[.pointer (some ⟨g, 0, none⟩), tokV t, .int .i64 e0] w (StopRet w g A c T (s.stop t e0)) := by
  obtain ⟨a0, a1, a2, a3, a4, a5, ff⟩ := h.cs
  have f3 := ff 3
  have f4 := ff 4
  have f5 := ff 5
  have hg := h.blk.lt
  have HP := Lib.hid h
  obtain ⟨i, n, er, li, co⟩ := s
  simp only at *
  unfold tokV tokC
  clear h ff
  by_cases he : er = 0
  · subst he
    go_enter Tryd.func69, Tryd.ntmps69
    go_wp2_with fail
    have HSB := Lib.hid (show SB g w.heap.size w from ⟨rfl, ⟨_, HP.out.blk⟩⟩)
    have HZ : (w.alloc (.cells #[.int .i64 t.kind, .string t.text, .int .i64 t.num, .int .i64 (t.line : Int), .int .i64 (t.col : Int)] 81)).drew.cell? ⟨w.heap.size, 3, none⟩ = some (.int .i64 (t.line : Int)) ∧ (w.alloc (.cells #[.int .i64 t.kind, .string t.text, .int .i64 t.num, .int .i64 (t.line : Int), .int .i64 (t.col : Int)] 81)).drew.cell? ⟨w.heap.size, 4, none⟩ = some (.int .i64 (t.col : Int)) ∧ (w.alloc (.cells #[.int .i64 t.kind, .string t.text, .int .i64 t.num, .int .i64 (t.line : Int), .int .i64 (t.col : Int)] 81)).drew.frozen? ⟨g, 3, none⟩ = false ∧ (w.alloc (.cells #[.int .i64 t.kind, .string t.text, .int .i64 t.num, .int .i64 (t.line : Int), .int .i64 (t.col : Int)] 81)).drew.frozen? ⟨g, 4, none⟩ = false ∧ (w.alloc (.cells #[.int .i64 t.kind, .string t.text, .int .i64 t.num, .int .i64 (t.line : Int), .int .i64 (t.col : Int)] 81)).drew.frozen? ⟨g, 5, none⟩ = false := by
      refine SB.cells ?_; repeat (with_reducible refine SB.set ?_ _ _)
      with_reducible exact HSB.out
    go_region_held3 (fun w' => w'.cell? ⟨w.heap.size, 3, none⟩ = some (.int .i64 (t.line : Int)) ∧ w'.cell? ⟨w.heap.size, 4, none⟩ = some (.int .i64 (t.col : Int)) ∧ w'.frozen? ⟨g, 3, none⟩ = false ∧ w'.frozen? ⟨g, 4, none⟩ = false ∧ w'.frozen? ⟨g, 5, none⟩ = false)
      (first | exact HZ | exact SB.cells HSB.out | exact SB.cells (HSB.out.set _ _) | exact SB.cells ((HSB.out.set _ _).set _ _) | exact SB.cells (((HSB.out.set _ _).set _ _).set _ _)) (first | fail)
    all_goals
      go_wp2_with fail
    all_goals
      go_end0
      have HE := Lib.hid (show (⟨i, n, 0, li, co⟩ : RdS).stop t e0 = ⟨i, n, e0, t.line, t.col⟩ by unfold RdS.stop; rw [if_pos rfl])
      rw [HE.out]
      first
        | exact ⟨rfl, (((HP.out.set3 e0).set4 t.line).set5 t.col).up ((Below.refl _ _).al _).drew, ((((Only.refl (· = g) w).setCell (p := ⟨g, 3, none⟩) (.inl rfl) _).setCell (p := ⟨g, 4, none⟩) (.inl rfl) _).setCell (p := ⟨g, 5, none⟩) (.inl rfl) _).alloc _ |>.drew⟩
        | exact ⟨rfl, (((HP.out.set4 t.line).set5 t.col).set3 e0).up ((Below.refl _ _).al _).drew, ((((Only.refl (· = g) w).setCell (p := ⟨g, 4, none⟩) (.inl rfl) _).setCell (p := ⟨g, 5, none⟩) (.inl rfl) _).setCell (p := ⟨g, 3, none⟩) (.inl rfl) _).alloc _ |>.drew⟩
  · have q : (er == 0) = false := beq_eq_false_iff_ne.2 he
    go_enter Tryd.func69, Tryd.ntmps69
    go_wp2_with fail
    go_end0
    exact ⟨rfl, (show RB w g A c T ((⟨i, n, er, li, co⟩ : RdS).stop t e0) by unfold RdS.stop; rw [if_neg he]; exact HP.out).up ((Below.refl _ _).al _), (Only.refl (· = g) w).alloc _⟩
def RSignRet (w : World) (g : Nat) (A : Option Addr) (c : Nat) (T : List Tk) (s : RdS) (b : Bool) (e : Ending) (w' : World) : Prop := e = .returned (.bool b) ∧ RB w' g A c T s ∧ Only (· = g) w w'
set_option maxHeartbeats 4000000 in
theorem rsign_any {w : World} {g c : Nat} {A : Option Addr} {T : List Tk} {s : RdS} (ch : UInt8) (h : RB w g A c T s) {b : Bool} (hb : isSign (tkAt T s.i) ch = b) :
    Calls Tryd.prog 99 #[.pointer (some ⟨g, 0, none⟩), .string ⟨#[ch]⟩] w (RSignRet w g A c T s b) := by
  obtain ⟨gt, rfl, hgt, h5⟩ := h.tok
  obtain ⟨a0, a1, a2, a3, a4, a5, ff⟩ := h.cs
  obtain ⟨t0, t1, t2, t3, t4⟩ := h5
  have hg := h.blk.lt
  have hi := h.hi
  have hlen := h.ok.small
  have HP := Lib.hid h
  obtain ⟨i, n, er, li, co⟩ := s
  simp only at *
  have i0 : (0 : Int) ≤ (i : Int) := by omega
  have i1 : (i : Int) < (T.length : Int) := by omega
  unfold isSign at hb
  generalize tkAt T i = t at *
  clear h hi ff
  have hcase : (t.kind = 4 ∧ (t.text.toList == [ch]) = b) ∨ ((t.kind == 4) = false ∧ b = false) := by
    rw [list_beq, ← hb]
    by_cases h4 : t.kind = 4
    · exact .inl ⟨h4, by rw [decide_eq_true h4]; rfl⟩
    · exact .inr ⟨beq_eq_false_iff_ne.2 h4, by rw [decide_eq_false h4]; rfl⟩
  clear hb
  rcases hcase with ⟨q1, q2⟩ | ⟨q1, rfl⟩
  all_goals
    go_enter Tryd.func99, Tryd.ntmps99
    go_wp2_with fail
    go_region_held3 (fun w' => w'.cell? ⟨g, 0, none⟩ = some (.slice (some ⟨gt, 0, none⟩) T.length c) ∧ w'.cell? ⟨g, 1, none⟩ = some (.int .i64 (i : Int)) ∧ w'.cell? ⟨gt, i * 5, none⟩ = some (.int .i64 t.kind) ∧ w'.cell? ⟨gt, i * 5 + 1, none⟩ = some (.string t.text) ∧ w'.cell? ⟨gt, i * 5 + 2, none⟩ = some (.int .i64 t.num) ∧ w'.cell? ⟨gt, i * 5 + 3, none⟩ = some (.int .i64 (t.line : Int)) ∧ w'.cell? ⟨gt, i * 5 + 4, none⟩ = some (.int .i64 (t.col : Int)))
      (go_keep) (first | fail)
    go_wp2_with fail
    go_ret
    exact ⟨rfl, HP.out.up ((Below.refl _ _).al _).drew, ((Only.refl (· = g) w).alloc _).drew⟩
end Go.Proofs.YtfmdbmalmeimbaaDoor
/- list of the reference's reader. -/
namespace Go.Proofs.YtfmdbmalmeimbaaDoor
open Go.RowKit
set_option maxRecDepth 100000

theorem sign_cases (t : Tk) (ch : UInt8) : (isSign t ch = true ∧ (t.kind == 4) = true ∧ (t.kind != 4) = false ∧ (t.text.toList == [ch]) = true ∧ (t.text.toList != [ch]) = false) ∨
    (isSign t ch = false ∧ (t.kind == 4) = true ∧ (t.kind != 4) = false ∧ (t.text.toList == [ch]) = false ∧ (t.text.toList != [ch]) = true) ∨ (isSign t ch = false ∧ (t.kind == 4) = false ∧ (t.kind != 4) = true) := by
  unfold isSign
  have h2 := @list_beq t.text ch
  by_cases h4 : t.kind = 4
  · by_cases hx : t.text = ⟨#[ch]⟩
    · rw [decide_eq_true hx] at h2
      exact .inl ⟨by rw [decide_eq_true h4, decide_eq_true hx]; rfl, by rw [h4]; rfl, by rw [h4]; rfl, h2, by rw [bne, h2]; rfl⟩
    · rw [decide_eq_false hx] at h2
      exact .inr (.inl ⟨by rw [decide_eq_true h4, decide_eq_false hx]; rfl, by rw [h4]; rfl, by rw [h4]; rfl, h2, by rw [bne, h2]; rfl⟩)
  · exact .inr (.inr ⟨by rw [decide_eq_false h4]; rfl, beq_eq_false_iff_ne.2 h4, bne_iff_ne.2 h4⟩)
/-- an error that was kept is kept on -/
def KeptRet (w : World) (g : Nat) (A : Option Addr) (c : Nat) (T : List Tk) (B : Value → Prop) (f : Fl) (e : Ending) (w' : World) : Prop := ∃ v s, e = .returned v ∧ B v ∧ RB w' g A c T s ∧ s.fl = f ∧ Only (· = g) w w'
def isNil (v : Value) : Prop := v = .slice none 0 0
def RListRet (w : World) (g : Nat) (A : Option Addr) (c : Nat) (T : List Tk) (r : PR (List ByteArray)) : Ending → World → Prop := ReadRet w g A c T (fun w' v l => TL w' (fun k => w.heap.size ≤ k) v l) isNil r

set_option maxHeartbeats 8000000 in
theorem rlist_bad {w : World} {g c : Nat} {A : Option Addr} {T : List Tk} {s : RdS} (h : RB w g A c T s) (he : s.er ≠ 0) :
    Calls Tryd.prog 90 #[.pointer (some ⟨g, 0, none⟩)] w (KeptRet w g A c T isNil s.fl) := by
  have q : (s.er == 0) = false := beq_eq_false_iff_ne.2 he
  obtain ⟨b, hb⟩ : ∃ b, isSign (tkAt T s.i) 93 = b := ⟨_, rfl⟩
  have HS := Lib.hid (rsign_any 93 h hb)
  clear hb
  go_enter Tryd.func90, Tryd.ntmps90
  go_wp2_with fail
  refine HS.out.mono ?_
  rintro e w1 ⟨rfl, h1, ho1⟩
  have H1 := Lib.hid h1
  have HO1 := Lib.hid ho1
  clear HS
  cases b with
  | true =>
    clear h1 ho1 h
    go_wp2_with fail
    refine (rnext_any H1.out).mono ?_
    rintro e w2 ⟨rfl, h2, ho2⟩
    have H2 := Lib.hid h2
    have HO2 := Lib.hid (HO1.out.trans ho2)
    clear h2 ho2
    go_wp2_with fail
    go_ret
    exact ⟨_, _, rfl, rfl, H2.out, rfl, HO2.out⟩
  | false =>
    obtain ⟨a0, a1, a2, a3, a4, a5, ff⟩ := h1.cs
    clear h1 ho1 h
    go_wp2_with fail
    go_loopw [3] (fun v wr => RB wr g A c T s ∧ Only (· = g) w wr) (fun _ _ => 0)
    case atStart => exact ⟨H1.out, HO1.out⟩
    case round =>
      obtain ⟨h2, ho2⟩ := hrel
      have H2 := Lib.hid h2
      have HO2 := Lib.hid ho2
      obtain ⟨a0, a1, a2, a3, a4, a5, ff⟩ := h2.cs
      clear h2 ho2
      go_wp2_with fail
      go_ret
      exact ⟨_, _, rfl, rfl, H2.out, rfl, HO2.out⟩
set_option maxHeartbeats 8000000 in
theorem rlist_any {w : World} {g c i n : Nat} {A : Option Addr} {T : List Tk} (h : RB w g A c T ⟨i, n, 0, 0, 0⟩) (hn : n ≤ 1024) :
    Calls Tryd.prog 90 #[.pointer (some ⟨g, 0, none⟩)] w (RListRet w g A c T (listT T i n)) := by
  have hg := h.blk.lt
  have hlen := h.ok.small
  have hi : i < T.length := h.hi
  have HOK := Lib.hid h.ok
  have HN := Lib.hid hn
  obtain ⟨i0, hi0, hz0, hz1, hz2⟩ := info_parts string_info
  cases h93 : isSign (tkAt T i) 93 with
  | true =>
    have HS := Lib.hid (rsign_any 93 h h93)
    rw [show listT T i n = .ok [] (i + 1) n by unfold listT; rw [if_pos h93]]
    have hnx : nx T i = i + 1 := by unfold nx; rw [if_pos (h.ok.sign hi h93)]
    clear h93 h
    go_enter Tryd.func90, Tryd.ntmps90
    go_wp2_with fail
    refine HS.out.mono ?_
    rintro e w1 ⟨rfl, h1, ho1⟩
    have H1 := Lib.hid h1
    have HO1 := Lib.hid ho1
    clear h1 ho1 HS
    go_wp2_with fail
    refine (rnext_any H1.out).mono ?_
    rintro e w2 ⟨rfl, h2, ho2⟩
    have H2 := Lib.hid (show RB w2 g A c T ⟨i + 1, n, 0, 0, 0⟩ by have h := h2; simp only [hnx] at h; exact h)
    have HO2 := Lib.hid (HO1.out.trans ho2)
    clear h2 ho2
    go_wp2_with fail
    go_ret
    exact ⟨_, rfl, ⟨none, 0, rfl, Nat.le_refl _, fun h => absurd h (Nat.lt_irrefl _)⟩, H2.out, HN.out, HO2.out⟩
  | false =>
    have HS := Lib.hid (rsign_any 93 h h93)
    rw [show listT T i n = listP T (T.length - i) [] i n by unfold listT; rw [if_neg (by rw [h93]; decide)]]
    clear h93 h
    go_enter Tryd.func90, Tryd.ntmps90
    go_wp2_with fail
    refine HS.out.mono ?_
    rintro e w1 ⟨rfl, h1, ho1⟩
    have H1 := Lib.hid h1
    have HO1 := Lib.hid ho1
    clear h1 ho1 HS
    go_wp2_with fail
    go_loopw [3] (fun v wr => (∃ (acc : List ByteArray) (j f : Nat), listP T (T.length - i) [] i n = listP T f acc j n ∧ T.length - j ≤ f ∧ acc.length ≤ j ∧ lenV v = acc.length ∧ TO wr w.heap.size v acc ∧ RB wr g A c T ⟨j, n, 0, 0, 0⟩ ∧ Only (· = g) w wr) ∨
      (∃ s : RdS, listP T (T.length - i) [] i n = .bad s.fl ∧ s.er ≠ 0 ∧ RB wr g A c T s ∧ Only (· = g) w wr)) (fun v _ => T.length - lenV v)
    case atStart => exact .inl ⟨[], i, _, rfl, Nat.le_refl _, Nat.zero_le _, rfl, World.ownsRow_nil _ _ _ _, H1.out, HO1.out⟩
    case round =>
      rcases hrel with hrel | ⟨s, hr, he, h2, ho2⟩
      case inr =>
        have q : (s.er == 0) = false := beq_eq_false_iff_ne.2 he
        have HR := Lib.hid hr
        have H2 := Lib.hid h2
        have HO2 := Lib.hid ho2
        obtain ⟨a0, a1, a2, a3, a4, a5, ff⟩ := h2.cs
        clear h2 ho2 hr
        go_wp2_with fail
        go_ret
        exact HR.out ▸ ⟨he, _, _, rfl, rfl, H2.out, rfl, HO2.out⟩
      case inl =>
        obtain ⟨acc, j, f, hr, hf, haj, hlv, hto, hp, ho⟩ := hrel
        have HR := Lib.hid hr
        have HT := Lib.hid hto
        have HPj := Lib.hid hp
        have HOj := Lib.hid ho
        have hj : j < T.length := hp.hi
        obtain ⟨f, rfl⟩ : ∃ f', f = f' + 1 := ⟨f - 1, by omega⟩
        have HU := Lib.hid (show listP T (f + 1) acc j n = (if (tkAt T j).kind = 3 then
            if isSign (tkAt T (j + 1)) 93 = true then .ok (acc ++ [(tkAt T j).text]) (j + 2) n
            else if isSign (tkAt T (j + 1)) 44 = true then listP T f (acc ++ [(tkAt T j).text]) (j + 2) n
            else .bad (flAt (tkAt T (j + 1)) 8)
          else .bad (flAt (tkAt T j) 8)) from rfl)
        obtain ⟨a0, a1, a2, a3, a4, a5, ff⟩ := hp.cs
        clear hr hto hp ho H1 HO1
        go_wp2_with fail
        refine (rnext_any HPj.out).mono ?_
        rintro e w2 ⟨rfl, hp2, ho2⟩
        have HP2 := Lib.hid hp2
        have HO2 := Lib.hid (HOj.out.trans ho2)
        have HT2 := Lib.hid (show TO w2 w.heap.size u3 acc from own_only HT.out ho2 (fun k hk e => by have := (HT.out.lt k hk).1; omega))
        have hw2 : w.heap.size ≤ w2.heap.size := HO2.out.size
        clear hp2 ho2 a0 a1 a2 a3 a4 a5 ff
        unfold tokV tokC
        obtain ⟨⟨kd, tx, nu, li, co⟩, ht⟩ : ∃ t, tkAt T j = t := ⟨_, rfl⟩
        have HTJ := Lib.hid ht
        rw [ht] at HU
        simp only [ht]
        by_cases hk : kd = 3
        · subst hk
          have hj1 : j + 1 < T.length := HOK.out.next hj (by rw [HTJ.out]; show (3 : Int) ≠ 5; decide)
          have HP3 := Lib.hid (show RB w2 g A c T ⟨j + 1, n, 0, 0, 0⟩ by have h := HP2.out; simp only [show nx T j = j + 1 by unfold nx; rw [if_pos hj1]] at h; exact h)
          have HPA := Lib.hid (HP3.out.up ((Below.refl _ _).al (.cells #[.int .i64 3, .string tx, .int .i64 nu, .int .i64 (li : Int), .int .i64 (co : Int)] 81)))
          have HUU := Lib.hid (show listP T (f + 1) acc j n = (if isSign (tkAt T (j + 1)) 93 = true then .ok (acc ++ [tx]) (j + 2) n else if isSign (tkAt T (j + 1)) 44 = true then listP T f (acc ++ [tx]) (j + 2) n else .bad (flAt (tkAt T (j + 1)) 8)) by rw [HU.out]; rfl)
          clear HP2 HU
          go_wp2_with (at_builtin; refine wpList_append_own _ rfl _ _ 33 rfl w.heap.size 9 i0 _ 1 16 Tryd.underlying33 hi0 hz0 hz1 hz2 rfl (by decide) _ _ _ rfl ((HT2.out.al _).al _) ⟨w2.heap.size + 1, 0, none⟩ 1 1 [.string tx] rfl rfl (cell_one_at _ _ (by simp)) (by simp [Value.oneCell']) (by unfold maxLen; omega) (by omega) (by simp; omega) ?_; intro v3 w3 ho3 hg3 _)
          have hrow : ∀ k, u3.ownBlock = some k → w.heap.size ≤ k := fun k hk => (HT2.out.lt k hk).1
          have HP4 := Lib.hid ((HPA.out.up ((Below.refl _ _).al (.cells #[.string tx] 9))).grown hg3 (fun k hk => Nat.lt_of_lt_of_le hg (hrow k hk)))
          have HO4 := Lib.hid (((HO2.out.alloc (.cells #[.int .i64 3, .string tx, .int .i64 nu, .int .i64 (li : Int), .int .i64 (co : Int)] 81)).alloc (.cells #[.string tx] 9)).grown hg3 (fun k hk => .inr (hrow k hk)))
          have HT4 := Lib.hid (show TO w3 w.heap.size v3 (acc ++ [tx]) from by
            unfold TO
            rw [List.length_append, List.map_append]
            exact ho3)
          clear ho3 hg3 hrow HPA HP3 HT HT2 HO2 HPj HOj
          have hl4 : (acc ++ [tx]).length = acc.length + 1 := by simp
          obtain ⟨Av, cv, ev⟩ := own_form2 HT4.out
          rw [hl4] at ev
          subst ev
          clear hl4
          cases h1 : isSign (tkAt T (j + 1)) 93 with
          | true =>
            have hj2 : j + 1 + 1 < T.length := HOK.out.sign hj1 h1
            have HC := Lib.hid (rsign_any 93 HP4.out h1)
            have HE := Lib.hid (HR.out.trans (HUU.out.trans (if_pos h1)))
            clear h1 HR HUU
            have HF := Lib.hid (show ∀ e w', RListRet w g A c T (.ok (acc ++ [tx]) (j + 2) n) e w' → RListRet w g A c T (listP T (T.length - i) [] i n) e w' from fun _ _ h => by rw [HE.out]; exact h)
            refine HC.out.mono ?_
            rintro e w4 ⟨rfl, hp4, ho4⟩
            have HP5 := Lib.hid hp4
            have HO5 := Lib.hid (HO4.out.trans ho4)
            have HT5 := Lib.hid (show TO w4 w.heap.size (.slice Av (acc.length + 1) cv) (acc ++ [tx]) from own_only HT4.out ho4 (fun k hk e => by have := (HT4.out.lt k hk).1; omega))
            clear hp4 ho4 HE
            go_wp2_with fail
            refine (rnext_any HP5.out).mono ?_
            rintro e w5 ⟨rfl, hp5, ho5⟩
            have HP6 := Lib.hid (show RB w5 g A c T ⟨j + 2, n, 0, 0, 0⟩ by have h := hp5; simp only [show nx T (j + 1) = j + 2 by unfold nx; rw [if_pos hj2]] at h; exact h)
            have HO6 := Lib.hid (HO5.out.trans ho5)
            have HT6 := Lib.hid (show TO w5 w.heap.size (.slice Av (acc.length + 1) cv) (acc ++ [tx]) from own_only HT5.out ho5 (fun k hk e => by have := (HT5.out.lt k hk).1; omega))
            clear hp5 ho5
            go_wp2_with fail
            go_ret
            exact HF.out _ _ ⟨_, rfl, HT6.out.tl (fun k hk => hk), HP6.out, HN.out, HO6.out⟩
          | false =>
            have HC := Lib.hid (rsign_any 93 HP4.out h1)
            have HE := Lib.hid (HR.out.trans (HUU.out.trans (if_neg (show ¬ isSign (tkAt T (j + 1)) 93 = true by rw [h1]; decide))))
            clear h1 HR HUU
            refine HC.out.mono ?_
            rintro e w4 ⟨rfl, hp4, ho4⟩
            have HP5 := Lib.hid hp4
            have HO5 := Lib.hid (HO4.out.trans ho4)
            have HT5 := Lib.hid (show TO w4 w.heap.size (.slice Av (acc.length + 1) cv) (acc ++ [tx]) from own_only HT4.out ho4 (fun k hk e => by have := (HT4.out.lt k hk).1; omega))
            clear hp4 ho4 HP4 HT4 HO4
            go_wp2_with fail
            refine (rnext_any HP5.out).mono ?_
            rintro e w5 ⟨rfl, hp5, ho5⟩
            have HP6 := Lib.hid (show RB w5 g A c T ⟨nx T (j + 1), n, 0, 0, 0⟩ from hp5)
            have HO6 := Lib.hid (HO5.out.trans ho5)
            have HT6 := Lib.hid (show TO w5 w.heap.size (.slice Av (acc.length + 1) cv) (acc ++ [tx]) from own_only HT5.out ho5 (fun k hk e => by have := (HT5.out.lt k hk).1; omega))
            clear hp5 ho5 HP5 HO5 HT5
            have hsg := sign_cases (tkAt T (j + 1)) 44
            have hj3 := fun h => HOK.out.sign hj1 (c := 44) h
            have HST := Lib.hid (fun W h => rstop_any (w := W) (g := g) (c := c) (A := A) (T := T) (s := ⟨nx T (j + 1), n, 0, 0, 0⟩) h (tkAt T (j + 1)) 8)
            unfold tokV tokC at HST
            unfold tokV tokC
            generalize hta : tkAt T (j + 1) = t at *
            have HFL := Lib.hid (show ((⟨nx T (j + 1), n, 0, 0, 0⟩ : RdS).stop t 8).fl = flAt t 8 ∧ ((⟨nx T (j + 1), n, 0, 0, 0⟩ : RdS).stop t 8).er ≠ 0 by unfold RdS.stop; rw [if_pos rfl]; exact ⟨rfl, (by decide : (8 : Int) ≠ 0)⟩)
            rcases hsg with ⟨hs, q1, q2, q3, q4⟩ | ⟨hs, q1, q2, q3, q4⟩ | ⟨hs, q1, q2⟩
            · have HE2 := Lib.hid (HE.out.trans (if_pos hs))
              have hj4 := hj3 hs
              have HP7 := Lib.hid (show RB w5 g A c T ⟨j + 2, n, 0, 0, 0⟩ by have h := HP6.out; simp only [show nx T (j + 1) = j + 2 by unfold nx; rw [if_pos hj4]] at h; exact h)
              clear hs hj3 HST HFL HE hta
              go_wp2_with fail
              refine ⟨.inl ⟨acc ++ [tx], j + 2, f, HE2.out, by omega, by rw [List.length_append]; show acc.length + 1 ≤ _; omega, by simp [lenV], HT6.out.al _, HP7.out.up ((Below.refl _ _).al _), HO6.out.alloc _⟩, ?_⟩
              show T.length - (acc.length + 1) < T.length - lenV u3
              rw [hlv]
              omega
            all_goals
              have HE2 := Lib.hid (HE.out.trans (if_neg (show ¬ isSign t 44 = true by rw [hs]; decide)))
              clear hs hj3 HE hta
              go_wp2_with fail
              refine (HST.out _ (HP6.out.up ((Below.refl _ _).al _))).mono ?_
              rintro e w6 ⟨rfl, hp6, ho6⟩
              have HP7 := Lib.hid hp6
              have HO7 := Lib.hid ((HO6.out.alloc _).trans ho6)
              have HT7 := Lib.hid (show TO w6 w.heap.size (.slice Av (acc.length + 1) cv) (acc ++ [tx]) from own_only (HT6.out.al _) ho6 (fun k hk e => by have := (HT6.out.lt k hk).1; omega))
              clear hp6 ho6
              go_wp2_with fail
              refine ⟨.inr ⟨_, by rw [HE2.out, HFL.out.1], HFL.out.2, HP7.out, HO7.out⟩, ?_⟩
              show T.length - (acc.length + 1) < T.length - lenV u3
              rw [hlv]
              omega
        · have HE := Lib.hid (HR.out.trans (HU.out.trans (if_neg hk)))
          have q1 : (kd != 3) = true := bne_iff_ne.2 hk
          have HP3 := Lib.hid (show RB w2 g A c T ⟨nx T j, n, 0, 0, 0⟩ from HP2.out)
          have HST := Lib.hid (fun W h => rstop_any (w := W) (g := g) (c := c) (A := A) (T := T) (s := ⟨nx T j, n, 0, 0, 0⟩) h ⟨kd, tx, nu, li, co⟩ 8)
          have HFL := Lib.hid (show ((⟨nx T j, n, 0, 0, 0⟩ : RdS).stop ⟨kd, tx, nu, li, co⟩ 8).fl = flAt ⟨kd, tx, nu, li, co⟩ 8 ∧ ((⟨nx T j, n, 0, 0, 0⟩ : RdS).stop ⟨kd, tx, nu, li, co⟩ 8).er ≠ 0 by unfold RdS.stop; rw [if_pos rfl]; exact ⟨rfl, (by decide : (8 : Int) ≠ 0)⟩)
          unfold tokV tokC at HST
          clear HR HU HP2
          go_wp2_with fail
          refine (HST.out _ (HP3.out.up ((Below.refl _ _).al _))).mono ?_
          rintro e w6 ⟨rfl, hp6, ho6⟩
          have HP7 := Lib.hid hp6
          have HO7 := Lib.hid ((HO2.out.alloc _).trans ho6)
          clear hp6 ho6
          go_wp2_with fail
          go_ret
          rw [HE.out]
          exact ⟨(by decide : (8 : Int) ≠ 0), _, _, rfl, rfl, HP7.out, HFL.out.1, HO7.out⟩
end Go.Proofs.YtfmdbmalmeimbaaDoor
/- name of the reference's reader. -/
namespace Go.Proofs.YtfmdbmalmeimbaaDoor
open Go.RowKit
set_option maxRecDepth 100000

/-- the reader behind the check of a name -/
def nameS (t : Tk) (l : List Nd) (s : RdS) : RdS :=
  let s1 := if 40 < t.text.size then s.stop t 4 else s
  let s2 := if l.any (isN t.text) = true then s1.stop t 9 else s1
  let s3 : RdS := ⟨s2.i, s2.n + 1, s2.er, s2.line, s2.col⟩
  if 1024 < s3.n then s3.stop t 4 else s3
theorem nameS_ok {t : Tk} {l : List Nd} {i n : Nat} (h1 : ¬ 40 < t.text.size) (h2 : ¬ l.any (isN t.text) = true) (hn : n ≤ 1024) (h3 : ¬ n = 1024) : nameS t l ⟨i, n, 0, 0, 0⟩ = ⟨i, n + 1, 0, 0, 0⟩ := by
  unfold nameS
  simp only [if_neg h1, if_neg h2, if_neg (show ¬ 1024 < n + 1 by omega)]
theorem nameS_bad {t : Tk} {l : List Nd} {i n : Nat} (_hn : n ≤ 1024) (er : Int) (he : er = 4 ∨ er = 9) (h : er = if 40 < t.text.size then 4 else if l.any (isN t.text) = true then 9 else if n = 1024 then 4 else 0) : (nameS t l ⟨i, n, 0, 0, 0⟩).er ≠ 0 ∧ (nameS t l ⟨i, n, 0, 0, 0⟩).fl = flAt t er := by
  unfold nameS
  by_cases h1 : 40 < t.text.size
  · rw [if_pos h1] at h
    subst h
    simp only [if_pos h1, RdS.stop, if_true, RdS.fl, flAt]
    split <;> split <;> simp_all
  · rw [if_neg h1] at h
    simp only [if_neg h1]
    by_cases h2 : l.any (isN t.text) = true
    · rw [if_pos h2] at h
      subst h
      simp only [if_pos h2, RdS.stop, if_true, RdS.fl, flAt]
      split <;> simp
    · rw [if_neg h2] at h
      simp only [if_neg h2]
      by_cases h3 : n = 1024
      · rw [if_pos h3] at h
        subst h
        rw [if_pos (show 1024 < n + 1 by omega)]
        simp [RdS.stop, RdS.fl, flAt]
      · rw [if_neg h3] at h
        subst h
        rcases he with h | h <;> cases h
theorem stop_i (s : RdS) (t : Tk) (e : Int) : (s.stop t e).i = s.i ∧ (s.stop t e).n = s.n := by unfold RdS.stop; split <;> exact ⟨rfl, rfl⟩
theorem stop_twice (s : RdS) (t : Tk) {e : Int} (he : e ≠ 0) : (s.stop t e).stop t e = s.stop t e := by
  unfold RdS.stop
  by_cases h : s.er = 0
  · simp only [if_pos h, if_neg he]
  · simp only [if_neg h]
theorem any_next {p : Nd → Bool} {l : List Nd} {k : Nat} {x : Nd} (h : l[k]? = some x) : (l.take (k + 1)).any p = ((l.take k).any p || p x) := by
  obtain ⟨hk, e⟩ := List.getElem?_eq_some_iff.1 h
  rw [List.take_succ_eq_append_getElem hk, e, List.any_append]
  simp
/-- behind k names -/
def dupS (s : RdS) (t : Tk) (b : Bool) : RdS := if b = true then s.stop t 9 else s
theorem dupS_next (s : RdS) (t : Tk) (b : Bool) : (dupS s t b).stop t 9 = dupS s t true := by
  unfold dupS
  cases b with
  | true => simp [stop_twice s t (show (9 : Int) ≠ 0 by decide)]
  | false => rfl
theorem dupS_i (s : RdS) (t : Tk) (b : Bool) : (dupS s t b).n = s.n := by unfold dupS; split; exact (stop_i s t 9).2; rfl
/-- behind the count -/
def endS (s : RdS) (t : Tk) : RdS := if 1024 < s.n + 1 then (⟨s.i, s.n + 1, s.er, s.line, s.col⟩ : RdS).stop t 4 else ⟨s.i, s.n + 1, s.er, s.line, s.col⟩
theorem nameS_eq (t : Tk) (l : List Nd) (s : RdS) : nameS t l s = endS (dupS (if 40 < t.text.size then s.stop t 4 else s) t (l.any (isN t.text))) t := rfl

set_option maxHeartbeats 8000000 in
theorem rname_any {w : World} {g c : Nat} {A : Option Addr} {T : List Tk} {s : RdS} {S : Nat → Prop} {Al : Option Addr} {cl : Nat} {l : List Nd} (h : RB w g A c T s) (hn : s.n ≤ 1024) (t : Tk) (hl : NL w S (.slice Al l.length cl) l) (hS : ∀ k, S k → g ≠ k) (hl1 : l.length ≤ 1000000) :
    Calls Tryd.prog 70 #[.pointer (some ⟨g, 0, none⟩), tokV t, .slice Al l.length cl] w (StopRet w g A c T (nameS t l s)) := by
  have hg := h.blk.lt
  have HP := Lib.hid h
  have HL := Lib.hid hl
  have hst : ∀ (W : World) (s' : RdS) (e : Int) (h : RB W g A c T s'), Calls Tryd.prog 69 #[.pointer (some ⟨g, 0, none⟩), tokV t, .int .i64 e] W (StopRet W g A c T (s'.stop t e)) := fun W s' e h => rstop_any h t e
  unfold tokV tokC at hst
  have HST := Lib.hid hst
  clear h hl hst
  obtain ⟨tk, htk⟩ : ∃ tk, tk = t := ⟨_, rfl⟩
  have HTK := Lib.hid htk
  rw [← htk]
  obtain ⟨kd, tx, nu, li, co⟩ := t
  unfold tokV tokC
  have HN := Lib.hid (show nameS tk l s = nameS ⟨kd, tx, nu, li, co⟩ l s by rw [htk])
  rw [HN.out]
  simp only [htk]
  clear htk HTK HN
  simp only at HST
  rw [nameS_eq]
  simp only
  obtain ⟨s1, hs1⟩ : ∃ s1 : RdS, s1 = (if 40 < tx.size then s.stop ⟨kd, tx, nu, li, co⟩ 4 else s) := ⟨_, rfl⟩
  have HS1 := Lib.hid hs1
  rw [← hs1]
  have hn1 : s1.n = s.n := by rw [hs1]; split; exact (stop_i _ _ _).2; rfl
  have hn2 : s1.n ≤ 1024 := by omega
  have hgb : g ≠ w.heap.size := Nat.ne_of_lt hg
  clear hs1 hn1
  by_cases h40 : 40 < tx.size
  case' pos =>
    have h41 : (40 : Int) < (tx.size : Int) := by omega
    have HE1 := Lib.hid (show s1 = s.stop ⟨kd, tx, nu, li, co⟩ 4 by rw [HS1.out, if_pos h40])
    go_enter Tryd.func70, Tryd.ntmps70
    go_wp2_with fail
    refine (HST.out _ _ _ (HP.out.up ((Below.refl _ _).al _))).mono ?_
    rintro e w1 ⟨rfl, h1, ho1⟩
    have H1 := Lib.hid (show RB w1 g A c T s1 by rw [HE1.out]; exact h1)
    have HB1 := Lib.hid (show Blk w1 w.heap.size 81 (tokC ⟨kd, tx, nu, li, co⟩) from (Blk.new w 81 (tokC ⟨kd, tx, nu, li, co⟩)).only ho1 (by omega))
    have HO1 := Lib.hid (show Only (· = g) w w1 from ((Only.refl (· = g) w).alloc _).trans ho1)
    clear h1 ho1
    go_wp2_with fail
  case' neg =>
    have h41 : ¬ (40 : Int) < (tx.size : Int) := by omega
    have HE1 := Lib.hid (show s1 = s by rw [HS1.out, if_neg h40])
    go_enter Tryd.func70, Tryd.ntmps70
    go_wp2_with fail
    have H1 := Lib.hid (show RB (w.alloc (.cells #[.int .i64 kd, .string tx, .int .i64 nu, .int .i64 (li : Int), .int .i64 (co : Int)] 81)) g A c T s1 by rw [HE1.out]; exact HP.out.up ((Below.refl _ _).al _))
    have HB1 := Lib.hid (show Blk (w.alloc (.cells #[.int .i64 kd, .string tx, .int .i64 nu, .int .i64 (li : Int), .int .i64 (co : Int)] 81)) w.heap.size 81 (tokC ⟨kd, tx, nu, li, co⟩) from (Blk.new w 81 (tokC ⟨kd, tx, nu, li, co⟩)))
    have HO1 := Lib.hid (show Only (· = g) w (w.alloc (.cells #[.int .i64 kd, .string tx, .int .i64 nu, .int .i64 (li : Int), .int .i64 (co : Int)] 81)) from ((Only.refl (· = g) w).alloc _))
  all_goals
    clear HE1 HS1 HP
    go_loopw [6] (fun v wr => ∃ k : Nat, k ≤ l.length ∧ v = .int .i64 (k : Int) ∧ RB wr g A c T (dupS s1 ⟨kd, tx, nu, li, co⟩ ((l.take k).any (isN tx))) ∧ Blk wr w.heap.size 81 (tokC ⟨kd, tx, nu, li, co⟩) ∧ Only (· = g) w wr) (fun v _ => l.length - (intOf v).toNat)
    case atStart => exact ⟨0, Nat.zero_le _, rfl, H1.out, HB1.out, HO1.out⟩
    case round =>
      obtain ⟨k, hk, rfl, hr, hbl, ho⟩ := hrel
      have HR := Lib.hid hr
      have HB := Lib.hid hbl
      have HO := Lib.hid ho
      have t0 : wr.cell? ⟨w.heap.size, 0, none⟩ = some (.int .i64 kd) := by rw [hbl.cell]; rfl
      have t1 : wr.cell? ⟨w.heap.size, 1, none⟩ = some (.string tx) := by rw [hbl.cell]; rfl
      have t2 : wr.cell? ⟨w.heap.size, 2, none⟩ = some (.int .i64 nu) := by rw [hbl.cell]; rfl
      have t3 : wr.cell? ⟨w.heap.size, 3, none⟩ = some (.int .i64 (li : Int)) := by rw [hbl.cell]; rfl
      have t4 : wr.cell? ⟨w.heap.size, 4, none⟩ = some (.int .i64 (co : Int)) := by rw [hbl.cell]; rfl
      clear hr hbl ho H1 HB1 HO1
      by_cases hlt : k < l.length
      · have j0 : (k : Int) < (l.length : Int) := by omega
        have j1 : (0 : Int) ≤ (k : Int) := by omega
        obtain ⟨ad, x, xl, xn, rfl, hx, _, had, h6, _, _⟩ := (HL.out.keep (Kept.of_only HO.out (fun k hk e => hS k hk e.symm)) (fun _ h => h)).at_ hlt
        have HA := Lib.hid (any_next (p := isN tx) hx)
        have p0 := h6.c0
        clear h6 hx
        by_cases hxt : x.name = tx
        · have HK := Lib.hid (show (l.take (k + 1)).any (isN tx) = true by rw [HA.out]; unfold isN; rw [decide_eq_true hxt]; simp)
          have q0 : (x.name.toList == tx.toList) = true := by rw [bytes_beq, decide_eq_true hxt]
          generalize x.name = nm at *
          clear hxt HA
          go_wp2_with fail
          go_region_held3 (fun w' => w'.cell? (ad.add (k * 6)) = some (.string nm) ∧ w'.cell? ⟨w.heap.size, 1, none⟩ = some (.string tx)) (exact ⟨p0, t1⟩) (first | fail)
          all_goals
            go_wp2_with fail
            refine (HST.out _ _ _ HR.out.drew).mono ?_
            rintro e w5 ⟨rfl, h5, ho5⟩
            rw [dupS_next] at h5
            have H5 := Lib.hid h5
            have HB5 := Lib.hid ((show Blk wr.drew w.heap.size 81 (tokC ⟨kd, tx, nu, li, co⟩) from HB.out).only ho5 (by omega))
            have HO5 := Lib.hid (HO.out.drew.trans ho5)
            clear h5 ho5
            go_wp2_with fail
            refine ⟨⟨k + 1, by omega, by go_num, by rw [HK.out]; exact H5.out, HB5.out, HO5.out⟩, by simp [intOf]; omega⟩
        · have HK := Lib.hid (show (l.take (k + 1)).any (isN tx) = (l.take k).any (isN tx) by rw [HA.out]; unfold isN; rw [decide_eq_false hxt]; simp)
          have q0 : (x.name.toList == tx.toList) = false := by rw [bytes_beq, decide_eq_false hxt]
          generalize x.name = nm at *
          clear hxt HA
          go_wp2_with fail
          go_region_held3 (fun w' => w'.cell? (ad.add (k * 6)) = some (.string nm) ∧ w'.cell? ⟨w.heap.size, 1, none⟩ = some (.string tx)) (exact ⟨p0, t1⟩) (first | fail)
          all_goals
            go_wp2_with fail
            refine ⟨⟨k + 1, by omega, by go_num, by rw [HK.out]; exact HR.out.drew, HB.out, HO.out.drew⟩, by simp [intOf]; omega⟩
      · obtain rfl : k = l.length := by omega
        have hd := dupS_i s1 ⟨kd, tx, nu, li, co⟩ (l.any (isN tx))
        have HR2 := Lib.hid (show RB wr g A c T (dupS s1 ⟨kd, tx, nu, li, co⟩ (l.any (isN tx))) by have h := HR.out; rw [List.take_length] at h; exact h)
        have hd2 : (dupS s1 ⟨kd, tx, nu, li, co⟩ (l.any (isN tx))).n ≤ 1024 := by omega
        clear hd
        generalize dupS s1 ⟨kd, tx, nu, li, co⟩ (l.any (isN tx)) = s2 at *
        obtain ⟨a0, a1, a2, a3, a4, a5, ff⟩ := HR2.out.cs
        have f2 := ff 2
        clear ff HR
        have H3 := Lib.hid (show RB (wr.setCell ⟨g, 2, none⟩ (.int .i64 ((s2.n : Int) + 1))) g A c T ⟨s2.i, s2.n + 1, s2.er, s2.line, s2.col⟩ from HR2.out.set2 (m := s2.n + 1) (by omega))
        have HO3 := Lib.hid (show Only (· = g) w (wr.setCell ⟨g, 2, none⟩ (.int .i64 ((s2.n : Int) + 1))) from HO.out.trans ((Only.refl (· = g) wr).setCell (p := ⟨g, 2, none⟩) (.inl rfl) _))
        by_cases hm : 1024 < s2.n + 1
        · have hm2 : (1024 : Int) < (s2.n : Int) + 1 := by omega
          have HE := Lib.hid (show endS s2 ⟨kd, tx, nu, li, co⟩ = (⟨s2.i, s2.n + 1, s2.er, s2.line, s2.col⟩ : RdS).stop ⟨kd, tx, nu, li, co⟩ 4 by unfold endS; rw [if_pos hm])
          go_wp2_with fail
          refine (HST.out _ _ _ H3.out).mono ?_
          rintro e w5 ⟨rfl, h5, ho5⟩
          have H5 := Lib.hid h5
          have HO5 := Lib.hid (HO3.out.trans ho5)
          clear h5 ho5
          go_wp2_with fail
          go_end0
          rw [HE.out]
          exact ⟨rfl, H5.out, HO5.out⟩
        · have hm2 : ¬ (1024 : Int) < (s2.n : Int) + 1 := by omega
          have HE := Lib.hid (show endS s2 ⟨kd, tx, nu, li, co⟩ = ⟨s2.i, s2.n + 1, s2.er, s2.line, s2.col⟩ by unfold endS; rw [if_neg hm])
          go_wp2_with fail
          go_end0
          rw [HE.out]
          exact ⟨rfl, H3.out, HO3.out⟩
end Go.Proofs.YtfmdbmalmeimbaaDoor
/- value of the reference's reader. -/
namespace Go.Proofs.YtfmdbmalmeimbaaDoor
open Go.RowKit
set_option maxRecDepth 100000

def anyNode (v : Value) : Prop := ∃ t : Nd, v = .agg (ncA t (.slice none 0 0) (.slice none 0 0))
def RValRet (w : World) (g : Nat) (A : Option Addr) (c : Nat) (T : List Tk) (r : PR Nd) : Ending → World → Prop := ReadRet w g A c T (NodeV w) anyNode r

/-- the node that is handed over and the result lie as they lay -/
structure VS (w wr : World) (g : Nat) (cn : Array Value) : Prop where
  nb : Blk wr w.heap.size 48 cn
  res : Blk wr (w.heap.size + 1) 48 Z6
  only : Only (· = g) w wr
section
variable {w wr w' : World} {g : Nat} {cn : Array Value}
theorem VS.next (h : VS w wr g cn) (hg : g < w.heap.size) (ho : Only (· = g) wr w') : VS w w' g cn := ⟨h.nb.only ho (by omega), h.res.only ho (by omega), h.only.trans ho⟩
theorem VS.up (h : VS w wr g cn) (hb : Below wr.heap.size wr w') : VS w w' g cn := ⟨h.nb.below hb h.nb.lt, h.res.below hb h.res.lt, h.only.next hb⟩
theorem VS.start (ho : Only (· = g) ((w.alloc (.cells cn 48)).alloc (.cells Z6 48)) wr) (hg : g < w.heap.size) : VS w wr g cn := by
  have b0 := Blk.new w 48 cn
  have b1 := Blk.new (w.alloc (.cells cn 48)) 48 Z6
  rw [show (w.alloc (.cells cn 48)).heap.size = w.heap.size + 1 by simp] at b1
  exact ⟨(b0.below ((Below.refl _ _).al (.cells Z6 48)) b0.lt).only ho (by omega), b1.only ho (by omega), (((Only.refl (· = g) w).alloc _).alloc _).trans ho⟩
theorem VS.set (h : VS w wr g cn) (k : Nat) (u : Value) : VS w (wr.setCell ⟨w.heap.size, k, none⟩ u) g (cn.setIfInBounds k u) :=
  have ho : Only (· = w.heap.size) wr (wr.setCell ⟨w.heap.size, k, none⟩ u) := (Only.refl (· = w.heap.size) wr).setCell (p := ⟨w.heap.size, k, none⟩) (.inl rfl) u
  ⟨h.nb.set_ k u, h.res.only ho (by omega), h.only.setCell (p := ⟨w.heap.size, k, none⟩) (.inr (Nat.le_refl _)) u⟩
theorem VS.nc {v0 v1 v2 v3 v4 v5 : Value} (h : VS w wr g #[v0, v1, v2, v3, v4, v5]) : (wr.cell? ⟨w.heap.size, 0, none⟩ = some v0 ∧ wr.cell? ⟨w.heap.size, 1, none⟩ = some v1 ∧ wr.cell? ⟨w.heap.size, 2, none⟩ = some v2 ∧ wr.cell? ⟨w.heap.size, 3, none⟩ = some v3 ∧ wr.cell? ⟨w.heap.size, 4, none⟩ = some v4 ∧ wr.cell? ⟨w.heap.size, 5, none⟩ = some v5) ∧ ∀ o, wr.frozen? ⟨w.heap.size, o, none⟩ = false :=
  ⟨⟨by rw [h.nb.cell]; rfl, by rw [h.nb.cell]; rfl, by rw [h.nb.cell]; rfl, by rw [h.nb.cell]; rfl, by rw [h.nb.cell]; rfl, by rw [h.nb.cell]; rfl⟩, fun o => h.nb.frozen o⟩
theorem VS.rc (h : VS w wr g cn) : (wr.cell? ⟨w.heap.size + 1, 0, none⟩ = some (.string ⟨#[]⟩) ∧ wr.cell? ⟨w.heap.size + 1, 1, none⟩ = some (.int .i64 0) ∧ wr.cell? ⟨w.heap.size + 1, 2, none⟩ = some (.int .i64 0) ∧ wr.cell? ⟨w.heap.size + 1, 3, none⟩ = some (.string ⟨#[]⟩) ∧ wr.cell? ⟨w.heap.size + 1, 4, none⟩ = some (.slice none 0 0) ∧ wr.cell? ⟨w.heap.size + 1, 5, none⟩ = some (.slice none 0 0)) ∧ ∀ o, wr.frozen? ⟨w.heap.size + 1, o, none⟩ = false :=
  ⟨⟨by rw [h.res.cell]; rfl, by rw [h.res.cell]; rfl, by rw [h.res.cell]; rfl, by rw [h.res.cell]; rfl, by rw [h.res.cell]; rfl, by rw [h.res.cell]; rfl⟩, fun o => h.res.frozen o⟩
end
/-- a node lies, whatever it holds, in a world of a size -/
def VB (g n : Nat) (w : World) : Prop := w.heap.size = n ∧ ∃ cs, Blk w g 48 cs
theorem VB.set {g n : Nat} {w : World} (hs : VB g n w) (k : Nat) (u : Value) : VB g n (w.setCell ⟨g, k, none⟩ u) := by
  obtain ⟨hn, ⟨cs, b⟩⟩ := hs
  exact ⟨by simpa [World.setCell] using hn, ⟨_, b.set_ k u⟩⟩
theorem VB.cells {g n : Nat} {kd nu li co : Int} {tx : ByteArray} {w : World} (hs : VB g n w) :
    (w.alloc (.cells #[.int .i64 kd, .string tx, .int .i64 nu, .int .i64 li, .int .i64 co] 81)).drew.cell? ⟨n, 1, none⟩ = some (.string tx) ∧
    (w.alloc (.cells #[.int .i64 kd, .string tx, .int .i64 nu, .int .i64 li, .int .i64 co] 81)).drew.cell? ⟨n, 2, none⟩ = some (.int .i64 nu) ∧
    (w.alloc (.cells #[.int .i64 kd, .string tx, .int .i64 nu, .int .i64 li, .int .i64 co] 81)).drew.frozen? ⟨g, 1, none⟩ = false ∧
    (w.alloc (.cells #[.int .i64 kd, .string tx, .int .i64 nu, .int .i64 li, .int .i64 co] 81)).drew.frozen? ⟨g, 2, none⟩ = false ∧
    (w.alloc (.cells #[.int .i64 kd, .string tx, .int .i64 nu, .int .i64 li, .int .i64 co] 81)).drew.frozen? ⟨g, 3, none⟩ = false := by
  obtain ⟨hn, ⟨cs, b⟩⟩ := hs
  subst hn
  have bt := Blk.new w 81 #[.int .i64 kd, .string tx, .int .i64 nu, .int .i64 li, .int .i64 co]
  have b' := (b.below ((Below.refl _ _).al (.cells #[.int .i64 kd, .string tx, .int .i64 nu, .int .i64 li, .int .i64 co] 81)) b.lt)
  exact ⟨(bt.cell 1).trans rfl, (bt.cell 2).trans rfl, b'.frozen 1, b'.frozen 2, b'.frozen 3⟩
/-- the node that is handed over is handed back -/
theorem value_ret {w wr : World} {g c i n : Nat} {A : Option Addr} {T : List Tk} {t : Nd} {vl vn : Value} (hv : VS w wr g (ncA t vl vn)) (hp : RB wr g A c T ⟨i, n, 0, 0, 0⟩) (hn : n ≤ 1024) (hg : g < w.heap.size) (hl : TL wr (fun k => w.heap.size + 1 < k) vl t.list) (hm : NL wr (fun k => w.heap.size + 1 < k) vn t.nodes) :
    RValRet w g A c T (.ok t i n) (.returned (.agg (ncA t vl vn))) (put6 wr (w.heap.size + 1) (.string t.name) (.int .i64 t.kind) (.int .i64 t.num) (.string t.text) vl vn) := by
  have ho := put6_only wr (w.heap.size + 1) (.string t.name) (.int .i64 t.kind) (.int .i64 t.num) (.string t.text) vl vn
  have hk : Kept (fun k => w.heap.size + 1 < k) wr (put6 wr (w.heap.size + 1) (.string t.name) (.int .i64 t.kind) (.int .i64 t.num) (.string t.text) vl vn) := Kept.of_only ho (fun k hk e => by have hk : w.heap.size + 1 < k := hk; omega)
  refine ⟨_, rfl, ⟨vl, vn, rfl, hl.keep hk (fun k hk => by have hk : w.heap.size + 1 < k := hk; show w.heap.size ≤ k; omega), hm.keep hk (fun k hk => by have hk : w.heap.size + 1 < k := hk; show w.heap.size ≤ k; omega)⟩, hp.only ho (fun k e => by rw [e]; omega), hn, put6_from hv.only (by omega) _ _ _ _ _ _⟩
theorem value_bad {w wr : World} {g c : Nat} {A : Option Addr} {T : List Tk} {t : Nd} {vl vn : Value} {s : RdS} {f : Fl} (hv : VS w wr g (ncA t vl vn)) (hp : RB wr g A c T s) (hf : s.fl = f) (he : f.er ≠ 0) (hg : g < w.heap.size) (h1 : vl = .slice none 0 0) (h2 : vn = .slice none 0 0) :
    RValRet w g A c T (.bad f) (.returned (.agg (ncA t vl vn))) (put6 wr (w.heap.size + 1) (.string t.name) (.int .i64 t.kind) (.int .i64 t.num) (.string t.text) vl vn) := by
  have ho := put6_only wr (w.heap.size + 1) (.string t.name) (.int .i64 t.kind) (.int .i64 t.num) (.string t.text) vl vn
  subst h1 h2
  exact ⟨he, _, s, rfl, ⟨t, rfl⟩, hp.only ho (fun k e => by rw [e]; omega), hf, put6_from hv.only (by omega) _ _ _ _ _ _⟩
theorem tl_nil (w : World) (S : Nat → Prop) : TL w S (.slice none 0 0) [] := ⟨none, 0, rfl, Nat.le_refl _, fun h => absurd h (Nat.lt_irrefl _)⟩
theorem RValRet.drew {w w' : World} {g c : Nat} {A : Option Addr} {T : List Tk} {r : PR Nd} {e : Ending} (h : RValRet w g A c T r e w') : RValRet w g A c T r e w'.drew := by
  cases r with
  | ok t i n =>
    obtain ⟨v, rfl, ⟨vl, vn, rfl, h1, h2⟩, hp, hn, ho⟩ := h
    exact ⟨_, rfl, ⟨vl, vn, rfl, h1.up (Below.refl _ _).drew, h2.up (Below.refl _ _).drew⟩, hp.drew, hn, ho.drew⟩
  | bad f =>
    obtain ⟨he, v, s, rfl, hb, hp, hf, ho⟩ := h
    exact ⟨he, _, s, rfl, hb, hp.drew, hf, ho.drew⟩
set_option maxHeartbeats 8000000 in
theorem rvalue_any {w : World} {g c i n : Nat} {A : Option Addr} {T : List Tk} (h : RB w g A c T ⟨i, n, 0, 0, 0⟩) (hn : n ≤ 1024) (name : ByteArray) :
    Calls Tryd.prog 71 #[.pointer (some ⟨g, 0, none⟩), .agg #[.string name, .int .i64 0, .int .i64 0, .string ⟨#[]⟩, .slice none 0 0, .slice none 0 0]] w (RValRet w g A c T (valueP T name i n)) := by
  have hg := h.blk.lt
  have hlen := h.ok.small
  have hi : i < T.length := h.hi
  have HOK := Lib.hid h.ok
  have HN := Lib.hid hn
  have HP := Lib.hid h
  clear h
  go_enter Tryd.func71, Tryd.ntmps71
  go_wp2_with fail
  refine (rnext_any (HP.out.up (((Below.refl _ _).al _).al _))).mono ?_
  rintro e w1 ⟨rfl, h1, ho1⟩
  have H1 := Lib.hid (show RB w1 g A c T ⟨nx T i, n, 0, 0, 0⟩ from h1)
  have HV1 := Lib.hid (VS.start ho1 hg)
  clear h1 ho1
  unfold tokV tokC
  simp only
  obtain ⟨t, ht⟩ : ∃ t, tkAt T i = t := ⟨_, rfl⟩
  have HT := Lib.hid ht
  rw [ht]
  clear ht
  have HVB := Lib.hid (show VB w.heap.size w1.heap.size w1 from ⟨rfl, ⟨_, HV1.out.nb⟩⟩)
  have hg1 : w.heap.size + 1 < w1.heap.size := HV1.out.res.lt
  have hg2 : w.heap.size < w1.heap.size := by omega
  obtain ⟨⟨n0, n1, n2, n3, n4, n5⟩, nf⟩ := HV1.out.nc
  by_cases h2 : t.kind = 2
  · have q2 : (t.kind == 2) = true := beq_iff_eq.2 h2
    have HSG := Lib.hid (show isSign t 91 = false by unfold isSign; rw [h2]; rfl)
    have HNX := Lib.hid (show nx T i = i + 1 by rw [nx_adv HOK.out hi]; unfold adv; rw [HT.out, if_neg (by omega)])
    have HE := Lib.hid (show valueP T name i n = .ok (.mk name 1 t.num e0 [] []) (i + 1) n by unfold valueP; rw [HT.out, HSG.out]; simp [h2])
    go_wp2_with fail
    go_region_held3 (fun w' => w'.cell? ⟨w1.heap.size, 1, none⟩ = some (.string t.text) ∧ w'.cell? ⟨w1.heap.size, 2, none⟩ = some (.int .i64 t.num) ∧ w'.frozen? ⟨w.heap.size, 1, none⟩ = false ∧ w'.frozen? ⟨w.heap.size, 2, none⟩ = false ∧ w'.frozen? ⟨w.heap.size, 3, none⟩ = false)
      (first | exact VB.cells HVB.out | exact VB.cells (HVB.out.set _ _) | exact VB.cells ((HVB.out.set _ _).set _ _)) (first | fail)
    all_goals
      generalize hW : World.drew _ = W
      have HX := Lib.hid (show VS w W g (ncA (.mk name 1 t.num e0 [] []) (.slice none 0 0) (.slice none 0 0)) by
        rw [← hW]
        first
          | exact ((HV1.out.set 1 (.int .i64 1)).set 2 (.int .i64 t.num)).up ((Below.refl _ _).al _).drew
          | exact ((HV1.out.set 2 (.int .i64 t.num)).set 1 (.int .i64 1)).up ((Below.refl _ _).al _).drew)
      have HRW := Lib.hid (show RB W g A c T ⟨i + 1, n, 0, 0, 0⟩ by
        rw [← hW, ← HNX.out]
        first
          | exact ((H1.out.put ⟨w.heap.size, 1, none⟩ hg (.int .i64 1)).put ⟨w.heap.size, 2, none⟩ hg (.int .i64 t.num)).up ((Below.refl _ _).al _).drew
          | exact ((H1.out.put ⟨w.heap.size, 2, none⟩ hg (.int .i64 t.num)).put ⟨w.heap.size, 1, none⟩ hg (.int .i64 1)).up ((Below.refl _ _).al _).drew)
      clear hW n0 n1 n2 n3 n4 n5 nf
      obtain ⟨⟨n0, n1, n2, n3, n4, n5⟩, nf⟩ := (show VS w W g #[.string name, .int .i64 1, .int .i64 t.num, .string ⟨#[]⟩, .slice none 0 0, .slice none 0 0] from HX.out).nc
      obtain ⟨⟨r0, r1, r2, r3, r4, r5⟩, rf⟩ := HX.out.rc
      go_wp2_with fail
      rw [HE.out]
      exact bodyPost_ret (results_cell_row rfl _ _ (w.heap.size + 1) 48 (ncA (.mk name 1 t.num e0 [] []) (.slice none 0 0) (.slice none 0 0)) (0, 0) _ rfl (put6_blk HX.out.res) Tryd.underlying48 rfl (by kernel_rfl)) rfl (value_ret HX.out HRW.out HN.out hg (tl_nil _ _) (.nil _ _))

  · have q2 : (t.kind == 2) = false := beq_eq_false_iff_ne.2 h2
    by_cases h3 : t.kind = 3
    · have q3 : (t.kind == 3) = true := beq_iff_eq.2 h3
      have HSG := Lib.hid (show isSign t 91 = false by unfold isSign; rw [h3]; rfl)
      have HNX := Lib.hid (show nx T i = i + 1 by rw [nx_adv HOK.out hi]; unfold adv; rw [HT.out, if_neg (by omega)])
      have HE := Lib.hid (show valueP T name i n = .ok (.mk name 2 0 t.text [] []) (i + 1) n by unfold valueP; rw [HT.out, HSG.out]; simp [h3])
      go_wp2_with fail
      go_region_held3 (fun w' => w'.cell? ⟨w1.heap.size, 1, none⟩ = some (.string t.text) ∧ w'.cell? ⟨w1.heap.size, 2, none⟩ = some (.int .i64 t.num) ∧ w'.frozen? ⟨w.heap.size, 1, none⟩ = false ∧ w'.frozen? ⟨w.heap.size, 2, none⟩ = false ∧ w'.frozen? ⟨w.heap.size, 3, none⟩ = false)
        (first | exact VB.cells HVB.out | exact VB.cells (HVB.out.set _ _) | exact VB.cells ((HVB.out.set _ _).set _ _)) (first | fail)
      all_goals
        generalize hW : World.drew _ = W
        have HX := Lib.hid (show VS w W g (ncA (.mk name 2 0 t.text [] []) (.slice none 0 0) (.slice none 0 0)) by
          rw [← hW]
          first
            | exact ((HV1.out.set 1 (.int .i64 2)).set 3 (.string t.text)).up ((Below.refl _ _).al _).drew
            | exact ((HV1.out.set 3 (.string t.text)).set 1 (.int .i64 2)).up ((Below.refl _ _).al _).drew)
        have HRW := Lib.hid (show RB W g A c T ⟨i + 1, n, 0, 0, 0⟩ by
          rw [← hW, ← HNX.out]
          first
            | exact ((H1.out.put ⟨w.heap.size, 1, none⟩ hg (.int .i64 2)).put ⟨w.heap.size, 3, none⟩ hg (.string t.text)).up ((Below.refl _ _).al _).drew
            | exact ((H1.out.put ⟨w.heap.size, 3, none⟩ hg (.string t.text)).put ⟨w.heap.size, 1, none⟩ hg (.int .i64 2)).up ((Below.refl _ _).al _).drew)
        clear hW n0 n1 n2 n3 n4 n5 nf
        obtain ⟨⟨n0, n1, n2, n3, n4, n5⟩, nf⟩ := (show VS w W g #[.string name, .int .i64 2, .int .i64 0, .string t.text, .slice none 0 0, .slice none 0 0] from HX.out).nc
        obtain ⟨⟨r0, r1, r2, r3, r4, r5⟩, rf⟩ := HX.out.rc
        go_wp2_with fail
        rw [HE.out]
        exact bodyPost_ret (results_cell_row rfl _ _ (w.heap.size + 1) 48 (ncA (.mk name 2 0 t.text [] []) (.slice none 0 0) (.slice none 0 0)) (0, 0) _ rfl (put6_blk HX.out.res) Tryd.underlying48 rfl (by kernel_rfl)) rfl (value_ret HX.out HRW.out HN.out hg (tl_nil _ _) (.nil _ _))

    · have q3 : (t.kind == 3) = false := beq_eq_false_iff_ne.2 h3
      rcases sign_cases t 91 with ⟨hs, s1, s2, s3, s4⟩ | ⟨hs, s1, s2, s3, s4⟩ | ⟨hs, s1, s2⟩
      · have hk4 := (sign_kind hs).1
        have HNX := Lib.hid (show nx T i = i + 1 by rw [nx_adv HOK.out hi]; unfold adv; rw [HT.out, if_neg (by omega)])
        have H1b := Lib.hid (show RB w1 g A c T ⟨i + 1, n, 0, 0, 0⟩ by rw [← HNX.out]; exact H1.out)
        have HL := Lib.hid (rlist_any (H1b.out.up ((Below.refl _ _).al (.cells (tokC t) 81))) HN.out)
        unfold tokC at HL
        have HSG := Lib.hid hs
        clear hs hk4 n0 n1 n2 n3 n4 n5 nf
        cases hr : listT T (i + 1) n with
        | bad fl =>
          rw [hr] at HL
          have HE2 := Lib.hid (show valueP T name i n = .bad fl by unfold valueP; rw [HT.out, if_pos HSG.out, hr])
          clear hr
          go_wp2_with fail
          refine HL.out.mono ?_
          rintro e w2 ⟨he, v, s, rfl, rfl, h2, hf, ho2⟩
          have HV2 := Lib.hid ((HV1.out.up ((Below.refl _ _).al _)).next hg ho2)
          have HRS := Lib.hid ((h2.put ⟨w.heap.size, 1, none⟩ hg (.int .i64 3)).put ⟨w.heap.size, 4, none⟩ hg (.slice none 0 0))
          have HX := Lib.hid (show VS w ((w2.setCell ⟨w.heap.size, 1, none⟩ (.int .i64 3)).setCell ⟨w.heap.size, 4, none⟩ (.slice none 0 0)) g (ncA (.mk name 3 0 e0 [] []) (.slice none 0 0) (.slice none 0 0)) from (HV2.out.set 1 (.int .i64 3)).set 4 (.slice none 0 0))
          obtain ⟨⟨n0, n1, n2, n3, n4, n5⟩, nf⟩ := HV2.out.nc
          obtain ⟨⟨r0, r1, r2, r3, r4, r5⟩, rf⟩ := HV2.out.rc
          clear h2 ho2
          go_wp2_with fail
          rw [HE2.out]
          exact bodyPost_ret (results_cell_row rfl _ _ (w.heap.size + 1) 48 (ncA (.mk name 3 0 e0 [] []) (.slice none 0 0) (.slice none 0 0)) (0, 0) _ rfl (put6_blk HX.out.res) Tryd.underlying48 rfl (by kernel_rfl)) rfl (value_bad HX.out HRS.out hf he hg rfl rfl)
        | ok l i' n' =>
          rw [hr] at HL
          have HE2 := Lib.hid (show valueP T name i n = .ok (.mk name 3 0 e0 l []) i' n' by unfold valueP; rw [HT.out, if_pos HSG.out, hr])
          clear hr
          go_wp2_with fail
          refine HL.out.mono ?_
          rintro e w2 ⟨v, rfl, htl, h2, hn2, ho2⟩
          have HV2 := Lib.hid ((HV1.out.up ((Below.refl _ _).al _)).next hg ho2)
          have HTL := Lib.hid (show TL w2 (fun k => w.heap.size + 1 < k) v l from htl.mono (fun k hk => by have hk : (w1.alloc _).heap.size ≤ k := hk; simp at hk; omega))
          have HRS := Lib.hid h2
          have HN2 := Lib.hid hn2
          obtain ⟨⟨n0, n1, n2, n3, n4, n5⟩, nf⟩ := HV2.out.nc
          obtain ⟨⟨r0, r1, r2, r3, r4, r5⟩, rf⟩ := HV2.out.rc
          obtain ⟨Av, cv, rfl, _⟩ := id htl
          have HX := Lib.hid (show VS w ((w2.setCell ⟨w.heap.size, 1, none⟩ (.int .i64 3)).setCell ⟨w.heap.size, 4, none⟩ (.slice Av l.length cv)) g (ncA (.mk name 3 0 e0 l []) (.slice Av l.length cv) (.slice none 0 0)) from (HV2.out.set 1 (.int .i64 3)).set 4 (.slice Av l.length cv))
          have HRX := Lib.hid ((HRS.out.put ⟨w.heap.size, 1, none⟩ hg (.int .i64 3)).put ⟨w.heap.size, 4, none⟩ hg (.slice Av l.length cv))
          have HTX := Lib.hid (HTL.out.keep (S' := fun k => w.heap.size + 1 < k) (Kept.of_only (((Only.refl (· = w.heap.size) w2).setCell (p := ⟨w.heap.size, 1, none⟩) (.inl rfl) (.int .i64 3)).setCell (p := ⟨w.heap.size, 4, none⟩) (.inl rfl) (.slice Av l.length cv)) (fun k hk e => by have hk : w.heap.size + 1 < k := hk; omega)) (fun k hk => hk))
          clear h2 ho2 htl hn2
          go_wp2_with fail
          rw [HE2.out]
          exact bodyPost_ret (results_cell_row rfl _ _ (w.heap.size + 1) 48 (ncA (.mk name 3 0 e0 l []) (.slice Av l.length cv) (.slice none 0 0)) (0, 0) _ rfl (put6_blk HX.out.res) Tryd.underlying48 rfl (by kernel_rfl)) rfl (value_ret HX.out HRX.out HN2.out hg HTX.out (.nil _ _))
      all_goals
        have HST := Lib.hid (rstop_any (H1.out.up ((Below.refl _ _).al (.cells (tokC t) 81))) t 8)
        unfold tokV tokC at HST
        have HE := Lib.hid (show valueP T name i n = .bad (flAt t 8) by unfold valueP; rw [HT.out, if_neg (by rw [hs]; decide), if_neg h2, if_neg h3])
        have HFL := Lib.hid (show ((⟨nx T i, n, 0, 0, 0⟩ : RdS).stop t 8).fl = flAt t 8 by unfold RdS.stop; rw [if_pos rfl]; rfl)
        clear hs n0 n1 n2 n3 n4 n5 nf
        go_wp2_with fail
        refine HST.out.mono ?_
        rintro e w2 ⟨rfl, h2, ho2⟩
        have HX := Lib.hid (show VS w w2 g (ncA (.mk name 0 0 e0 [] []) (.slice none 0 0) (.slice none 0 0)) from (HV1.out.up ((Below.refl _ _).al _)).next hg ho2)
        have HRW := Lib.hid h2
        clear h2 ho2
        obtain ⟨⟨n0, n1, n2, n3, n4, n5⟩, nf⟩ := (show VS w w2 g #[.string name, .int .i64 0, .int .i64 0, .string ⟨#[]⟩, .slice none 0 0, .slice none 0 0] from HX.out).nc
        obtain ⟨⟨r0, r1, r2, r3, r4, r5⟩, rf⟩ := HX.out.rc
        go_wp2_with fail
        rw [HE.out]
        exact bodyPost_ret (results_cell_row rfl _ _ (w.heap.size + 1) 48 (ncA (.mk name 0 0 e0 [] []) (.slice none 0 0) (.slice none 0 0)) (0, 0) _ rfl (put6_blk HX.out.res) Tryd.underlying48 rfl (by kernel_rfl)) rfl (value_bad HX.out HRW.out HFL.out (by decide : (8 : Int) ≠ 0) hg rfl rfl)
end Go.Proofs.YtfmdbmalmeimbaaDoor
/- value of the reference's reader, behind an error. -/
namespace Go.Proofs.YtfmdbmalmeimbaaDoor
open Go.RowKit
set_option maxRecDepth 100000

theorem value_kept {w wr : World} {g c : Nat} {A : Option Addr} {T : List Tk} {t : Nd} {vl vn : Value} {s : RdS} {f : Fl} (hv : VS w wr g (ncA t vl vn)) (hp : RB wr g A c T s) (hf : s.fl = f) (hg : g < w.heap.size) (h1 : vl = .slice none 0 0) (h2 : vn = .slice none 0 0) :
    KeptRet w g A c T anyNode f (.returned (.agg (ncA t vl vn))) (put6 wr (w.heap.size + 1) (.string t.name) (.int .i64 t.kind) (.int .i64 t.num) (.string t.text) vl vn) := by
  have ho := put6_only wr (w.heap.size + 1) (.string t.name) (.int .i64 t.kind) (.int .i64 t.num) (.string t.text) vl vn
  subst h1 h2
  exact ⟨_, s, rfl, ⟨t, rfl⟩, hp.only ho (fun k e => by rw [e]; omega), hf, put6_from hv.only (by omega) _ _ _ _ _ _⟩
set_option maxHeartbeats 8000000 in
theorem rvalue_bad {w : World} {g c : Nat} {A : Option Addr} {T : List Tk} {s : RdS} (h : RB w g A c T s) (he : s.er ≠ 0) (name : ByteArray) :
    Calls Tryd.prog 71 #[.pointer (some ⟨g, 0, none⟩), .agg #[.string name, .int .i64 0, .int .i64 0, .string ⟨#[]⟩, .slice none 0 0, .slice none 0 0]] w (KeptRet w g A c T anyNode s.fl) := by
  have hg := h.blk.lt
  have HP := Lib.hid h
  have HER := Lib.hid he
  clear h he
  go_enter Tryd.func71, Tryd.ntmps71
  go_wp2_with fail
  refine (rnext_any (HP.out.up (((Below.refl _ _).al _).al _))).mono ?_
  rintro e w1 ⟨rfl, h1, ho1⟩
  have H1 := Lib.hid h1
  have HV1 := Lib.hid (VS.start ho1 hg)
  clear h1 ho1
  unfold tokV tokC
  obtain ⟨t, ht⟩ : ∃ t, tkAt T s.i = t := ⟨_, rfl⟩
  rw [ht]
  clear ht
  have HVB := Lib.hid (show VB w.heap.size w1.heap.size w1 from ⟨rfl, ⟨_, HV1.out.nb⟩⟩)
  have hg1 : w.heap.size + 1 < w1.heap.size := HV1.out.res.lt
  have hg2 : w.heap.size < w1.heap.size := by omega
  obtain ⟨⟨n0, n1, n2, n3, n4, n5⟩, nf⟩ := HV1.out.nc
  by_cases h2 : t.kind = 2
  · have q2 : (t.kind == 2) = true := beq_iff_eq.2 h2
    go_wp2_with fail
    go_region_held3 (fun w' => w'.cell? ⟨w1.heap.size, 1, none⟩ = some (.string t.text) ∧ w'.cell? ⟨w1.heap.size, 2, none⟩ = some (.int .i64 t.num) ∧ w'.frozen? ⟨w.heap.size, 1, none⟩ = false ∧ w'.frozen? ⟨w.heap.size, 2, none⟩ = false ∧ w'.frozen? ⟨w.heap.size, 3, none⟩ = false)
      (first | exact VB.cells HVB.out | exact VB.cells (HVB.out.set _ _) | exact VB.cells ((HVB.out.set _ _).set _ _)) (first | fail)
    all_goals
      generalize hW : World.drew _ = W
      have HX := Lib.hid (show VS w W g (ncA (.mk name 1 t.num e0 [] []) (.slice none 0 0) (.slice none 0 0)) by
        rw [← hW]
        first
          | exact ((HV1.out.set 1 (.int .i64 1)).set 2 (.int .i64 t.num)).up ((Below.refl _ _).al _).drew
          | exact ((HV1.out.set 2 (.int .i64 t.num)).set 1 (.int .i64 1)).up ((Below.refl _ _).al _).drew)
      have HRW := Lib.hid (show RB W g A c T ⟨nx T s.i, s.n, s.er, s.line, s.col⟩ by
        rw [← hW]
        first
          | exact ((H1.out.put ⟨w.heap.size, 1, none⟩ hg (.int .i64 1)).put ⟨w.heap.size, 2, none⟩ hg (.int .i64 t.num)).up ((Below.refl _ _).al _).drew
          | exact ((H1.out.put ⟨w.heap.size, 2, none⟩ hg (.int .i64 t.num)).put ⟨w.heap.size, 1, none⟩ hg (.int .i64 1)).up ((Below.refl _ _).al _).drew)
      clear hW n0 n1 n2 n3 n4 n5 nf
      obtain ⟨⟨n0, n1, n2, n3, n4, n5⟩, nf⟩ := (show VS w W g #[.string name, .int .i64 1, .int .i64 t.num, .string ⟨#[]⟩, .slice none 0 0, .slice none 0 0] from HX.out).nc
      obtain ⟨⟨r0, r1, r2, r3, r4, r5⟩, rf⟩ := HX.out.rc
      go_wp2_with fail
      exact bodyPost_ret (results_cell_row rfl _ _ (w.heap.size + 1) 48 (ncA (.mk name 1 t.num e0 [] []) (.slice none 0 0) (.slice none 0 0)) (0, 0) _ rfl (put6_blk HX.out.res) Tryd.underlying48 rfl (by kernel_rfl)) rfl (value_kept HX.out HRW.out rfl hg rfl rfl)
  · have q2 : (t.kind == 2) = false := beq_eq_false_iff_ne.2 h2
    by_cases h3 : t.kind = 3
    · have q3 : (t.kind == 3) = true := beq_iff_eq.2 h3
      go_wp2_with fail
      go_region_held3 (fun w' => w'.cell? ⟨w1.heap.size, 1, none⟩ = some (.string t.text) ∧ w'.cell? ⟨w1.heap.size, 2, none⟩ = some (.int .i64 t.num) ∧ w'.frozen? ⟨w.heap.size, 1, none⟩ = false ∧ w'.frozen? ⟨w.heap.size, 2, none⟩ = false ∧ w'.frozen? ⟨w.heap.size, 3, none⟩ = false)
        (first | exact VB.cells HVB.out | exact VB.cells (HVB.out.set _ _) | exact VB.cells ((HVB.out.set _ _).set _ _)) (first | fail)
      all_goals
        generalize hW : World.drew _ = W
        have HX := Lib.hid (show VS w W g (ncA (.mk name 2 0 t.text [] []) (.slice none 0 0) (.slice none 0 0)) by
          rw [← hW]
          first
            | exact ((HV1.out.set 1 (.int .i64 2)).set 3 (.string t.text)).up ((Below.refl _ _).al _).drew
            | exact ((HV1.out.set 3 (.string t.text)).set 1 (.int .i64 2)).up ((Below.refl _ _).al _).drew)
        have HRW := Lib.hid (show RB W g A c T ⟨nx T s.i, s.n, s.er, s.line, s.col⟩ by
          rw [← hW]
          first
            | exact ((H1.out.put ⟨w.heap.size, 1, none⟩ hg (.int .i64 2)).put ⟨w.heap.size, 3, none⟩ hg (.string t.text)).up ((Below.refl _ _).al _).drew
            | exact ((H1.out.put ⟨w.heap.size, 3, none⟩ hg (.string t.text)).put ⟨w.heap.size, 1, none⟩ hg (.int .i64 2)).up ((Below.refl _ _).al _).drew)
        clear hW n0 n1 n2 n3 n4 n5 nf
        obtain ⟨⟨n0, n1, n2, n3, n4, n5⟩, nf⟩ := (show VS w W g #[.string name, .int .i64 2, .int .i64 0, .string t.text, .slice none 0 0, .slice none 0 0] from HX.out).nc
        obtain ⟨⟨r0, r1, r2, r3, r4, r5⟩, rf⟩ := HX.out.rc
        go_wp2_with fail
        exact bodyPost_ret (results_cell_row rfl _ _ (w.heap.size + 1) 48 (ncA (.mk name 2 0 t.text [] []) (.slice none 0 0) (.slice none 0 0)) (0, 0) _ rfl (put6_blk HX.out.res) Tryd.underlying48 rfl (by kernel_rfl)) rfl (value_kept HX.out HRW.out rfl hg rfl rfl)
    · have q3 : (t.kind == 3) = false := beq_eq_false_iff_ne.2 h3
      rcases sign_cases t 91 with ⟨hs, s1, s2, s3, s4⟩ | ⟨hs, s1, s2, s3, s4⟩ | ⟨hs, s1, s2⟩
      · have HL := Lib.hid (rlist_bad (H1.out.up ((Below.refl _ _).al (.cells (tokC t) 81))) HER.out)
        unfold tokC at HL
        clear hs n0 n1 n2 n3 n4 n5 nf
        go_wp2_with fail
        refine HL.out.mono ?_
        rintro e w2 ⟨v, s', rfl, rfl, h2, hf, ho2⟩
        have HF := Lib.hid (show s'.fl = s.fl from hf)
        have HV2 := Lib.hid ((HV1.out.up ((Below.refl _ _).al _)).next hg ho2)
        have HRS := Lib.hid ((h2.put ⟨w.heap.size, 1, none⟩ hg (.int .i64 3)).put ⟨w.heap.size, 4, none⟩ hg (.slice none 0 0))
        have HX := Lib.hid (show VS w ((w2.setCell ⟨w.heap.size, 1, none⟩ (.int .i64 3)).setCell ⟨w.heap.size, 4, none⟩ (.slice none 0 0)) g (ncA (.mk name 3 0 e0 [] []) (.slice none 0 0) (.slice none 0 0)) from (HV2.out.set 1 (.int .i64 3)).set 4 (.slice none 0 0))
        obtain ⟨⟨n0, n1, n2, n3, n4, n5⟩, nf⟩ := HV2.out.nc
        obtain ⟨⟨r0, r1, r2, r3, r4, r5⟩, rf⟩ := HV2.out.rc
        clear h2 ho2 hf
        go_wp2_with fail
        exact bodyPost_ret (results_cell_row rfl _ _ (w.heap.size + 1) 48 (ncA (.mk name 3 0 e0 [] []) (.slice none 0 0) (.slice none 0 0)) (0, 0) _ rfl (put6_blk HX.out.res) Tryd.underlying48 rfl (by kernel_rfl)) rfl (value_kept HX.out HRS.out HF.out hg rfl rfl)
      all_goals
        have HST := Lib.hid (rstop_any (H1.out.up ((Below.refl _ _).al (.cells (tokC t) 81))) t 8)
        unfold tokV tokC at HST
        have HFL := Lib.hid (show ((⟨nx T s.i, s.n, s.er, s.line, s.col⟩ : RdS).stop t 8).fl = s.fl by unfold RdS.stop; rw [if_neg HER.out]; rfl)
        clear hs n0 n1 n2 n3 n4 n5 nf
        go_wp2_with fail
        refine HST.out.mono ?_
        rintro e w2 ⟨rfl, h2, ho2⟩
        have HX := Lib.hid (show VS w w2 g (ncA (.mk name 0 0 e0 [] []) (.slice none 0 0) (.slice none 0 0)) from (HV1.out.up ((Below.refl _ _).al _)).next hg ho2)
        have HRW := Lib.hid h2
        clear h2 ho2
        obtain ⟨⟨n0, n1, n2, n3, n4, n5⟩, nf⟩ := (show VS w w2 g #[.string name, .int .i64 0, .int .i64 0, .string ⟨#[]⟩, .slice none 0 0, .slice none 0 0] from HX.out).nc
        obtain ⟨⟨r0, r1, r2, r3, r4, r5⟩, rf⟩ := HX.out.rc
        go_wp2_with fail
        exact bodyPost_ret (results_cell_row rfl _ _ (w.heap.size + 1) 48 (ncA (.mk name 0 0 e0 [] []) (.slice none 0 0) (.slice none 0 0)) (0, 0) _ rfl (put6_blk HX.out.res) Tryd.underlying48 rfl (by kernel_rfl)) rfl (value_kept HX.out HRW.out HFL.out hg rfl rfl)
end Go.Proofs.YtfmdbmalmeimbaaDoor
