/- take, sign, fail. -/
import Derived.Test.YtfmdbmalmeimbaaDoorParse
import Derived.Deep.RegionHeld3
namespace Go.Proofs.YtfmdbmalmeimbaaDoor
open Go.RowKit
set_option maxRecDepth 100000

def TakeRet (w : World) (g : Nat) (A : Option Addr) (c : Nat) (T : List Tk) (i n : Nat) (e : Ending) (w' : World) : Prop := e = .returned (tokV (tkAt T i)) ∧ PB w' g A c T (adv T i) n ∧ Only (· = g) w w'

set_option maxHeartbeats 4000000 in
theorem ptake_any {w : World} {g c i n : Nat} {A : Option Addr} {T : List Tk} (h : PB w g A c T i n) :
    Calls Tryd.prog 40 #[.pointer (some ⟨g, 0, none⟩)] w (TakeRet w g A c T i n) := by
  obtain ⟨gt, rfl, hgt, h5⟩ := h.tok
  obtain ⟨a0, a1, a2, f1, f2⟩ := h.cs
  obtain ⟨t0, t1, t2, t3, t4⟩ := h5
  have hg := h.blk.lt
  have hi := h.hi
  have hlen := h.ok.small
  have i0 : (0 : Int) ≤ (i : Int) := by omega
  have i1 : (i : Int) < (T.length : Int) := by omega
  have HP := Lib.hid h
  have HA := Lib.hid (show adv T i = if (tkAt T i).kind = 5 then i else i + 1 from rfl)
  generalize hta : tkAt T i = t at *
  have HT := Lib.hid hta
  clear h hta hi
  go_enter Tryd.func40, Tryd.ntmps40
  go_wp2_with fail
  go_region_held3 (fun w' => w'.cell? ⟨g, 0, none⟩ = some (.slice (some ⟨gt, 0, none⟩) T.length c) ∧ w'.cell? ⟨g, 1, none⟩ = some (.int .i64 (i : Int)) ∧ w'.cell? ⟨gt, i * 5, none⟩ = some (.int .i64 t.kind) ∧ w'.cell? ⟨gt, i * 5 + 1, none⟩ = some (.string t.text) ∧ w'.cell? ⟨gt, i * 5 + 2, none⟩ = some (.int .i64 t.num) ∧ w'.cell? ⟨gt, i * 5 + 3, none⟩ = some (.int .i64 (t.line : Int)) ∧ w'.cell? ⟨gt, i * 5 + 4, none⟩ = some (.int .i64 (t.col : Int)))
    (go_keep) (first | fail)
  all_goals
    go_wp2_with fail
  · rename_i hk
    have hk' : t.kind ≠ 5 := by simpa using hk
    have hj : i + 1 < T.length := HP.out.ok.next HP.out.hi (by rw [HT.out]; exact hk')
    have hP := HP.out.set1 hj
    have ho : Only (· = g) w (w.setCell ⟨g, 1, none⟩ (.int .i64 ((i + 1 : Nat) : Int))) := (Only.refl (· = g) w).setCell (p := ⟨g, 1, none⟩) (.inl rfl) _
    refine bodyPost_ret (results_cell_row rfl _ _ w.heap.size 81 (tokC t) (0, 0) _ rfl (blk_two _ (by simp [World.setCell])) Tryd.underlying81 rfl (by kernel_rfl)) rfl ⟨by rw [HT.out]; rfl, ?_, ?_⟩
    · rw [HA.out, if_neg hk']
      exact hP.up (((Below.refl _ _).al _).al _).drew
    · exact ((ho.alloc _).alloc _).drew
  · rename_i hk
    have hk' : t.kind = 5 := by simpa using hk
    refine bodyPost_ret (results_cell_row rfl _ _ w.heap.size 81 (tokC t) (0, 0) _ rfl (blk_two _ rfl) Tryd.underlying81 rfl (by kernel_rfl)) rfl ⟨by rw [HT.out]; rfl, ?_, ?_⟩
    · rw [HA.out, if_pos hk']
      exact HP.out.up (((Below.refl _ _).al _).al _).drew
    · exact (((Only.refl (· = g) w).alloc _).alloc _).drew

def SignRet (w : World) (g : Nat) (A : Option Addr) (c : Nat) (T : List Tk) (i n : Nat) (ch : UInt8) (e : Ending) (w' : World) : Prop :=
  e = .returned (.bool (isSign (tkAt T i) ch)) ∧ PB w' g A c T (if isSign (tkAt T i) ch = true then i + 1 else i) n ∧ Only (· = g) w w'
theorem list_beq {s : ByteArray} {ch : UInt8} : (s.toList == [ch]) = decide (s = ⟨#[ch]⟩) := by
  rw [ByteArray.toList_eq]
  by_cases h : s = ⟨#[ch]⟩
  · subst h; simp
  · rw [decide_eq_false h]
    refine beq_eq_false_iff_ne.2 fun e => h ?_
    obtain ⟨⟨l⟩⟩ := s
    simp only at e
    subst e
    rfl
set_option maxHeartbeats 4000000 in
theorem psign_any {w : World} {g c i n : Nat} {A : Option Addr} {T : List Tk} (ch : UInt8) (h : PB w g A c T i n) :
    Calls Tryd.prog 87 #[.pointer (some ⟨g, 0, none⟩), .string ⟨#[ch]⟩] w (SignRet w g A c T i n ch) := by
  obtain ⟨gt, rfl, hgt, h5⟩ := h.tok
  obtain ⟨a0, a1, a2, f1, f2⟩ := h.cs
  obtain ⟨t0, t1, t2, t3, t4⟩ := h5
  have hg := h.blk.lt
  have hi := h.hi
  have hlen := h.ok.small
  have i0 : (0 : Int) ≤ (i : Int) := by omega
  have i1 : (i : Int) < (T.length : Int) := by omega
  have HP := Lib.hid h
  have HY := Lib.hid (fun hs => h.ok.sign (c := ch) hi hs)
  obtain ⟨b, hb⟩ : ∃ b, isSign (tkAt T i) ch = b := ⟨_, rfl⟩
  have HR := Lib.hid (show SignRet w g (some ⟨gt, 0, none⟩) c T i n ch = fun e w' => e = .returned (.bool b) ∧ PB w' g (some ⟨gt, 0, none⟩) c T (if b = true then i + 1 else i) n ∧ Only (· = g) w w' by rw [← hb]; rfl)
  rw [HR.out]
  rw [hb] at HY
  unfold isSign at hb
  generalize tkAt T i = t at *
  clear h hi HR
  have hcase : (t.kind = 4 ∧ (t.text.toList == [ch]) = true ∧ b = true) ∨ (t.kind = 4 ∧ (t.text.toList == [ch]) = false ∧ b = false) ∨ ((t.kind != 4) = true ∧ b = false) := by
    rw [list_beq, ← hb]
    by_cases h4 : t.kind = 4
    · by_cases hx : t.text = ⟨#[ch]⟩
      · exact .inl ⟨h4, decide_eq_true hx, by rw [decide_eq_true h4, decide_eq_true hx]; rfl⟩
      · exact .inr (.inl ⟨h4, decide_eq_false hx, by rw [decide_eq_true h4, decide_eq_false hx]; rfl⟩)
    · exact .inr (.inr ⟨bne_iff_ne.2 h4, by rw [decide_eq_false h4]; rfl⟩)
  clear hb
  rcases hcase with ⟨q1, q2, rfl⟩ | ⟨q1, q2, rfl⟩ | ⟨q1, rfl⟩
  all_goals
    go_enter Tryd.func87, Tryd.ntmps87
    go_wp2_with fail
    go_region_held3 (fun w' => w'.cell? ⟨g, 0, none⟩ = some (.slice (some ⟨gt, 0, none⟩) T.length c) ∧ w'.cell? ⟨g, 1, none⟩ = some (.int .i64 (i : Int)) ∧ w'.cell? ⟨gt, i * 5, none⟩ = some (.int .i64 t.kind) ∧ w'.cell? ⟨gt, i * 5 + 1, none⟩ = some (.string t.text) ∧ w'.cell? ⟨gt, i * 5 + 2, none⟩ = some (.int .i64 t.num) ∧ w'.cell? ⟨gt, i * 5 + 3, none⟩ = some (.int .i64 (t.line : Int)) ∧ w'.cell? ⟨gt, i * 5 + 4, none⟩ = some (.int .i64 (t.col : Int)))
      (go_keep) (first | fail)
    go_wp2_with fail
    go_ret
  · exact ⟨rfl, (HP.out.set1 (HY.out (by trivial))).up ((Below.refl _ _).al _).drew, (((Only.refl (· = g) w).setCell (p := ⟨g, 1, none⟩) (.inl rfl) _).alloc _).drew⟩
  · exact ⟨rfl, HP.out.up ((Below.refl _ _).al _).drew, ((Only.refl (· = g) w).alloc _).drew⟩
  · exact ⟨rfl, HP.out.up ((Below.refl _ _).al _).drew, ((Only.refl (· = g) w).alloc _).drew⟩

/-- fail panics with the place of a token and an error -/
def flV (f : Fl) : Value := .iface 74 (.agg #[.int .i64 (f.line : Int), .int .i64 (f.col : Int), .int .i64 f.er])
def FailRet (t : Tk) (er : Int) (w : World) (e : Ending) (w' : World) : Prop := e = .panicked [{ v := flV (flAt t er), recovered := false }] ∧ Below w.heap.size w w'
theorem fail_any {w : World} (t : Tk) (er : Int) : Calls Tryd.prog 41 #[tokV t, .int .i64 er] w (FailRet t er w) := by
  unfold tokV tokC
  go_enter Tryd.func41, Tryd.ntmps41
  go_wp2_with fail
  exact ⟨rfl, rfl, (Below.refl _ _).al _⟩
end Go.Proofs.YtfmdbmalmeimbaaDoor
