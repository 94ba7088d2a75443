/- The scanner adds a token. -/
import Derived.Test.YtfmdbmalmeimbaaDoorMove
namespace Go.Proofs.YtfmdbmalmeimbaaDoor
open Go.RowKit
set_option maxRecDepth 100000

def tcells (t : Tk) : List Value := [.int .i64 t.kind, .string t.text, .int .i64 t.num, .int .i64 (t.line : Int), .int .i64 (t.col : Int)]
def TC (l : List Tk) : List Value := l.flatMap tcells
theorem TC_append (a b : List Tk) : TC (a ++ b) = TC a ++ TC b := by simp [TC]
theorem TC_len (l : List Tk) : (TC l).length = l.length * 5 := by
  induction l with
  | nil => rfl
  | cons t l ih => show (tcells t ++ TC l).length = _; rw [List.length_append, ih, List.length_cons]; show 5 + _ = _; omega
theorem token_info : (Tryd.prog.info? 81).map (fun i => (i.zero, i.size, i.bytes)) = some (some (.agg #[.int .i64 0, .string ⟨#[]⟩, .int .i64 0, .int .i64 0, .int .i64 0]), 5, 48) := by kernel_rfl
/-- the scanner at byte i, with tokens out -/
structure SC (base : Nat) (w : World) (g : Nat) (s : ByteArray) (i : Nat) (v : Value) (out : List Tk) : Prop where
  blk : Blk w g 102 (scb s i v)
  own : w.ownsRow base 81 5 v out.length (TC out)
  le : i ≤ s.size
  ge : base ≤ g
  ne : ∀ k, v.ownBlock = some k → k ≠ g
  num : out.length ≤ i + 1
/-- what a step of the scanner may turn -/
def FS (g : Nat) (v : Value) (k : Nat) : Prop := k = g ∨ v.ownBlock = some k
/-- a step ends: the scanner stands at byte j, with tokens out; er is what is returned -/
def ScRet (base g : Nat) (s : ByteArray) (j : Nat) (v : Value) (out : List Tk) (er : Value) (w : World) (e : Ending) (w' : World) : Prop :=
  e = .returned er ∧ ∃ v', SC base w' g s j v' out ∧ Only (FS g v) w w' ∧ (∀ k, v'.ownBlock = some k → v.ownBlock = some k ∨ w.heap.size ≤ k)
theorem own_form {base : Nat} {w : World} {e : TypeId} {size n : Nat} {v : Value} {xs : List Value} (h : w.ownsRow base e size v n xs) : ∃ A c, v = .slice A n c := by
  rcases h.2 with ⟨rfl, hn⟩ | ⟨g, cap, cur, rfl, _⟩
  · exact ⟨none, 0, by rw [hn]⟩
  · exact ⟨_, cap, rfl⟩
/-- a token in the second of two new blocks -/
theorem two_reads (w : World) (o : Obj) (t : Tk) : Reads (((w.alloc o).alloc (.cells #[.int .i64 t.kind, .string t.text, .int .i64 t.num, .int .i64 (t.line : Int), .int .i64 (t.col : Int)] 81)).drew) (((w.alloc o).alloc (.cells #[.int .i64 t.kind, .string t.text, .int .i64 t.num, .int .i64 (t.line : Int), .int .i64 (t.col : Int)] 81)).drew).heap.size 5 (some ⟨w.heap.size + 1, 0, none⟩) 1 (tcells t) := by
  have e : (w.alloc o).heap.size = w.heap.size + 1 := by show (w.heap.push o).size = _; simp
  have h := Reads.of_own (World.ownsRow_lit (base := w.heap.size) (e := 81) (size := 5) (w.alloc o) #[.int .i64 t.kind, .string t.text, .int .i64 t.num, .int .i64 (t.line : Int), .int .i64 (t.col : Int)] 1 (by omega) (by unfold maxLen; omega) rfl)
  rw [e] at h
  exact h
set_option maxRecDepth 100000 in
set_option maxHeartbeats 4000000 in
theorem add_any (base g : Nat) (s : ByteArray) (i n : Nat) (v : Value) (out : List Tk) (kind num l0 c0 : Int) (text : ByteArray) (w : World) (h : SC base w g s i v out) (hn : i + n ≤ s.size) (hs : s.size ≤ 100000) (hn0 : 1 ≤ n ∨ out.length ≤ i + n) :
    Calls Tryd.prog 62 #[.pointer (some ⟨g, 0, none⟩), .agg #[.int .i64 kind, .string text, .int .i64 num, .int .i64 l0, .int .i64 c0], .int .i64 (n : Int)] w
      (ScRet base g s (i + n) v (out ++ [⟨kind, text, num, (posAt s.data.toList i).1, (posAt s.data.toList i).2⟩]) (.tuple #[]) w) := by
  have H := Lib.hid h
  obtain ⟨i0, hi0, hz0, hz1, hz2⟩ := info_parts token_info
  have hol := h.num
  have hle := h.le
  have c2 : w.cell? ⟨g, 2, none⟩ = some (.int .i64 ((posAt s.data.toList i).1 : Int)) := by rw [h.blk.cell]; rfl
  have c3 : w.cell? ⟨g, 3, none⟩ = some (.int .i64 ((posAt s.data.toList i).2 : Int)) := by rw [h.blk.cell]; rfl
  have c4 : w.cell? ⟨g, 4, none⟩ = some v := by rw [h.blk.cell]; rfl
  have f4 := h.blk.frozen 4
  have hgl := h.blk.lt
  clear h
  obtain ⟨L, hL⟩ : ∃ L, (posAt s.data.toList i).1 = L := ⟨_, rfl⟩
  obtain ⟨C, hC⟩ : ∃ C, (posAt s.data.toList i).2 = C := ⟨_, rfl⟩
  rw [hL] at c2 ⊢
  rw [hC] at c3 ⊢
  have HL := Lib.hid hL
  have HC := Lib.hid hC
  clear hL hC
  have HOW := Lib.hid (own_only H.out.own ((((Only.refl (fun _ => False) w).alloc (.cells #[.int .i64 kind, .string text, .int .i64 num, .int .i64 (L : Int), .int .i64 (C : Int)] 81)).alloc (.cells #[.int .i64 kind, .string text, .int .i64 num, .int .i64 (L : Int), .int .i64 (C : Int)] 81)).drew) (fun _ _ h => h))
  have HBW := Lib.hid (((H.out.blk.alloc (.cells #[.int .i64 kind, .string text, .int .i64 num, .int .i64 (L : Int), .int .i64 (C : Int)] 81)).alloc (.cells #[.int .i64 kind, .string text, .int .i64 num, .int .i64 (L : Int), .int .i64 (C : Int)] 81)).drew)
  have HOL := Lib.hid (((((Only.refl (FS g v) w).alloc (.cells #[.int .i64 kind, .string text, .int .i64 num, .int .i64 (L : Int), .int .i64 (C : Int)] 81)).alloc (.cells #[.int .i64 kind, .string text, .int .i64 num, .int .i64 (L : Int), .int .i64 (C : Int)] 81)).drew))
  have HRD := Lib.hid (two_reads w (.cells #[.int .i64 kind, .string text, .int .i64 num, .int .i64 (L : Int), .int .i64 (C : Int)] 81) ⟨kind, text, num, L, C⟩)
  have hge := H.out.ge
  have HSZ := Lib.hid (show base ≤ (((w.alloc (.cells #[.int .i64 kind, .string text, .int .i64 num, .int .i64 (L : Int), .int .i64 (C : Int)] 81)).alloc (.cells #[.int .i64 kind, .string text, .int .i64 num, .int .i64 (L : Int), .int .i64 (C : Int)] 81)).drew).heap.size from Nat.le_trans (by omega) HOL.out.size)
  go_enter Tryd.func62, Tryd.ntmps62
  go_wp2_with fail
  go_region_law (refine step_append_any _ rfl (.tmp 15) (.tmp 17) 70 rfl base 81 i0 _ 5 48 Tryd.underlying70 hi0 hz0 hz1 hz2 rfl (by decide) v out.length (TC out) (by simp [Act.eval]) HOW.out _ (some ⟨w.heap.size + 1, 0, none⟩) 1 1 (tcells ⟨kind, text, num, L, C⟩) (by simp [Act.eval]) HRD.out (by simp [tcells, Value.oneCell']) (by unfold maxLen; omega) (by omega) HSZ.out ?_; intro v' w8 ho8 hg8 hv8; obtain ⟨A8, d8, e8⟩ := own_form ho8; subst e8; have HO8 := Lib.hid ho8; have HB8 := Lib.hid (HBW.out.grown hg8 (fun e => H.out.ne g e.symm rfl)); have HN8 := Lib.hid (HOL.out.grown hg8 (fun k hk => .inl (.inr hk))); have HV8 := Lib.hid hv8; have d4 : w8.cell? ⟨g, 4, none⟩ = some v := (by rw [HB8.out.cell]; rfl); have g4 := HB8.out.frozen 4; clear ho8 hg8 hv8)
  all_goals
    have HBM := Lib.hid (show Blk (w8.setCell ⟨g, 4, none⟩ (.slice A8 (out.length + 1) d8)) g 102 (scb s i (.slice A8 (out.length + 1) d8)) from HB8.out.set_ 4 (.slice A8 (out.length + 1) d8))
    have HOM := Lib.hid (show Only (FS g v) w (w8.setCell ⟨g, 4, none⟩ (.slice A8 (out.length + 1) d8)) from HN8.out.setCell (p := ⟨g, 4, none⟩) (.inl (.inl rfl)) _)
    have hng : ∀ k, (Value.slice A8 (out.length + 1) d8).ownBlock = some k → k ≠ g := by
      intro k hk
      rcases HV8.out with e | e
      · exact H.out.ne k (e ▸ hk)
      · rw [hk] at e
        injection e with e
        have := HOL.out.size
        omega
    have HNG := Lib.hid hng
    have HOW8 := Lib.hid (own_only HO8.out ((Only.refl (· = g) w8).setCell (p := ⟨g, 4, none⟩) (.inl rfl) (.slice A8 (out.length + 1) d8)) hng)
    generalize hwm : w8.setCell ⟨g, 4, none⟩ (.slice A8 (out.length + 1) d8) = wm at HBM HOM HOW8
    clear hng d4 g4 c2 c3 c4 f4
    go_wp2_with fail
    clear hwm
    refine (move_any g s i n _ wm HBM.out hn hs).mono ?_
    rintro e w9 ⟨rfl, hb9, ho9⟩
    have HB9 := Lib.hid hb9
    have HO9 := Lib.hid ho9
    clear hb9 ho9
    go_wp2_with fail
    go_end0
    refine ⟨rfl, _, ⟨HB9.out, ?_, hn, hge, HNG.out, ?_⟩, HOM.out.trans (HO9.out.mono fun k _ hk => .inl hk), ?_⟩
    · have := own_only HOW8.out HO9.out HNG.out
      rw [List.length_append, TC_append]
      exact this
    · rw [List.length_append]
      show out.length + 1 ≤ i + n + 1
      omega
    · intro k hk
      rcases HV8.out with e | e
      · exact .inl (e ▸ hk)
      · rw [hk] at e
        injection e with e
        have := HOL.out.size
        right
        omega
end Go.Proofs.YtfmdbmalmeimbaaDoor
