/- Parse: the walk. -/
import Derived.Test.YtfmdbmalmeimbaaDoorPLex
namespace Go.Proofs.YtfmdbmalmeimbaaDoor
open Go.RowKit
set_option maxRecDepth 100000

def ParseRet (r : List Nd × Nat × Nat × Int) (w : World) (e : Ending) (w' : World) : Prop :=
  ∃ v, e = .returned (.tuple #[v, .agg #[.int .i64 (r.2.1 : Int), .int .i64 (r.2.2.1 : Int)], .int .i64 r.2.2.2]) ∧ NL w' (fun k => w.heap.size ≤ k) v r.1 ∧ Below w.heap.size w w'
/-- the three results lie in memory -/
structure P3 (w wr : World) (v0 v1 v2 v3 : Value) : Prop where
  b0 : Blk wr w.heap.size 30 #[v0]
  b1 : Blk wr (w.heap.size + 1) 37 #[v1, v2]
  b2 : Blk wr (w.heap.size + 1 + 1) 27 #[v3]
  bel : Below w.heap.size w wr
section
variable {w wr w' : World} {v0 v1 v2 v3 : Value}
theorem P3.start (w : World) : P3 w (((w.alloc (.cells #[.slice none 0 0] 30)).alloc (.cells #[.int .i64 0, .int .i64 0] 37)).alloc (.cells #[.int .i64 0] 27)) (.slice none 0 0) (.int .i64 0) (.int .i64 0) (.int .i64 0) := by
  have b0 := Blk.new w 30 #[.slice none 0 0]
  have b1 := Blk.new (w.alloc (.cells #[.slice none 0 0] 30)) 37 #[.int .i64 0, .int .i64 0]
  have b2 := Blk.new ((w.alloc (.cells #[.slice none 0 0] 30)).alloc (.cells #[.int .i64 0, .int .i64 0] 37)) 27 #[.int .i64 0]
  have e1 : (w.alloc (.cells #[.slice none 0 0] 30)).heap.size = w.heap.size + 1 := by simp
  have e2 : ((w.alloc (.cells #[.slice none 0 0] 30)).alloc (.cells #[.int .i64 0, .int .i64 0] 37)).heap.size = w.heap.size + 1 + 1 := by simp
  rw [e1] at b1
  rw [e2] at b2
  have k0 := b0.below ((Below.refl _ _).al (.cells #[.int .i64 0, .int .i64 0] 37)) b0.lt
  exact ⟨k0.below ((Below.refl _ _).al _) k0.lt, b1.below ((Below.refl _ _).al _) b1.lt, b2, (((Below.refl _ _).al _).al _).al _⟩
theorem P3.up (h : P3 w wr v0 v1 v2 v3) (hb : Below wr.heap.size wr w') : P3 w w' v0 v1 v2 v3 := ⟨h.b0.below hb h.b0.lt, h.b1.below hb h.b1.lt, h.b2.below hb h.b2.lt, h.bel.next hb⟩
theorem P3.c (h : P3 w wr v0 v1 v2 v3) : (wr.cell? ⟨w.heap.size, 0, none⟩ = some v0 ∧ wr.cell? ⟨w.heap.size + 1, 0, none⟩ = some v1 ∧ wr.cell? ⟨w.heap.size + 1, 1, none⟩ = some v2 ∧ wr.cell? ⟨w.heap.size + 1 + 1, 0, none⟩ = some v3) ∧
    wr.frozen? ⟨w.heap.size, 0, none⟩ = false ∧ wr.frozen? ⟨w.heap.size + 1, 0, none⟩ = false ∧ wr.frozen? ⟨w.heap.size + 1, 1, none⟩ = false ∧ wr.frozen? ⟨w.heap.size + 1 + 1, 0, none⟩ = false :=
  ⟨⟨by rw [h.b0.cell]; rfl, by rw [h.b1.cell]; rfl, by rw [h.b1.cell]; rfl, by rw [h.b2.cell]; rfl⟩, h.b0.frozen 0, h.b1.frozen 0, h.b1.frozen 1, h.b2.frozen 0⟩
theorem _root_.Go.RowKit.Below.put {w wr : World} (h : Below w.heap.size w wr) (p : Addr) (hp : w.heap.size ≤ p.block) (u : Value) : Below w.heap.size w (wr.setCell p u) :=
  h.trans (((Only.refl (· = p.block) wr).setCell (.inl rfl) u).below h.size (fun k e => by rw [e]; exact hp))
/-- the place and the error are written -/
theorem P3.pos (h : P3 w wr v0 v1 v2 v3) (u1 u2 u3 : Value) : P3 w (((wr.setCell ⟨w.heap.size + 1, 0, none⟩ u1).setCell ⟨w.heap.size + 1, 1, none⟩ u2).setCell ⟨w.heap.size + 1 + 1, 0, none⟩ u3) v0 u1 u2 u3 :=
  ⟨((h.b0.off_ ⟨w.heap.size + 1, 0, none⟩ u1 (by show w.heap.size ≠ w.heap.size + 1; omega)).off_ ⟨w.heap.size + 1, 1, none⟩ u2 (by show w.heap.size ≠ w.heap.size + 1; omega)).off_ ⟨w.heap.size + 1 + 1, 0, none⟩ u3 (by show w.heap.size ≠ w.heap.size + 1 + 1; omega),
   ((h.b1.set_ 0 u1).set_ 1 u2).off_ ⟨w.heap.size + 1 + 1, 0, none⟩ u3 (by show w.heap.size + 1 ≠ w.heap.size + 1 + 1; omega),
   ((h.b2.off_ ⟨w.heap.size + 1, 0, none⟩ u1 (by show w.heap.size + 1 + 1 ≠ w.heap.size + 1; omega)).off_ ⟨w.heap.size + 1, 1, none⟩ u2 (by show w.heap.size + 1 + 1 ≠ w.heap.size + 1; omega)).set_ 0 u3,
   ((h.bel.put ⟨w.heap.size + 1, 0, none⟩ (by show w.heap.size ≤ w.heap.size + 1; omega) u1).put ⟨w.heap.size + 1, 1, none⟩ (by show w.heap.size ≤ w.heap.size + 1; omega) u2).put ⟨w.heap.size + 1 + 1, 0, none⟩ (by show w.heap.size ≤ w.heap.size + 1 + 1; omega) u3⟩
theorem P3.at_ (h : P3 w wr v0 v1 v2 v3) (u1 u2 : Value) : P3 w ((wr.setCell ⟨w.heap.size + 1, 0, none⟩ u1).setCell ⟨w.heap.size + 1, 1, none⟩ u2) v0 u1 u2 v3 :=
  ⟨(h.b0.off_ ⟨w.heap.size + 1, 0, none⟩ u1 (by show w.heap.size ≠ w.heap.size + 1; omega)).off_ ⟨w.heap.size + 1, 1, none⟩ u2 (by show w.heap.size ≠ w.heap.size + 1; omega),
   (h.b1.set_ 0 u1).set_ 1 u2,
   (h.b2.off_ ⟨w.heap.size + 1, 0, none⟩ u1 (by show w.heap.size + 1 + 1 ≠ w.heap.size + 1; omega)).off_ ⟨w.heap.size + 1, 1, none⟩ u2 (by show w.heap.size + 1 + 1 ≠ w.heap.size + 1; omega),
   (h.bel.put ⟨w.heap.size + 1, 0, none⟩ (by show w.heap.size ≤ w.heap.size + 1; omega) u1).put ⟨w.heap.size + 1, 1, none⟩ (by show w.heap.size ≤ w.heap.size + 1; omega) u2⟩
theorem P3.node (h : P3 w wr v0 v1 v2 v3) (u : Value) : P3 w (wr.setCell ⟨w.heap.size, 0, none⟩ u) u v1 v2 v3 :=
  ⟨h.b0.set_ 0 u, h.b1.off_ ⟨w.heap.size, 0, none⟩ u (by show w.heap.size + 1 ≠ w.heap.size; omega), h.b2.off_ ⟨w.heap.size, 0, none⟩ u (by show w.heap.size + 1 + 1 ≠ w.heap.size; omega), h.bel.put ⟨w.heap.size, 0, none⟩ (Nat.le_refl _) u⟩
end

theorem PB.put_ {w : World} {g c i n : Nat} {A : Option Addr} {T : List Tk} (h : PB w g A c T i n) (p : Addr) (hne : p.block ≠ g) (hA : ∀ ad, A = some ad → ad.block ≠ p.block) (u : Value) : PB (w.setCell p u) g A c T i n := by
  refine ⟨h.blk.off_ p u (Ne.symm hne), ?_, h.ok, h.hi, h.hn⟩
  rcases h.row with h0 | ⟨g', e, hlt, hc⟩
  · exact .inl h0
  · refine .inr ⟨g', e, hlt, fun k t hk => ?_⟩
    have h5 := hc k t hk
    have hn := hA _ e
    exact ⟨cell_far p u h5.c0 hn, cell_far p u h5.c1 hn, cell_far p u h5.c2 hn, cell_far p u h5.c3 hn, cell_far p u h5.c4 hn⟩

set_option maxHeartbeats 8000000 in
theorem pparse_any (s : ByteArray) (w : World) : Calls Tryd.prog 19 #[.string s] w (ParseRet (parseR s.data.toList) w) := by
  have hmf : ∀ (fn : Fn) (first cap : Array Value) (w : World), (Instr.makeFunc fn first cap).run Tryd.prog w = .ok (.func fn first cap) w := fun _ _ _ _ => rfl
  obtain ⟨T, li, co, er, hr⟩ : ∃ T li co er, lexR s.data.toList = ⟨T, li, co, er⟩ := ⟨_, _, _, _, rfl⟩
  have HTK := Lib.hid (fun w => tokens_row s w hr)
  by_cases he : er = 0
  · subst he
    have HOK := Lib.hid (show TOk T by have h := lexR_tok (b := s.data.toList) (by rw [hr]); rw [hr] at h; exact h)
    have HTA := Lib.hid (fun w => (hr ▸ tokens_any s w : Calls Tryd.prog 37 #[.string s] w (LexRet ⟨T, li, co, 0⟩ w)))
    clear HTK
    go_enter_defers Tryd.func19, Tryd.ntmps19
    go_wp2_with fail
    refine (HTA.out _).mono ?_
    rintro e w1 ⟨v, rfl, hown, hb⟩
    obtain ⟨A, c, ev, _⟩ := own_krow hown
    subst ev
    have HP := Lib.hid ((P3.start w).up hb)
    obtain ⟨⟨p0, p1, p2, p3⟩, z0, z1, z2, z3⟩ := HP.out.c
    have HP2 := Lib.hid (HP.out.pos (.int .i64 (li : Int)) (.int .i64 (co : Int)) (.int .i64 0))
    have hz := hb.size
    have hlow : ∀ k, (Value.slice A T.length c).ownBlock = some k → w.heap.size + 3 ≤ k := fun k hk => by
      have := (hown.lt k hk).1
      simpa using this
    have HOW := Lib.hid (own_only (own_only (own_only hown ((Only.refl (· = w.heap.size + 1) w1).setCell (p := ⟨w.heap.size + 1, 0, none⟩) (.inl rfl) (.int .i64 (li : Int))) (fun k hk e => by have := hlow k hk; omega)) ((Only.refl (· = w.heap.size + 1) _).setCell (p := ⟨w.heap.size + 1, 1, none⟩) (.inl rfl) (.int .i64 (co : Int))) (fun k hk e => by have := hlow k hk; omega)) ((Only.refl (· = w.heap.size + 1 + 1) _).setCell (p := ⟨w.heap.size + 1 + 1, 0, none⟩) (.inl rfl) (.int .i64 0)) (fun k hk e => by have := hlow k hk; omega))
    have HA3 := Lib.hid (show ∀ ad, A = some ad → w.heap.size + 3 ≤ ad.block from fun ad e => hlow ad.block (by rw [e]; rfl))
    simp at hz
    have hs2 : (((w1.setCell ⟨w.heap.size + 1, 0, none⟩ (.int .i64 (li : Int))).setCell ⟨w.heap.size + 1, 1, none⟩ (.int .i64 (co : Int))).setCell ⟨w.heap.size + 1 + 1, 0, none⟩ (.int .i64 0)).heap.size = w1.heap.size := by simp [World.setCell]
    clear hown hb hlow
    go_wp2_with fail
    generalize ((w1.setCell ⟨w.heap.size + 1, 0, none⟩ (.int .i64 (li : Int))).setCell ⟨w.heap.size + 1, 1, none⟩ (.int .i64 (co : Int))).setCell ⟨w.heap.size + 1 + 1, 0, none⟩ (.int .i64 0) = w2 at *
    have hPB := (show PB (w2.alloc (.cells #[.slice A T.length c, .int .i64 ((0 : Nat) : Int), .int .i64 ((0 : Nat) : Int)] 78)) w1.heap.size A c T 0 0 from by
      obtain ⟨A', c', e', hkr⟩ := own_krow HOW.out
      obtain rfl : A = A' := by injection e'
      refine ⟨?_, ?_, HOK.out, HOK.out.pos, by omega⟩
      · rw [← hs2]; exact Blk.new w2 78 #[.slice A T.length c, .int .i64 ((0 : Nat) : Int), .int .i64 ((0 : Nat) : Int)]
      · rw [← hs2]; exact hkr.below ((Below.refl _ _).al _) (Nat.le_refl _))
    have HPP := Lib.hid hPB
    have HP3 := Lib.hid (HP2.out.up ((Below.refl w2.heap.size w2).al (.cells #[.slice A T.length c, .int .i64 ((0 : Nat) : Int), .int .i64 ((0 : Nat) : Int)] 78)))
    have HS := Lib.hid (psect_any (T.length + 1) hPB (Nat.zero_le 8) (by omega))
    have hg3 : w.heap.size + 1 + 1 < w1.heap.size := by omega
    clear hPB HOW HP2 HP HTA p0 p1 p2 p3 z0 z1 z2 z3
    cases hsec : sectP T (T.length + 1) 0 [] 0 0 with
    | bad f =>
      rw [hsec] at HS
      have HF := Lib.hid (show parseR s.data.toList = ([], f.line, f.col, f.er) by unfold parseR; rw [hr]; simp only [hsec]; rfl)
      rw [HF.out]
      clear hr hsec HF
      refine HS.out.mono ?_
      rintro e w4 ⟨rfl, ho4⟩
      have h0 := HP3.out.b0.only ho4 (show ¬ w.heap.size = w1.heap.size by omega)
      have h1 := HP3.out.b1.only ho4 (show ¬ w.heap.size + 1 = w1.heap.size by omega)
      have h2 := HP3.out.b2.only ho4 (show ¬ w.heap.size + 1 + 1 = w1.heap.size by omega)
      have HB4 := Lib.hid (HP3.out.bel.trans (ho4.below HP3.out.bel.size (fun k e => by rw [e]; omega)))
      have HC := Lib.hid (catch_fail f _ _ _ _ [] w4 h0 h1 h2)
      clear h0 h1 h2 HP3 HPP ho4
      refine leaves_cons (f := 38) (args := #[.pointer (some ⟨w.heap.size, 0, none⟩), .pointer (some ⟨w.heap.size + 1, 0, none⟩), .pointer (some ⟨w.heap.size + 1 + 1, 0, none⟩)]) (by simp) (by simp [go_sem]) ?_
      refine HC.out.mono ?_
      rintro e u' w5 ⟨rfl, rfl, k0, k1, k2, ho5⟩
      have e0 : w5.cell? ⟨w.heap.size, 0, none⟩ = some (.slice none 0 0) := by rw [k0.cell]; rfl
      have e1 : w5.cell? ⟨w.heap.size + 1, 0, none⟩ = some (.int .i64 (f.line : Int)) := by rw [k1.cell]; rfl
      have e2 : w5.cell? ⟨w.heap.size + 1, 1, none⟩ = some (.int .i64 (f.col : Int)) := by rw [k1.cell]; rfl
      have e3 : w5.cell? ⟨w.heap.size + 1 + 1, 0, none⟩ = some (.int .i64 f.er) := by rw [k2.cell]; rfl
      have HB5 := Lib.hid (HB4.out.trans (ho5.below HB4.out.size (fun k e => by rcases e with e | e | e <;> omega)))
      clear k0 k1 k2 ho5
      simp [Leaves, settle, results, Tryd.results19, go_sem, e0, e1, e2, e3]
      exact ⟨_, rfl, .nil _ _, HB5.out⟩
    | ok l i n =>
      rw [hsec] at HS
      have HF := Lib.hid (show parseR s.data.toList = (if (tkAt T i).kind = 5 then (l, 0, 0, 0) else ([], (tkAt T i).line, (tkAt T i).col, 8)) by unfold parseR; rw [hr]; simp only [hsec]; rfl)
      clear hr hsec HPP
      refine HS.out.mono ?_
      rintro e w4 ⟨v, rfl, hnl, hp4, ho4⟩
      obtain ⟨Av, cv, rfl, _⟩ := hnl.form
      have h4 : P3 w w4 (.slice none 0 0) (.int .i64 (li : Int)) (.int .i64 (co : Int)) (.int .i64 0) := ⟨HP3.out.b0.only ho4 (show ¬ w.heap.size = w1.heap.size by omega), HP3.out.b1.only ho4 (show ¬ w.heap.size + 1 = w1.heap.size by omega), HP3.out.b2.only ho4 (show ¬ w.heap.size + 1 + 1 = w1.heap.size by omega), HP3.out.bel.trans (ho4.below HP3.out.bel.size (fun k e => by rw [e]; omega))⟩
      have H4 := Lib.hid h4
      obtain ⟨⟨p0, p1, p2, p3⟩, z0, z1, z2, z3⟩ := h4.c
      have HP5 := Lib.hid (hp4.put_ ⟨w.heap.size, 0, none⟩ (by show w.heap.size ≠ w1.heap.size; omega) (fun ad e => by have := HA3.out ad e; show ad.block ≠ w.heap.size; omega) (.slice Av l.length cv))
      have H5 := Lib.hid (h4.node (.slice Av l.length cv))
      have HN5 := Lib.hid (hnl.keep (S' := fun k => w1.heap.size < k) (Kept.of_only ((Only.refl (· = w.heap.size) w4).setCell (p := ⟨w.heap.size, 0, none⟩) (.inl rfl) (.slice Av l.length cv)) (fun k hk e => by have hk : (w2.alloc (.cells #[.slice A T.length c, .int .i64 ((0 : Nat) : Int), .int .i64 ((0 : Nat) : Int)] 78)).heap.size ≤ k := hk; simp at hk; omega)) (fun k hk => by have hk : (w2.alloc (.cells #[.slice A T.length c, .int .i64 ((0 : Nat) : Int), .int .i64 ((0 : Nat) : Int)] 78)).heap.size ≤ k := hk; simp at hk; show w1.heap.size < k; omega))
      clear hnl hp4 ho4 h4 HP3 HS
      go_wp2_with fail
      generalize w4.setCell ⟨w.heap.size, 0, none⟩ (.slice Av l.length cv) = w5 at *
      refine (ptake_any HP5.out).mono ?_
      rintro e w6 ⟨rfl, hp6, ho6⟩
      have h6 : P3 w w6 (.slice Av l.length cv) (.int .i64 (li : Int)) (.int .i64 (co : Int)) (.int .i64 0) := ⟨H5.out.b0.only ho6 (show ¬ w.heap.size = w1.heap.size by omega), H5.out.b1.only ho6 (show ¬ w.heap.size + 1 = w1.heap.size by omega), H5.out.b2.only ho6 (show ¬ w.heap.size + 1 + 1 = w1.heap.size by omega), H5.out.bel.trans (ho6.below H5.out.bel.size (fun k e => by rw [e]; omega))⟩
      have H6 := Lib.hid h6
      obtain ⟨⟨p0, p1, p2, p3⟩, z0, z1, z2, z3⟩ := h6.c
      obtain ⟨⟨kd, tx, nu, tl, tc⟩, ht⟩ : ∃ t, tkAt T i = t := ⟨_, rfl⟩
      have HN6 := Lib.hid (HN5.out.keep (S' := fun k => w1.heap.size < k) (Kept.of_only ho6 (fun k hk e => by have hk : w1.heap.size < k := hk; omega)) (fun k hk => hk))
      rw [ht] at HF
      rw [ht]
      clear h6 hp6 ho6 HP5 H5 H4 ht HN5
      unfold tokV tokC
      by_cases hk : kd = 5
      · subst hk
        have HF2 := Lib.hid (HF.out.trans (if_pos rfl))
        have HP7 := Lib.hid (H6.out.up ((Below.refl w6.heap.size w6).al (.cells #[.int .i64 5, .string tx, .int .i64 nu, .int .i64 (tl : Int), .int .i64 (tc : Int)] 81)))
        obtain ⟨⟨p0, p1, p2, p3⟩, z0, z1, z2, z3⟩ := HP7.out.c
        have HN7 := Lib.hid (HN6.out.keep (S' := fun k => w.heap.size ≤ k) (Kept.of_only ((((((Only.refl (fun k => k = w.heap.size ∨ k = w.heap.size + 1 ∨ k = w.heap.size + 1 + 1) w6).alloc (.cells #[.int .i64 5, .string tx, .int .i64 nu, .int .i64 (tl : Int), .int .i64 (tc : Int)] 81)).setCell (p := ⟨w.heap.size, 0, none⟩) (.inl (.inl rfl)) (.slice Av l.length cv)).setCell (p := ⟨w.heap.size + 1, 0, none⟩) (.inl (.inr (.inl rfl))) (.int .i64 0)).setCell (p := ⟨w.heap.size + 1, 1, none⟩) (.inl (.inr (.inl rfl))) (.int .i64 0)).setCell (p := ⟨w.heap.size + 1 + 1, 0, none⟩) (.inl (.inr (.inr rfl))) (.int .i64 0)) (fun k hk e => by have hk : w1.heap.size < k := hk; rcases e with e | e | e <;> omega)) (fun k hk => by have hk : w1.heap.size < k := hk; show w.heap.size ≤ k; omega))
        have HP8 := Lib.hid ((HP7.out.node (.slice Av l.length cv)).pos (.int .i64 0) (.int .i64 0) (.int .i64 0))
        go_wp2_with fail
        clear HF H6 HN6 HP7 p0 p1 p2 p3 z0 z1 z2 z3
        generalize ((((w6.alloc (.cells #[.int .i64 5, .string tx, .int .i64 nu, .int .i64 (tl : Int), .int .i64 (tc : Int)] 81)).setCell ⟨w.heap.size, 0, none⟩ (.slice Av l.length cv)).setCell ⟨w.heap.size + 1, 0, none⟩ (.int .i64 0)).setCell ⟨w.heap.size + 1, 1, none⟩ (.int .i64 0)).setCell ⟨w.heap.size + 1 + 1, 0, none⟩ (.int .i64 0) = w7 at *
        refine leaves_cons (f := 38) (args := #[.pointer (some ⟨w.heap.size, 0, none⟩), .pointer (some ⟨w.heap.size + 1, 0, none⟩), .pointer (some ⟨w.heap.size + 1 + 1, 0, none⟩)]) (by simp) (by simp [go_sem]) ?_
        refine (catch_idle _ _ _ w7).mono ?_
        rintro e u' w8 ⟨rfl, rfl, hb8⟩
        have h8 := HP8.out.up hb8
        have HB8 := Lib.hid h8.bel
        obtain ⟨⟨e0, e1, e2, e3⟩, _⟩ := h8.c
        have HN8 := Lib.hid (HN7.out.up hb8)
        clear h8 HP8 hb8
        simp [Leaves, settle, results, Tryd.results19, go_sem, e0, e1, e2, e3]
        rw [HF2.out]
        exact ⟨_, rfl, HN8.out, HB8.out⟩
      · have HF2 := Lib.hid (HF.out.trans (if_neg hk))
        have q5 : (kd != 5) = true := bne_iff_ne.2 hk
        go_wp2_with fail
        have HP7 := Lib.hid (H6.out.up ((Below.refl w6.heap.size w6).al (.cells #[.int .i64 kd, .string tx, .int .i64 nu, .int .i64 (tl : Int), .int .i64 (tc : Int)] 81)))
        clear HF HN6 H6 p0 p1 p2 p3 z0 z1 z2 z3
        generalize w6.alloc (.cells #[.int .i64 kd, .string tx, .int .i64 nu, .int .i64 (tl : Int), .int .i64 (tc : Int)] 81) = w7 at *
        refine (fail_any (w := w7) ⟨kd, tx, nu, tl, tc⟩ 8).mono ?_
        rintro e w8 ⟨rfl, hb8⟩
        have h8 := HP7.out.up hb8
        have HB8 := Lib.hid h8.bel
        have HC := Lib.hid (catch_fail ⟨tl, tc, 8⟩ _ _ _ _ [] w8 h8.b0 h8.b1 h8.b2)
        clear h8 HP7 hb8
        refine leaves_cons (f := 38) (args := #[.pointer (some ⟨w.heap.size, 0, none⟩), .pointer (some ⟨w.heap.size + 1, 0, none⟩), .pointer (some ⟨w.heap.size + 1 + 1, 0, none⟩)]) (by simp) (by simp [go_sem]) ?_
        refine HC.out.mono ?_
        rintro e u' w5 ⟨rfl, rfl, k0, k1, k2, ho5⟩
        have e0 : w5.cell? ⟨w.heap.size, 0, none⟩ = some (.slice none 0 0) := by rw [k0.cell]; rfl
        have e1 : w5.cell? ⟨w.heap.size + 1, 0, none⟩ = some (.int .i64 (tl : Int)) := by rw [k1.cell]; rfl
        have e2 : w5.cell? ⟨w.heap.size + 1, 1, none⟩ = some (.int .i64 (tc : Int)) := by rw [k1.cell]; rfl
        have e3 : w5.cell? ⟨w.heap.size + 1 + 1, 0, none⟩ = some (.int .i64 8) := by rw [k2.cell]; rfl
        have HB5 := Lib.hid (HB8.out.trans (ho5.below HB8.out.size (fun k e => by rcases e with e | e | e <;> omega)))
        clear k0 k1 k2 ho5
        simp [Leaves, settle, results, Tryd.results19, go_sem, e0, e1, e2, e3]
        rw [HF2.out]
        exact ⟨_, rfl, .nil _ _, HB5.out⟩
  · have HF := Lib.hid (show parseR s.data.toList = ([], li, co, er) by unfold parseR; rw [hr, if_pos he])
    have q1 : (er != 0) = true := bne_iff_ne.2 he
    rw [HF.out]
    clear hr HF
    go_enter_defers Tryd.func19, Tryd.ntmps19
    go_wp2_with fail
    refine (HTK.out _).mono ?_
    rintro e w1 ⟨A, c, rfl, hk, hb⟩
    have HP := Lib.hid ((P3.start w).up hb)
    obtain ⟨⟨p0, p1, p2, p3⟩, z0, z1, z2, z3⟩ := HP.out.c
    have HP2 := Lib.hid (HP.out.pos (.int .i64 (li : Int)) (.int .i64 (co : Int)) (.int .i64 er))
    have hz := hb.size
    simp at hz
    clear hk hb
    go_wp2_with fail
    generalize ((w1.setCell ⟨w.heap.size + 1, 0, none⟩ (.int .i64 (li : Int))).setCell ⟨w.heap.size + 1, 1, none⟩ (.int .i64 (co : Int))).setCell ⟨w.heap.size + 1 + 1, 0, none⟩ (.int .i64 er) = w2 at *
    clear p0 p1 p2 p3 z0 z1 z2 z3 HP
    obtain ⟨⟨p0, p1, p2, p3⟩, z0, z1, z2, z3⟩ := HP2.out.c
    have HP3 := Lib.hid ((HP2.out.node (.slice none 0 0)).pos (.int .i64 (li : Int)) (.int .i64 (co : Int)) (.int .i64 er))
    have k1 : (w2.drew).cell? ⟨w.heap.size + 1, 0, none⟩ = some (.int .i64 (li : Int)) ∧ (w2.drew).cell? ⟨w.heap.size + 1, 1, none⟩ = some (.int .i64 (co : Int)) ∧ (w2.drew).cell? ⟨w.heap.size + 1 + 1, 0, none⟩ = some (.int .i64 er) := ⟨p1, p2, p3⟩
    have k2 : ((w2.setCell ⟨w.heap.size, 0, none⟩ (.slice none 0 0)).drew).cell? ⟨w.heap.size + 1, 0, none⟩ = some (.int .i64 (li : Int)) ∧ ((w2.setCell ⟨w.heap.size, 0, none⟩ (.slice none 0 0)).drew).cell? ⟨w.heap.size + 1, 1, none⟩ = some (.int .i64 (co : Int)) ∧ ((w2.setCell ⟨w.heap.size, 0, none⟩ (.slice none 0 0)).drew).cell? ⟨w.heap.size + 1 + 1, 0, none⟩ = some (.int .i64 er) := (HP2.out.node (.slice none 0 0)).c.1.2
    have k3 : ((((w2.setCell ⟨w.heap.size, 0, none⟩ (.slice none 0 0)).setCell ⟨w.heap.size + 1, 0, none⟩ (.int .i64 (li : Int))).setCell ⟨w.heap.size + 1, 1, none⟩ (.int .i64 (co : Int))).drew).cell? ⟨w.heap.size + 1, 0, none⟩ = some (.int .i64 (li : Int)) ∧ ((((w2.setCell ⟨w.heap.size, 0, none⟩ (.slice none 0 0)).setCell ⟨w.heap.size + 1, 0, none⟩ (.int .i64 (li : Int))).setCell ⟨w.heap.size + 1, 1, none⟩ (.int .i64 (co : Int))).drew).cell? ⟨w.heap.size + 1, 1, none⟩ = some (.int .i64 (co : Int)) ∧ ((((w2.setCell ⟨w.heap.size, 0, none⟩ (.slice none 0 0)).setCell ⟨w.heap.size + 1, 0, none⟩ (.int .i64 (li : Int))).setCell ⟨w.heap.size + 1, 1, none⟩ (.int .i64 (co : Int))).drew).cell? ⟨w.heap.size + 1 + 1, 0, none⟩ = some (.int .i64 er) := ((HP2.out.node (.slice none 0 0)).at_ (.int .i64 (li : Int)) (.int .i64 (co : Int))).c.1.2
    have k4 : (((((w2.setCell ⟨w.heap.size, 0, none⟩ (.slice none 0 0)).setCell ⟨w.heap.size + 1, 0, none⟩ (.int .i64 (li : Int))).setCell ⟨w.heap.size + 1, 1, none⟩ (.int .i64 (co : Int))).setCell ⟨w.heap.size + 1 + 1, 0, none⟩ (.int .i64 er)).drew).cell? ⟨w.heap.size + 1, 0, none⟩ = some (.int .i64 (li : Int)) ∧ (((((w2.setCell ⟨w.heap.size, 0, none⟩ (.slice none 0 0)).setCell ⟨w.heap.size + 1, 0, none⟩ (.int .i64 (li : Int))).setCell ⟨w.heap.size + 1, 1, none⟩ (.int .i64 (co : Int))).setCell ⟨w.heap.size + 1 + 1, 0, none⟩ (.int .i64 er)).drew).cell? ⟨w.heap.size + 1, 1, none⟩ = some (.int .i64 (co : Int)) ∧ (((((w2.setCell ⟨w.heap.size, 0, none⟩ (.slice none 0 0)).setCell ⟨w.heap.size + 1, 0, none⟩ (.int .i64 (li : Int))).setCell ⟨w.heap.size + 1, 1, none⟩ (.int .i64 (co : Int))).setCell ⟨w.heap.size + 1 + 1, 0, none⟩ (.int .i64 er)).drew).cell? ⟨w.heap.size + 1 + 1, 0, none⟩ = some (.int .i64 er) := HP3.out.c.1.2
    have K1 := Lib.hid k1
    have K2 := Lib.hid k2
    have K3 := Lib.hid k3
    have K4 := Lib.hid k4
    clear k1 k2 k3 k4
    go_region_held3 (fun w' => (w').cell? ⟨w.heap.size + 1, 0, none⟩ = some (.int .i64 (li : Int)) ∧ (w').cell? ⟨w.heap.size + 1, 1, none⟩ = some (.int .i64 (co : Int)) ∧ (w').cell? ⟨w.heap.size + 1 + 1, 0, none⟩ = some (.int .i64 er))
      (first | with_reducible exact K1.out | with_reducible exact K2.out | with_reducible exact K3.out | with_reducible exact K4.out) (first | fail)
    all_goals go_wp2_with fail
    obtain ⟨⟨e0, e1, e2, e3⟩, _⟩ := HP3.out.c
    have HB3 := Lib.hid HP3.out.bel.drew
    have HE := Lib.hid (And.intro e0 (And.intro e1 (And.intro e2 e3)))
    clear K1 K2 K3 K4 HP2 p0 p1 p2 p3 z0 z1 z2 z3 e0 e1 e2 e3 HP3
    generalize (((w2.setCell ⟨w.heap.size, 0, none⟩ (.slice none 0 0)).setCell ⟨w.heap.size + 1, 0, none⟩ (.int .i64 (li : Int))).setCell ⟨w.heap.size + 1, 1, none⟩ (.int .i64 (co : Int))).setCell ⟨w.heap.size + 1 + 1, 0, none⟩ (.int .i64 er) = w3 at *
    obtain ⟨e0, e1, e2, e3⟩ := HE.out
    simp [bodyPostD, Leaves, results, Tryd.results19, go_sem, e0, e1, e2, e3]
    exact ⟨_, rfl, .nil _ _, HB3.out⟩
end Go.Proofs.YtfmdbmalmeimbaaDoor
