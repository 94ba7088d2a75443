/- The builder: the closure of compound (printed by genAdd.py). -/
import Derived.Test.YtdkcfgahdcpkkaaDoorBMkHid
set_option linter.all false
set_option linter.unusedVariables false
set_option linter.unusedSimpArgs false
namespace Go.Proofs.YtdkcfgahdcpkkaaDoor
open Go.RowKit
set_option maxRecDepth 100000
theorem own_ne_own {w : World} {base base' k k' n n' : Nat} {e e' : TypeId} {v v' : Value} {xs xs' : List Value} (h : w.ownsRow base e k v n xs) (h' : w.ownsRow base' e' k' v' n' xs') (hne : e ≠ e') : ∀ g, v.ownBlock = some g → ¬ v'.ownBlock = some g := fun g hg hg' => by
  rcases h.2 with ⟨rfl, _⟩ | ⟨a, cap, cur, rfl, _, h1, _⟩
  · cases hg
  rcases h'.2 with ⟨rfl, _⟩ | ⟨b, cap', cur', rfl, _, h2, _⟩
  · cases hg'
  injection hg with e1
  injection hg' with e2
  have e1' : a = g := e1
  have e2' : b = g := e2
  subst e1' e2'
  rw [h1] at h2
  injection h2 with h2
  injection h2 with _ h2
  exact hne h2
/-- the cells of areas -/
def aC (l : List Ar) : List Value := (l.map fun x => (arA x).toList).flatten
theorem aC_snoc (l : List Ar) (x : Ar) : aC (l ++ [x]) = aC l ++ (arA x).toList := by simp [aC]
theorem T_snoc (l : List ByteArray) (x : ByteArray) : T (l ++ [x]) = T l ++ [.string x] := by simp [T]
theorem I_snoc (l : List Int) (x : Int) : I (l ++ [x]) = I l ++ [.int .i64 x] := by simp [I]
/-- what a compound volume is made of, in memory -/
structure CP (W : Nat) (w : World) (xb nb lb : Nat) (xl xk xc xm : Int) (xg : ByteArray) (vN vL vA : Value) (names : List ByteArray) (lens : List Int) (areas : List Ar) : Prop where
  xblk : Blk w xb 58 #[.int .i64 0, .int .i64 xl, .int .i64 xk, vA, .int .i64 xc, .slice none 0 0, .string xg, .string ⟨#[]⟩, .int .i64 0, .int .i64 xm, .int .i64 0]
  nblk : Blk w nb 26 #[vN]
  lblk : Blk w lb 22 #[vL]
  nrow : w.ownsRow W 9 1 vN names.length (T names)
  lrow : w.ownsRow W 3 1 vL lens.length (I lens)
  arow : w.ownsRow W 60 3 vA areas.length (aC areas)
  low : xb < W ∧ nb < W ∧ lb < W ∧ xb ≠ nb ∧ xb ≠ lb ∧ nb ≠ lb ∧ W ≤ w.heap.size
/-- the blocks of it -/
def CM (W xb nb lb : Nat) (k : Nat) : Prop := k = xb ∨ k = nb ∨ k = lb ∨ W ≤ k
theorem CP.only {F : Nat → Prop} {W : Nat} {w w' : World} {xb nb lb : Nat} {xl xk xc xm : Int} {xg : ByteArray} {vN vL vA : Value} {names : List ByteArray} {lens : List Int} {areas : List Ar} (h : CP W w xb nb lb xl xk xc xm xg vN vL vA names lens areas) (ho : Only F w w') (hF : ∀ k, F k → ¬ CM W xb nb lb k) : CP W w' xb nb lb xl xk xc xm xg vN vL vA names lens areas :=
  ⟨h.xblk.only ho (fun e => hF _ e (.inl rfl)), h.nblk.only ho (fun e => hF _ e (.inr (.inl rfl))), h.lblk.only ho (fun e => hF _ e (.inr (.inr (.inl rfl)))),
    own_only h.nrow ho (fun k hk e => hF k e (.inr (.inr (.inr (World.ownsRow.lt h.nrow k hk).1)))), own_only h.lrow ho (fun k hk e => hF k e (.inr (.inr (.inr (World.ownsRow.lt h.lrow k hk).1)))), own_only h.arow ho (fun k hk e => hF k e (.inr (.inr (.inr (World.ownsRow.lt h.arow k hk).1)))),
    ⟨h.low.1, h.low.2.1, h.low.2.2.1, h.low.2.2.2.1, h.low.2.2.2.2.1, h.low.2.2.2.2.2.1, Nat.le_trans h.low.2.2.2.2.2.2 ho.size⟩⟩
/-- the states of the region: 0 names, 1 a row of the name, 2 appended, 3 lengths, 4 a row of the length, 5 appended -/
structure AF (W : Nat) (wr : World) (xb nb lb : Nat) (xl xk xc xm : Int) (xg : ByteArray) (vN vL vA : Value) (names : List ByteArray) (lens : List Int) (areas : List Ar) (s : ByteArray) (z : Int) (d : Nat → Bool) (x : Nat → Value) (w : World) : Prop where
  xblk : Blk w xb 58 #[.int .i64 0, .int .i64 xl, .int .i64 xk, vA, .int .i64 xc, .slice none 0 0, .string xg, .string ⟨#[]⟩, .int .i64 0, .int .i64 xm, .int .i64 0]
  nblk : Blk w nb 26 #[vN]
  lblk : Blk w lb 22 #[vL]
  arow : w.ownsRow W 60 3 vA areas.length (aC areas)
  low : xb < W ∧ nb < W ∧ lb < W ∧ xb ≠ nb ∧ xb ≠ lb ∧ nb ≠ lb ∧ W ≤ w.heap.size
  on : Only (fun k => W ≤ k) wr w
  bn : ∀ k, vN.ownBlock = some k → k < wr.heap.size
  bl : ∀ k, vL.ownBlock = some k → k < wr.heap.size
  n0 : d 2 = false → w.ownsRow W 9 1 vN names.length (T names)
  n1 : d 2 = true → w.ownsRow W 9 1 (x 2) (names.length + 1) (T (names ++ [s]))
  l0 : d 5 = false → w.ownsRow W 3 1 vL lens.length (I lens)
  l1 : d 5 = true → w.ownsRow W 3 1 (x 5) (lens.length + 1) (I (lens ++ [z]))
  f0 : d 0 = true → x 0 = vN
  f1 : d 1 = true → d 2 = false → ∃ g, x 1 = .slice (some ⟨g, 0, none⟩) 1 1 ∧ wr.heap.size ≤ g ∧ Blk w g 9 #[.string s]
  f3 : d 3 = true → x 3 = vL
  f4 : d 4 = true → d 5 = false → ∃ g, x 4 = .slice (some ⟨g, 0, none⟩) 1 1 ∧ wr.heap.size ≤ g ∧ Blk w g 3 #[.int .i64 z]
section
variable {W : Nat} {wr w w' : World} {xb nb lb : Nat} {xl xk xc xm : Int} {xg : ByteArray} {vN vL vA v8 : Value} {names : List ByteArray} {lens : List Int} {areas : List Ar} {s : ByteArray} {z : Int} {d : Nat → Bool} {x : Nat → Value}
theorem tf {b : Bool} (h1 : b = true) (h2 : b = false) {P : Prop} : P := by rw [h1] at h2; cases h2
theorem AF.start (h : CP W wr xb nb lb xl xk xc xm xg vN vL vA names lens areas) (x : Nat → Value) : AF W wr xb nb lb xl xk xc xm xg vN vL vA names lens areas s z none_ x wr.drew :=
  ⟨h.xblk.drewN 1, h.nblk.drewN 1, h.lblk.drewN 1, own_only h.arow ((Only.refl (fun _ => False) _).drew) (fun _ _ h => h), h.low, (Only.refl _ _).drew, fun k hk => (World.ownsRow.lt h.nrow k hk).2, fun k hk => (World.ownsRow.lt h.lrow k hk).2,
    fun _ => own_only h.nrow ((Only.refl (fun _ => False) _).drew) (fun _ _ h => h), (fun e => by cases e), fun _ => own_only h.lrow ((Only.refl (fun _ => False) _).drew) (fun _ _ h => h), (fun e => by cases e), (fun e => by cases e), (fun e => by cases e), (fun e => by cases e), (fun e => by cases e)⟩
theorem AF.s0 (h : AF W wr xb nb lb xl xk xc xm xg vN vL vA names lens areas s z d x w) : AF W wr xb nb lb xl xk xc xm xg vN vL vA names lens areas s z (upd d 0 true) (upd x 0 vN) w :=
  ⟨h.xblk, h.nblk, h.lblk, h.arow, h.low, h.on, h.bn, h.bl, h.n0, h.n1, h.l0, h.l1, fun _ => rfl, h.f1, h.f3, h.f4⟩
theorem AF.s3 (h : AF W wr xb nb lb xl xk xc xm xg vN vL vA names lens areas s z d x w) : AF W wr xb nb lb xl xk xc xm xg vN vL vA names lens areas s z (upd d 3 true) (upd x 3 vL) w :=
  ⟨h.xblk, h.nblk, h.lblk, h.arow, h.low, h.on, h.bn, h.bl, h.n0, h.n1, h.l0, h.l1, h.f0, h.f1, fun _ => rfl, h.f4⟩
theorem own_al {base k n : Nat} {e : TypeId} {v : Value} {xs : List Value} (h : w.ownsRow base e k v n xs) (o : Obj) : (w.alloc o).ownsRow base e k v n xs := own_only h ((Only.refl (fun _ => False) w).alloc o) (fun _ _ h => h)
theorem AF.s1 (h : AF W wr xb nb lb xl xk xc xm xg vN vL vA names lens areas s z d x w) : AF W wr xb nb lb xl xk xc xm xg vN vL vA names lens areas s z (upd d 1 true) (upd x 1 (.slice (some ⟨w.heap.size, 0, none⟩) 1 1)) (w.alloc (.cells #[.string s] 9)) :=
  ⟨h.xblk.alloc _, h.nblk.alloc _, h.lblk.alloc _, own_al h.arow _, ⟨h.low.1, h.low.2.1, h.low.2.2.1, h.low.2.2.2.1, h.low.2.2.2.2.1, h.low.2.2.2.2.2.1, by rw [World.size_alloc]; have := h.low.2.2.2.2.2.2; omega⟩, h.on.alloc _, h.bn, h.bl, fun e => own_al (h.n0 e) _, fun e => own_al (h.n1 e) _, fun e => own_al (h.l0 e) _, fun e => own_al (h.l1 e) _, h.f0,
    fun _ _ => ⟨_, rfl, h.on.size, Blk.new w _ _⟩, h.f3, fun e1 e2 => by
      obtain ⟨g, e, h1, h2⟩ := h.f4 e1 e2
      exact ⟨g, e, h1, h2.alloc _⟩⟩
theorem AF.s4 (h : AF W wr xb nb lb xl xk xc xm xg vN vL vA names lens areas s z d x w) : AF W wr xb nb lb xl xk xc xm xg vN vL vA names lens areas s z (upd d 4 true) (upd x 4 (.slice (some ⟨w.heap.size, 0, none⟩) 1 1)) (w.alloc (.cells #[.int .i64 z] 3)) :=
  ⟨h.xblk.alloc _, h.nblk.alloc _, h.lblk.alloc _, own_al h.arow _, ⟨h.low.1, h.low.2.1, h.low.2.2.1, h.low.2.2.2.1, h.low.2.2.2.2.1, h.low.2.2.2.2.2.1, by rw [World.size_alloc]; have := h.low.2.2.2.2.2.2; omega⟩, h.on.alloc _, h.bn, h.bl, fun e => own_al (h.n0 e) _, fun e => own_al (h.n1 e) _, fun e => own_al (h.l0 e) _, fun e => own_al (h.l1 e) _, h.f0,
    fun e1 e2 => by
      obtain ⟨g, e, h1, h2⟩ := h.f1 e1 e2
      exact ⟨g, e, h1, h2.alloc _⟩, h.f3, fun _ _ => ⟨_, rfl, h.on.size, Blk.new w _ _⟩⟩
theorem AF.s2 (h : AF W wr xb nb lb xl xk xc xm xg vN vL vA names lens areas s z d x w) (h2 : d 2 = false) (h5 : d 5 = false) (ho : w'.ownsRow W 9 1 v8 (names.length + 1) (T names ++ [.string s])) (hg : w.grownBy w' vN.ownBlock) :
    AF W wr xb nb lb xl xk xc xm xg vN vL vA names lens areas s z (upd d 2 true) (upd x 2 v8) w' := by
  have hn := h.n0 h2
  have hO : Only (fun k => vN.ownBlock = some k) w w' := (Only.refl (fun k => vN.ownBlock = some k) _).grown hg (fun k e => .inl e)
  have hb := fun k hk => (World.ownsRow.lt hn k hk).1
  refine ⟨h.xblk.only hO (fun e => by have := hb _ e; have := h.low.1; omega), h.nblk.only hO (fun e => by have := hb _ e; have := h.low.2.1; omega), h.lblk.only hO (fun e => by have := hb _ e; have := h.low.2.2.1; omega),
    own_only h.arow hO (fun k hk e => own_ne_own hn h.arow (by decide) k e hk), ⟨h.low.1, h.low.2.1, h.low.2.2.1, h.low.2.2.2.1, h.low.2.2.2.2.1, h.low.2.2.2.2.2.1, Nat.le_trans h.low.2.2.2.2.2.2 hO.size⟩, h.on.trans (hO.mono fun k _ e => hb k e), h.bn, h.bl, fun e => ?_, fun _ => ?_, fun e => ?_, fun e => ?_, h.f0, fun _ e => ?_, h.f3, fun e1 e2 => ?_⟩
  · cases e
  · rw [T_snoc]; exact ho
  · exact own_only (h.l0 e) hO (fun k hk e' => own_ne_own hn (h.l0 e) (by decide) k e' hk)
  · exact tf e h5
  · cases e
  · obtain ⟨g, e, h3, h4⟩ := h.f4 e1 e2
    exact ⟨g, e, h3, h4.only hO (fun e => by have := h.bn g e; omega)⟩
theorem AF.s5 (h : AF W wr xb nb lb xl xk xc xm xg vN vL vA names lens areas s z d x w) (h2 : d 2 = true) (h5 : d 5 = false) (ho : w'.ownsRow W 3 1 v8 (lens.length + 1) (I lens ++ [.int .i64 z])) (hg : w.grownBy w' vL.ownBlock) :
    AF W wr xb nb lb xl xk xc xm xg vN vL vA names lens areas s z (upd d 5 true) (upd x 5 v8) w' := by
  have hn := h.l0 h5
  have hO : Only (fun k => vL.ownBlock = some k) w w' := (Only.refl (fun k => vL.ownBlock = some k) _).grown hg (fun k e => .inl e)
  have hb := fun k hk => (World.ownsRow.lt hn k hk).1
  refine ⟨h.xblk.only hO (fun e => by have := hb _ e; have := h.low.1; omega), h.nblk.only hO (fun e => by have := hb _ e; have := h.low.2.1; omega), h.lblk.only hO (fun e => by have := hb _ e; have := h.low.2.2.1; omega),
    own_only h.arow hO (fun k hk e => own_ne_own hn h.arow (by decide) k e hk), ⟨h.low.1, h.low.2.1, h.low.2.2.1, h.low.2.2.2.1, h.low.2.2.2.2.1, h.low.2.2.2.2.2.1, Nat.le_trans h.low.2.2.2.2.2.2 hO.size⟩, h.on.trans (hO.mono fun k _ e => hb k e), h.bn, h.bl, fun e => tf h2 e, fun e => ?_, fun e => ?_, fun _ => ?_, h.f0, fun _ e => tf h2 e, h.f3, fun e1 e2 => ?_⟩
  · exact own_only (h.n1 e) hO (fun k hk e' => own_ne_own hn (h.n1 e) (by decide) k e' hk)
  · cases e
  · rw [I_snoc]; exact ho
  · cases e2
end
/-- how the closure ends -/
def AddRet (W : Nat) (wr : World) (xb nb lb : Nat) (xl xk xc xm : Int) (xg : ByteArray) (names : List ByteArray) (lens : List Int) (areas : List Ar) (s : ByteArray) (z : Int) (e : Ending) (w' : World) : Prop :=
  ∃ vN vL vA, e = .returned (.tuple #[]) ∧ CP W w' xb nb lb xl xk xc xm xg vN vL vA (names ++ [s]) (lens ++ [z]) (areas ++ [⟨true, s, 0⟩]) ∧ Only (CM W xb nb lb) wr w'
set_option maxHeartbeats 16000000 in
theorem add_any {W : Nat} {wr : World} {xb nb lb : Nat} {xl xk xc xm : Int} {xg : ByteArray} {vN vL vA : Value} {names : List ByteArray} {lens : List Int} {areas : List Ar} (h : CP W wr xb nb lb xl xk xc xm xg vN vL vA names lens areas) (h1 : names.length ≤ 100) (h2 : lens.length ≤ 100) (h3 : areas.length ≤ 100) (s : ByteArray) (z : Int) :
    Calls Tryd.prog 67 #[.string s, .int .i64 z, .pointer (some ⟨nb, 0, none⟩), .pointer (some ⟨lb, 0, none⟩), .pointer (some ⟨xb, 0, none⟩)] wr (AddRet W wr xb nb lb xl xk xc xm xg names lens areas s z) := by
  obtain ⟨AN, cN, rfl, _⟩ := ownsRow_formG h.nrow
  obtain ⟨AL_, cL, rfl, _⟩ := ownsRow_formG h.lrow
  obtain ⟨AA, cA, rfl, _⟩ := ownsRow_formG h.arow
  obtain ⟨i0, hi0, hy0, hy1, hy2⟩ := info_parts infoT
  obtain ⟨j0, hj0, hz0, hz1, hz2⟩ := info_parts infoI
  obtain ⟨k0, hk0, hw0, hw1, hw2⟩ := info_parts infoA
  have HLOW := Lib.hid h.low
  have H := Lib.hid h
  clear h
  go_enter Tryd.func67, Tryd.ntmps67
  go_wp2_with fail
  refine wp_region_held_drew (S := fun _ => True) (by kernel_rfl) trivial (fun hHeld => ?_)
  refine tkB [1, 5] ?_
  iterate 2
   refine tk (oi := ⟨some _, _, _, _, _, _⟩) (v := ?_) rfl (by kernel_rfl) (by kernel_rfl) (by kernel_rfl) (fun _ _ _ _ _ h => h) rfl (Or.inl ⟨by rfl, ?_⟩) (by assumption) ?_
   rotate_left 1
   · (intro w hSw; (try dsimp only at hSw); go_simp; try with_reducible rfl)
   simp only [Act.put, tS]
  refine tkE ?_
  refine regionK_go (k := 6) (f := 2) (B := [0, 2, 3, 4, 6, 7]) (D := [[], [], [0, 1], [], [], [2, 3, 4]]) (ts := [7, 9, 10, 11, 13, 14]) (L := (fun d => #[d 0, true, d 1, d 2, d 3, true, d 4, d 5, false, false])) (F := AF W wr xb nb lb xl xk xc xm xg (.slice AN names.length cN) (.slice AL_ lens.length cL) (.slice AA areas.length cA) names lens areas s z) (by kernel_rfl) (by intro j hj d; rcases (show j = 0 ∨ j = 1 ∨ j = 2 ∨ j = 3 ∨ j = 4 ∨ j = 5 by omega) with rfl | rfl | rfl | rfl | rfl | rfl <;> kernel_rfl) (by intro d; kernel_rfl) (by kernel_rfl) (fun _ _ _ _ => trivial) ?hstep ?hfin (by kernel_rfl) (by kernel_rfl) (by kernel_rfl) (AF.start H.out _)
  case hstep =>
    intro j hj d x w h hcl hdj hdep K hK
    rcases (show j = 0 ∨ j = 1 ∨ j = 2 ∨ j = 3 ∨ j = 4 ∨ j = 5 by omega) with rfl | rfl | rfl | rfl | rfl | rfl
    · refine wpOp_step (o := ⟨some 7, _, _, _, _, _⟩) rfl (fun K' hK' => ?_)
      simp only [putK, upd, Nat.reduceAdd, Nat.reduceBEq, cond_true, cond_false, tS]
      have c0 : w.cell? ⟨nb, 0, none⟩ = some (.slice AN names.length cN) := by rw [h.nblk.cell]; rfl
      go_simp
      have hh := hK' _ _ (hK _ _ (h.s0))
      simp only [putK, upd, Nat.reduceAdd, Nat.reduceBEq, cond_true, cond_false, tS] at hh
      exact hh
    · refine wpOp_step (o := ⟨some 9, _, _, _, _, _⟩) rfl (fun K' hK' => ?_)
      simp only [putK, upd, Nat.reduceAdd, Nat.reduceBEq, cond_true, cond_false, tS]
      go_simp
      have hh := hK' _ _ (hK _ _ (h.s1))
      simp only [putK, upd, Nat.reduceAdd, Nat.reduceBEq, cond_true, cond_false, tS] at hh
      exact hh
    · have h5 : d 5 = false := Bool.eq_false_iff.2 fun e => tf (closed_at hcl 5 2 (by decide) (by decide) e) hdj
      have e0 := h.f0 (hdep 0 (by decide))
      obtain ⟨g, e1, hg1, hbk⟩ := h.f1 (hdep 1 (by decide)) hdj
      refine wpOp_step (o := ⟨some 10, _, _, _, _, _⟩) rfl (fun K' hK' => ?_)
      simp only [putK, upd, Nat.reduceAdd, Nat.reduceBEq, cond_true, cond_false, tS]
      rw [e0, e1]
      refine step_append_any (o := ⟨some 10, _, _, _, _, _⟩) _ rfl (.tmp 7) (.tmp 9) 26 rfl W 9 i0 _ 1 16 Tryd.underlying26 hi0 hy0 hy1 hy2 rfl (by decide) (.slice AN names.length cN) names.length (T names) rfl (h.n0 hdj) _ (some ⟨g, 0, none⟩) 1 1 [.string s] rfl (reads_at hbk rfl) (by intro u hu; simp at hu; subst hu; rfl) (by unfold maxLen; omega) (by omega) h.low.2.2.2.2.2.2 ?_
      intro v8 w8 ho8 hg8 hd8
      have hh := hK' _ _ (hK _ _ (h.s2 hdj h5 ho8 hg8))
      simp only [putK, upd, Nat.reduceAdd, Nat.reduceBEq, cond_true, cond_false, tS] at hh
      rw [e0, e1] at hh
      exact hh
    · refine wpOp_step (o := ⟨some 11, _, _, _, _, _⟩) rfl (fun K' hK' => ?_)
      simp only [putK, upd, Nat.reduceAdd, Nat.reduceBEq, cond_true, cond_false, tS]
      have c0 : w.cell? ⟨lb, 0, none⟩ = some (.slice AL_ lens.length cL) := by rw [h.lblk.cell]; rfl
      go_simp
      have hh := hK' _ _ (hK _ _ (h.s3))
      simp only [putK, upd, Nat.reduceAdd, Nat.reduceBEq, cond_true, cond_false, tS] at hh
      exact hh
    · refine wpOp_step (o := ⟨some 13, _, _, _, _, _⟩) rfl (fun K' hK' => ?_)
      simp only [putK, upd, Nat.reduceAdd, Nat.reduceBEq, cond_true, cond_false, tS]
      go_simp
      have hh := hK' _ _ (hK _ _ (h.s4))
      simp only [putK, upd, Nat.reduceAdd, Nat.reduceBEq, cond_true, cond_false, tS] at hh
      exact hh
    · have h2' := hdep 2 (by decide)
      have e3 := h.f3 (hdep 3 (by decide))
      obtain ⟨g, e4, hg1, hbk⟩ := h.f4 (hdep 4 (by decide)) hdj
      refine wpOp_step (o := ⟨some 14, _, _, _, _, _⟩) rfl (fun K' hK' => ?_)
      simp only [putK, upd, Nat.reduceAdd, Nat.reduceBEq, cond_true, cond_false, tS]
      rw [e3, e4]
      refine step_append_any (o := ⟨some 14, _, _, _, _, _⟩) _ rfl (.tmp 11) (.tmp 13) 22 rfl W 3 j0 _ 1 8 Tryd.underlying22 hj0 hz0 hz1 hz2 rfl (by decide) (.slice AL_ lens.length cL) lens.length (I lens) rfl (h.l0 hdj) _ (some ⟨g, 0, none⟩) 1 1 [.int .i64 z] rfl (reads_at hbk rfl) (by intro u hu; simp at hu; subst hu; rfl) (by unfold maxLen; omega) (by omega) h.low.2.2.2.2.2.2 ?_
      intro v8 w8 ho8 hg8 hd8
      have hh := hK' _ _ (hK _ _ (h.s5 h2' hdj ho8 hg8))
      simp only [putK, upd, Nat.reduceAdd, Nat.reduceBEq, cond_true, cond_false, tS] at hh
      rw [e3, e4] at hh
      exact hh
  case hfin =>
    intro d x w2 hd h
    have hn := h.n1 (hd 2 (by decide))
    have hl := h.l1 (hd 5 (by decide))
    obtain ⟨B8, c8, e8⟩ := own_formGM hn
    obtain ⟨B9, c9, e9⟩ := own_formGM hl
    have HXB := Lib.hid h.xblk
    have HAR := Lib.hid h.arow
    have HON := Lib.hid h.on
    have hnb := h.nblk
    have hlb := h.lblk
    have HNB := Lib.hid hnb
    have HLB := Lib.hid hlb
    rw [e8] at hn
    rw [e9] at hl
    have HN := Lib.hid hn
    have HL := Lib.hid hl
    have HSZ := Lib.hid h.low
    have c0 : w2.cell? ⟨nb, 0, none⟩ = some (.slice AN names.length cN) := by rw [hnb.cell]; rfl
    have g0 := hnb.frozen 0
    have c1 : w2.cell? ⟨lb, 0, none⟩ = some (.slice AL_ lens.length cL) := by rw [hlb.cell]; rfl
    have g1 := hlb.frozen 0
    have d1 : nb ≠ lb := HLOW.out.2.2.2.2.2.1
    have d2 : lb ≠ nb := fun e => d1 e.symm
    simp only [putK, upd, Nat.reduceAdd, Nat.reduceBEq, cond_true, cond_false, tS]
    rw [e8, e9]
    clear h hn hl hnb hlb
    refine wpAnyH_all (rs := [8]) (by kernel_rfl) (by simp) (fun i hi => ?_)
    obtain rfl : i = 8 := by simpa using hi
    refine wpOp_step (o := ⟨none, _, _, _, _, _⟩) rfl (fun K' hK' => ?_)
    go_simp
    refine hK' _ _ ⟨trivial, ?_⟩
    refine wpAnyH_all (rs := [9]) (by kernel_rfl) (by simp) (fun i hi => ?_)
    obtain rfl : i = 9 := by simpa using hi
    refine wpOp_step (o := ⟨none, _, _, _, _, _⟩) rfl (fun K2 hK2 => ?_)
    go_simp
    refine hK2 _ _ ⟨trivial, ?_⟩
    refine wpAnyH_done (by kernel_rfl) ?_ _
    have hS1 : Only (fun k => k = nb ∨ k = lb) w2 ((w2.setCell ⟨nb, 0, none⟩ (.slice B8 (names.length + 1) c8)).setCell ⟨lb, 0, none⟩ (.slice B9 (lens.length + 1) c9)) := ((Only.refl (fun k => k = nb ∨ k = lb) w2).setCell (p := ⟨nb, 0, none⟩) (.inl (.inl rfl)) _).setCell (p := ⟨lb, 0, none⟩) (.inl (.inr rfl)) _
    have HLO := Lib.hid HSZ.out
    have hx3 := HXB.out.only hS1 (fun e => e.elim HLOW.out.2.2.2.1 HLOW.out.2.2.2.2.1)
    have hfar : ∀ k, W ≤ k → ¬ (k = nb ∨ k = lb) := fun k hk e => by have h1 := HLOW.out.2.1; have h2 := HLOW.out.2.2.1; omega
    have HN3 := Lib.hid (own_only HN.out hS1 (fun k hk => hfar k (World.ownsRow.lt HN.out k hk).1))
    have HL3 := Lib.hid (own_only HL.out hS1 (fun k hk => hfar k (World.ownsRow.lt HL.out k hk).1))
    have HA3 := Lib.hid (own_only HAR.out hS1 (fun k hk => hfar k (World.ownsRow.lt HAR.out k hk).1))
    have HNB3 := Lib.hid (show Blk ((w2.setCell ⟨nb, 0, none⟩ (.slice B8 (names.length + 1) c8)).setCell ⟨lb, 0, none⟩ (.slice B9 (lens.length + 1) c9)) nb 26 #[.slice B8 (names.length + 1) c8] from (HNB.out.set_ 0 (.slice B8 (names.length + 1) c8)).far (p := ⟨lb, 0, none⟩) d1 _)
    have HLB3 := Lib.hid (show Blk ((w2.setCell ⟨nb, 0, none⟩ (.slice B8 (names.length + 1) c8)).setCell ⟨lb, 0, none⟩ (.slice B9 (lens.length + 1) c9)) lb 22 #[.slice B9 (lens.length + 1) c9] from (HLB.out.far (p := ⟨nb, 0, none⟩) d2 _).set_ 0 (.slice B9 (lens.length + 1) c9))
    have HON3 := Lib.hid (show Only (CM W xb nb lb) wr ((w2.setCell ⟨nb, 0, none⟩ (.slice B8 (names.length + 1) c8)).setCell ⟨lb, 0, none⟩ (.slice B9 (lens.length + 1) c9)) from (HON.out.mono fun k _ e => .inr (.inr (.inr e))).trans (hS1.mono fun k _ e => e.elim (fun e => .inr (.inl e)) (fun e => .inr (.inr (.inl e)))))
    have HSZ3 := Lib.hid (show W ≤ ((w2.setCell ⟨nb, 0, none⟩ (.slice B8 (names.length + 1) c8)).setCell ⟨lb, 0, none⟩ (.slice B9 (lens.length + 1) c9)).heap.size from Nat.le_trans HSZ.out.2.2.2.2.2.2 hS1.size)
    clear c0 g0 c1 g1 hS1 HXB HAR HON HNB HLB HN HL e8 e9 hfar
    generalize ((w2.setCell ⟨nb, 0, none⟩ (.slice B8 (names.length + 1) c8)).setCell ⟨lb, 0, none⟩ (.slice B9 (lens.length + 1) c9)) = w3 at HN3 HL3 HA3 HNB3 HLB3 HON3 HSZ3 hx3 ⊢
    have HX3 := Lib.hid hx3
    obtain ⟨y0, y1, y2, y3, y4, y5, y6, y7, y8, y9, y10⟩ := elevM hx3
    have HAA := Lib.hid (own_al HA3.out (.cells #[.bool true, .string s, .int .i64 0] 60))
    have HXA := Lib.hid (hx3.alloc (.cells #[.bool true, .string s, .int .i64 0] 60))
    have HNA := Lib.hid (own_al HN3.out (.cells #[.bool true, .string s, .int .i64 0] 60))
    have HLA := Lib.hid (own_al HL3.out (.cells #[.bool true, .string s, .int .i64 0] 60))
    have HNBA := Lib.hid (HNB3.out.alloc (.cells #[.bool true, .string s, .int .i64 0] 60))
    have HLBA := Lib.hid (HLB3.out.alloc (.cells #[.bool true, .string s, .int .i64 0] 60))
    clear hx3
    go_wp2_with (at_builtin; refine wpList_append_any _ rfl _ _ 56 rfl W 60 k0 _ 3 32 Tryd.underlying56 hk0 hw0 hw1 hw2 rfl (by decide) (.slice AA areas.length cA) areas.length (aC areas) rfl HAA.out _ (some ⟨w3.heap.size, 0, none⟩) 1 1 (#[.bool true, .string s, .int .i64 0] : Array Value).toList rfl (reads_newM rfl) (by intro u hu; simp at hu; rcases hu with rfl | rfl | rfl <;> rfl) (by unfold maxLen; omega) (by omega) (by have := HSZ3.out; simp; omega) ?_; intro v8 w8 ho8 hg8 hd8; have HO8 := Lib.hid ho8; have hO8 : Only (fun k => (Value.slice AA areas.length cA).ownBlock = some k) (w3.alloc (.cells #[.bool true, .string s, .int .i64 0] 60)) w8 := (Only.refl (fun k => (Value.slice AA areas.length cA).ownBlock = some k) _).grown hg8 (fun k e => .inl e)
                 have hbA : ∀ k, (Value.slice AA areas.length cA).ownBlock = some k → W ≤ k := fun k hk => (World.ownsRow.lt HAA.out k hk).1
                 have hx8 := HXA.out.only hO8 (fun e => by have h1 := hbA _ e; have h2 := HLOW.out.1; omega)
                 have HX8 := Lib.hid hx8
                 have HOO := Lib.hid hO8
                 have HBA := Lib.hid hbA
                 have t8 : w8.cell? ⟨xb, 3, none⟩ = some (.slice AA areas.length cA) := by rw [hx8.cell]; rfl
                 have g8 := hx8.frozen 3
                 obtain ⟨B7, c7, e7⟩ := own_formGM ho8
                 subst e7
                 clear ho8 hg8 hd8 hO8 hbA hx8
                 skip)
    refine bodyPost_end (results_none rfl _ _ _) rfl ?_
    have ho9 : Only (· = xb) w8 (w8.setCell ⟨xb, 3, none⟩ (.slice B7 (areas.length + 1) c7)) := (Only.refl (· = xb) w8).setCell (p := ⟨xb, 3, none⟩) (.inl rfl) _
    have hxf : ∀ k, W ≤ k → ¬ k = xb := fun k hk e => by have h1 := HLOW.out.1; omega
    have hA := HO8.out
    rw [show (aC areas ++ (#[.bool true, .string s, .int .i64 0] : Array Value).toList) = aC (areas ++ [⟨true, s, 0⟩]) from (aC_snoc areas ⟨true, s, 0⟩).symm] at hA
    refine ⟨.slice B8 (names.length + 1) c8, .slice B9 (lens.length + 1) c9, .slice B7 (areas.length + 1) c7, rfl, ⟨HX8.out.set_ 3 _, (HNBA.out.only HOO.out (fun e => by have h1 := HBA.out _ e; have h2 := HLOW.out.2.1; omega)).only ho9 (fun e => HLOW.out.2.2.2.1 e.symm), (HLBA.out.only HOO.out (fun e => by have h1 := HBA.out _ e; have h2 := HLOW.out.2.2.1; omega)).only ho9 (fun e => HLOW.out.2.2.2.2.1 e.symm), ?_, ?_, ?_, ?_⟩, ?_⟩
    · rw [List.length_append]
      exact own_only (own_only HNA.out HOO.out (fun k hk e => own_ne_own HNA.out HAA.out (by decide) k hk e)) ho9 (fun k hk => hxf k (World.ownsRow.lt HNA.out k hk).1)
    · rw [List.length_append]
      exact own_only (own_only HLA.out HOO.out (fun k hk e => own_ne_own HLA.out HAA.out (by decide) k hk e)) ho9 (fun k hk => hxf k (World.ownsRow.lt HLA.out k hk).1)
    · rw [List.length_append]
      exact own_only hA ho9 (fun k hk => hxf k (World.ownsRow.lt hA k hk).1)
    · exact ⟨HLOW.out.1, HLOW.out.2.1, HLOW.out.2.2.1, HLOW.out.2.2.2.1, HLOW.out.2.2.2.2.1, HLOW.out.2.2.2.2.2.1, Nat.le_trans HSZ3.out (Nat.le_trans (by simp) (Nat.le_trans HOO.out.size ho9.size))⟩
    · exact ((HON3.out.alloc _).trans (HOO.out.mono fun k _ e => .inr (.inr (.inr (HBA.out k e))))).trans (ho9.mono fun k _ e => .inl e)
end Go.Proofs.YtdkcfgahdcpkkaaDoor
