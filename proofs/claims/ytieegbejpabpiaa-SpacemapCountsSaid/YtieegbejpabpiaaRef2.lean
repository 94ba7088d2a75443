/- Alloc, Free, Changed, Commit and Rollback of the reference's space map. -/
import Derived.Test.YtieegbejpabpiaaRef
namespace Go.Proofs.Ytieegbejpabpiaa
open Go.RowKit

theorem free_cases (N O : List Int) (k : Nat) : (freeB N O k = true ∧ (N.getD k 0 == 0) = true ∧ (O.getD k 0 == 0) = true) ∨ (freeB N O k = false ∧ (N.getD k 0 == 0) = true ∧ (O.getD k 0 == 0) = false) ∨ (freeB N O k = false ∧ (N.getD k 0 == 0) = false) := by
  unfold freeB
  cases (N.getD k 0 == 0) <;> cases (O.getD k 0 == 0) <;> simp

set_option maxHeartbeats 1000000 in
theorem ralloc_any {base : Nat} {w : World} {br gn cn go co : Nat} {N O : List Int} (h : RS base w br gn cn go co N O) :
    Calls Try.prog 37 #[.pointer (some ⟨br, 0, none⟩)] w (RRet base br gn cn go co (allocV N O) (allocN N O) O w) := by
  have hs := h.small
  have c0 := h.c0
  have c1 := h.c1
  have H := Lib.hid h
  clear h
  go_enter Try.func37, Try.ntmps37
  go_wp2_with fail
  go_loop [4] (fun i => ∃ k : Nat, k ≤ N.length ∧ i = .int .i64 k ∧ Hid (∀ j, j < k → freeB N O j = false)) (fun i => N.length - (intOf i).toNat)
  case atStart => exact ⟨0, Nat.zero_le _, rfl, fun j hj => absurd hj (by omega)⟩
  case round =>
    obtain ⟨k, hk, rfl, hfree⟩ := hrel
    by_cases hlt : k < N.length
    · have d0 := H.out.now.cell hlt
      have d1 := H.out.old.cell (j := k) (by rw [H.out.len]; exact hlt)
      have f0 := H.out.now.frozen k
      have i1 : (k : Int) < (N.length : Int) := by omega
      rcases free_cases N O k with ⟨hf, hx, hy⟩ | ⟨hf, hx, hy⟩ | ⟨hf, hx⟩
      · have HFF := Lib.hid (ffree_some N O k hlt hf hfree.out)
        have HP := Lib.hid (H.out.put k 1 (by omega))
        clear hf
        generalize N.getD k 0 = x at *
        generalize O.getD k 0 = y at *
        go_wp2_with fail
        go_ret2
        exact ⟨by rw [allocV, HFF.out]; rfl, by rw [allocN, HFF.out]; exact HP.out.1, HP.out.2⟩
      · have HF := Lib.hid hf
        clear hf
        generalize N.getD k 0 = x at *
        generalize O.getD k 0 = y at *
        go_wp2_with fail
        go_round
        case rel => exact ⟨k + 1, by omega, by go_num, fun j hj => by
          by_cases e : j = k
          · subst e; exact HF.out
          · exact hfree.out j (by omega)⟩
        case measure => simp [intOf]; omega
      · have HF := Lib.hid hf
        clear hf
        generalize N.getD k 0 = x at *
        generalize O.getD k 0 = y at *
        go_wp2_with fail
        go_round
        case rel => exact ⟨k + 1, by omega, by go_num, fun j hj => by
          by_cases e : j = k
          · subst e; exact HF.out
          · exact hfree.out j (by omega)⟩
        case measure => simp [intOf]; omega
    · obtain rfl : k = N.length := by omega
      have HFF := Lib.hid (ffree_none N O hfree.out)
      go_wp2_with fail
      go_ret2
      exact ⟨by rw [allocV, HFF.out]; rfl, by rw [allocN, HFF.out]; exact H.out, Only.refl _ _⟩

set_option maxHeartbeats 1000000 in
theorem rfree_any {base : Nat} {w : World} {br gn cn go co : Nat} {N O : List Int} (h : RS base w br gn cn go co N O) :
    Calls Try.prog 33 #[.pointer (some ⟨br, 0, none⟩)] w fun e w' => e = .returned (.int .i64 (nfree N O N.length)) ∧ w = w' := by
  have hs := h.small
  have c0 := h.c0
  have c1 := h.c1
  have H := Lib.hid h
  clear h
  go_enter Try.func33, Try.ntmps33
  go_wp2_with fail
  go_loop [3, 4] (fun x i => ∃ k : Nat, k ≤ N.length ∧ i = .int .i64 k ∧ x = .int .i64 (nfree N O k)) (fun _ i => N.length - (intOf i).toNat)
  case atStart => exact ⟨0, Nat.zero_le _, rfl, rfl⟩
  case round =>
    obtain ⟨k, hk, rfl, rfl⟩ := hrel
    have hle := nfree_le N O k
    have HS := Lib.hid (nfree_succ N O k)
    by_cases hlt : k < N.length
    · have d0 := H.out.now.cell hlt
      have d1 := H.out.old.cell (j := k) (by rw [H.out.len]; exact hlt)
      have i1 : (k : Int) < (N.length : Int) := by omega
      rcases free_cases N O k with ⟨hf, hx, hy⟩ | ⟨hf, hx, hy⟩ | ⟨hf, hx⟩
      · have HF := Lib.hid hf
        clear hf
        generalize N.getD k 0 = x at *
        generalize O.getD k 0 = y at *
        go_wp2_with fail
        go_round
        case rel => exact ⟨k + 1, by omega, by go_num, by rw [HS.out, HF.out]; simp⟩
        case measure => simp [intOf]; omega
      · have HF := Lib.hid hf
        clear hf
        generalize N.getD k 0 = x at *
        generalize O.getD k 0 = y at *
        go_wp2_with fail
        go_round
        case rel => exact ⟨k + 1, by omega, by go_num, by rw [HS.out, HF.out]; simp⟩
        case measure => simp [intOf]; omega
      · have HF := Lib.hid hf
        clear hf
        generalize N.getD k 0 = x at *
        generalize O.getD k 0 = y at *
        go_wp2_with fail
        go_round
        case rel => exact ⟨k + 1, by omega, by go_num, by rw [HS.out, HF.out]; simp⟩
        case measure => simp [intOf]; omega
    · obtain rfl : k = N.length := by omega
      go_wp2_with fail
      go_ret
      exact ⟨rfl, rfl⟩

set_option maxHeartbeats 1000000 in
theorem rchanged_any {base : Nat} {w : World} {br gn cn go co : Nat} {N O : List Int} (h : RS base w br gn cn go co N O) :
    Calls Try.prog 32 #[.pointer (some ⟨br, 0, none⟩)] w (LRet (chg N O N.length) w) := by
  have hs := h.small
  have hlen := h.len
  have H := Lib.hid h
  clear h
  obtain ⟨i0, hi0, hz0, hz1, hz2⟩ := info_parts int_info
  go_enter Try.func32, Try.ntmps32
  go_wp2_with fail
  go_loopw [3, 4] (fun x i wr => ∃ k : Nat, k ≤ N.length ∧ i = .int .i64 k ∧ wr.ownsRow w.heap.size 3 1 x (chg N O k).length (I (chg N O k)) ∧ Below w.heap.size w wr) (fun _ i _ => N.length - (intOf i).toNat)
  case atStart => exact ⟨0, Nat.zero_le _, rfl, World.ownsRow_nil _ _ _ _, Below.refl _ _⟩
  case round =>
    obtain ⟨k, hk, rfl, hown, hb⟩ := hrel
    have hle := chg_le N O k
    have HS := Lib.hid (chg_succ N O k)
    have HO := Lib.hid hown
    clear hown
    have hm := H.out.below hb
    have e0 := hm.c0
    by_cases hlt : k < N.length
    · have e1 := hm.c1
      have d0 := hm.now.cell hlt
      have d1 := hm.old.cell (j := k) (by rw [hlen]; exact hlt)
      have i1 : (k : Int) < (N.length : Int) := by omega
      generalize N.getD k 0 = x at d0 HS
      generalize O.getD k 0 = y at d1 HS
      clear hm hlen
      by_cases hxy : (x != y) = true
      · go_wp2_with fail
        go_quiet (fail)
        obtain ⟨wq, hwq⟩ : ∃ wq, wr.drewN nq = wq := ⟨_, rfl⟩
        have HOQ := Lib.hid (show wq.ownsRow w.heap.size 3 1 u3 (chg N O k).length (I (chg N O k)) by rw [← hwq]; exact HO.out)
        have hbq : Below w.heap.size w wq := by rw [← hwq]; exact below_drewN hb _
        rw [hwq]
        clear hwq e0 e1 d0 d1
        go_wp2_with (at_builtin; refine wpList_append_own _ rfl _ _ 22 rfl w.heap.size 3 i0 _ 1 8 Try.underlying22 hi0 hz0 hz1 hz2 rfl (by decide) _ _ _ rfl (HOQ.out.alloc _) ⟨wq.heap.size, 0, none⟩ 1 1 [.int .i64 (k : Int)] rfl rfl (cell_one_new _ _ _) (by simp [Value.oneCell']) (by unfold maxLen; omega) (by omega) (by have := hbq.size; simp; omega) ?_; intro v' w1 hown' hgrow _)
        go_roundw
        case rel =>
          refine ⟨k + 1, by omega, by go_num, ?_, (hbq.al _).grown hgrow (hbq.al _).size (fun k hk => (HOQ.out.lt k hk).1)⟩
          rw [HS.out, if_pos hxy, List.length_append, ← I_append]
          exact hown'
        case measure => simp [intOf]; omega
      · have hxy' : (x != y) = false := by simpa using hxy
        clear hxy
        go_wp2_with fail
        go_quiet (fail)
        go_wp2_with fail
        go_roundw
        case rel => exact ⟨k + 1, by omega, by go_num, by rw [HS.out, hxy']; exact HO.out, below_drewN hb _⟩
        case measure => simp [intOf]; omega
    · obtain rfl : k = N.length := by omega
      clear hm hlen
      go_wp2_with fail
      go_ret
      exact ⟨_, rfl, HO.out, hb⟩

/-- a call of a function without results that may lay the rows anew -/
def REnd (base br gn go : Nat) (N O : List Int) (w : World) (e : Ending) (w' : World) : Prop :=
  e = .returned (.tuple #[]) ∧ ∃ gn' cn' go' co', RS base w' br gn' cn' go' co' N O ∧ Only (FM br gn go) w w' ∧ (gn' = gn ∨ w.heap.size ≤ gn') ∧ (go' = go ∨ w.heap.size ≤ go')

theorem row_of {base : Nat} {w : World} {v : Value} {l : List Int} (h : w.ownsRow base 3 1 v l.length (I l)) (hp : 1 ≤ l.length) : ∃ g c, v = sl g l.length c ∧ Row base w g c l := by
  obtain ⟨h1, h2⟩ := h
  rcases h2 with ⟨_, h2⟩ | ⟨g, cap, cur, rfl, r⟩
  · exact absurd h2 (by omega)
  · exact ⟨g, cap, rfl, h1, .inr ⟨g, cap, cur, rfl, r⟩⟩

set_option maxHeartbeats 1000000 in
theorem rcommit_any {base : Nat} {w : World} {br gn cn go co : Nat} {N O : List Int} (h : RS base w br gn cn go co N O) :
    Calls Try.prog 40 #[.pointer (some ⟨br, 0, none⟩)] w (REnd base br gn go N N w) := by
  have hs := h.small
  have hp := h.pos
  have c0 := h.c0
  have hbs : base ≤ w.heap.size := Nat.le_of_lt (Nat.lt_of_le_of_lt h.now.lt.1 h.now.lt.2)
  have H := Lib.hid h
  have HR := Lib.hid h.now.reads
  clear h
  obtain ⟨i0, hi0, hz0, hz1, hz2⟩ := info_parts int_info
  go_enter Try.func40, Try.ntmps40
  go_wp2_with (
    at_builtin
    refine wpList_append_any _ rfl _ _ 22 rfl w.heap.size 3 i0 _ 1 8 Try.underlying22 hi0 hz0 hz1 hz2 rfl (by decide) _ 0 [] rfl (World.ownsRow_nil _ _ _ _) w.heap.size (some ⟨gn, 0, none⟩) N.length cn (I N) rfl HR.out (I_one N) (by unfold maxLen; omega) (by omega) (Nat.le_refl _) ?_
    intro v' w1 hown' hgrow _
    rw [Nat.zero_add, List.nil_append] at hown'
    obtain ⟨g, c, rfl, hrow⟩ := row_of hown' hp
    have hb : Below w.heap.size w w1 := (Below.refl _ _).grown hgrow (Nat.le_refl _) (fun k hk => by cases hk)
    have hm := H.out.below hb
    have f1 := hm.blk.frozen 1
    have e1 := hm.c1
    have hlt := hrow.lt
    have ho : Only (· = br) w1 (w1.setCell ⟨br, 1, none⟩ (sl g N.length c)) := (Only.refl (· = br) w1).setCell (p := ⟨br, 1, none⟩) (.inl rfl) _
    have hset := hm.blk.set_ 1 (sl g N.length c)
    have hrow' : Row base w1 g c N := by
      obtain ⟨r1, r2⟩ := hrow
      refine ⟨r1, ?_⟩
      rcases r2 with r2 | ⟨g', cap, cur, q1, q2, q3⟩
      · exact .inl r2
      · exact .inr ⟨g', cap, cur, q1, Nat.le_trans hbs q2, q3⟩
    have hbn := hm.bn
    have hgn := H.out.now.lt
    have hbr := H.out.blk.lt
    have HRES := Lib.hid (show REnd base br gn go N N w (.returned (.tuple #[])) (w1.setCell ⟨br, 1, none⟩ (sl g N.length c)) from
      ⟨rfl, gn, cn, g, c, ⟨by simpa using hset, rfl, hm.pos, hm.small, hm.now.only ho (fun e => hbn.1 e.symm), hrow'.only ho (fun e => by omega), by omega, hm.bb, hm.rng, hm.rng⟩,
        (Only.of_below _ hb).trans (ho.mono (fun j _ e => .inl e)), .inl rfl, .inr hlt.1⟩)
    clear hm ho hset hrow' hbn hgn hbr hrow hown' hgrow hb hlt)
  go_end0
  exact HRES.out

set_option maxHeartbeats 1000000 in
theorem rrollback_any {base : Nat} {w : World} {br gn cn go co : Nat} {N O : List Int} (h : RS base w br gn cn go co N O) :
    Calls Try.prog 23 #[.pointer (some ⟨br, 0, none⟩)] w (REnd base br gn go O O w) := by
  have hs := h.small
  have hp := h.pos
  have hlen := h.len
  have c1 := h.c1
  have hbs : base ≤ w.heap.size := Nat.le_of_lt (Nat.lt_of_le_of_lt h.now.lt.1 h.now.lt.2)
  have H := Lib.hid h
  have HR := Lib.hid h.old.reads
  have HLEN := Lib.hid hlen
  rw [hlen] at HR
  clear h hlen
  obtain ⟨i0, hi0, hz0, hz1, hz2⟩ := info_parts int_info
  go_enter Try.func23, Try.ntmps23
  go_wp2_with (
    at_builtin
    refine wpList_append_any _ rfl _ _ 22 rfl w.heap.size 3 i0 _ 1 8 Try.underlying22 hi0 hz0 hz1 hz2 rfl (by decide) _ 0 [] rfl (World.ownsRow_nil _ _ _ _) w.heap.size (some ⟨go, 0, none⟩) N.length co (I O) rfl HR.out (I_one O) (by unfold maxLen; omega) (by omega) (Nat.le_refl _) ?_
    intro v' w1 hown' hgrow _
    rw [Nat.zero_add, List.nil_append, ← HLEN.out] at hown'
    obtain ⟨g, c, rfl, hrow⟩ := row_of hown' (by rw [HLEN.out]; exact hp)
    have hb : Below w.heap.size w w1 := (Below.refl _ _).grown hgrow (Nat.le_refl _) (fun k hk => by cases hk)
    have hm := H.out.below hb
    have f1 := hm.blk.frozen 0
    have e1 := hm.c0
    have hlt := hrow.lt
    have ho : Only (· = br) w1 (w1.setCell ⟨br, 0, none⟩ (sl g O.length c)) := (Only.refl (· = br) w1).setCell (p := ⟨br, 0, none⟩) (.inl rfl) _
    have hset := hm.blk.set_ 0 (sl g O.length c)
    have hrow' : Row base w1 g c O := by
      obtain ⟨r1, r2⟩ := hrow
      refine ⟨r1, ?_⟩
      rcases r2 with r2 | ⟨g', cap, cur, q1, q2, q3⟩
      · exact .inl r2
      · exact .inr ⟨g', cap, cur, q1, Nat.le_trans hbs q2, q3⟩
    have hbn := hm.bn
    have hgn := H.out.old.lt
    have hbr := H.out.blk.lt
    have HRES := Lib.hid (show REnd base br gn go O O w (.returned (.tuple #[])) (w1.setCell ⟨br, 0, none⟩ (sl g O.length c)) from
      ⟨rfl, g, c, go, co, ⟨by rw [HLEN.out] at hset ⊢; simpa using hset, rfl, by rw [HLEN.out]; exact hm.pos, by rw [HLEN.out]; exact hm.small, hrow'.only ho (fun e => by omega), hm.old.only ho (fun e => hbn.2 e.symm), by omega, hm.bb, hm.rngO, hm.rngO⟩,
        (Only.of_below _ hb).trans (ho.mono (fun j _ e => .inl e)), .inr hlt.1, .inl rfl⟩)
    clear hm ho hset hrow' hbn hgn hbr hrow hown' hgrow hb hlt)
  go_end0
  exact HRES.out
end Go.Proofs.Ytieegbejpabpiaa
