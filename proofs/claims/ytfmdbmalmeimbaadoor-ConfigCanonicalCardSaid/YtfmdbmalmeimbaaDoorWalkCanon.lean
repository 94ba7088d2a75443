/- ConfigCanonical: the walk. -/
import Derived.Test.YtfmdbmalmeimbaaDoorWalkBack
import Derived.Deep.DeepCutAuto
namespace Go.Proofs.YtfmdbmalmeimbaaDoor
open Go.RowKit
set_option maxRecDepth 100000

theorem rowsl_info : (Tryd.prog.info? 30).map (fun i => (i.zero, i.size, i.bytes)) = some (some (.slice none 0 0), 1, 24) := by kernel_rfl
/-- a row of trees -/
structure TR (W : World) (base : Nat) (wx : World) (v : Value) (L : List (Value × List Nd)) : Prop where
  own : wx.ownsRow base 30 1 v L.length (L.map (·.1))
  all : ∀ (k : Nat) (y : Value × List Nd), L[k]? = some y → GTr W wx y.1 y.2
  bel : Below W.heap.size W wx
  base : base ≤ wx.heap.size
theorem TR.up {W : World} {base : Nat} {wx w' : World} {v : Value} {L : List (Value × List Nd)} (h : TR W base wx v L) (hb : Below wx.heap.size wx w') : TR W base w' v L :=
  ⟨own_only h.own (Only.of_below (fun _ => False) hb) (fun _ _ h => h), fun k y hy => (h.all k y hy).up hb, h.bel.next hb, Nat.le_trans h.base hb.size⟩
theorem TR.form {W : World} {base : Nat} {wx : World} {v : Value} {L : List (Value × List Nd)} (h : TR W base wx v L) : ∃ A c, v = .slice A L.length c := own_form h.own
theorem one_slice (v : Value) (h : v.oneCell' = true) : ∀ u ∈ [v], u.oneCell' = true := by intro u hu; rw [List.mem_singleton.1 hu]; exact h
theorem reads_val {W : World} {g : Nat} (v : Value) (t : TypeId) (hg : W.heap.size = g) : Reads (W.alloc (.cells #[v] t)) (W.alloc (.cells #[v] t)).heap.size 1 (some ⟨g, 0, none⟩) 1 [v] :=
  ⟨rfl, fun _ => ⟨_, rfl, by simp; omega, cell_one_at v t hg⟩⟩
/-- a tree is appended -/
theorem TR.push {W wx w8 : World} {base : Nat} {v v' u : Value} {L : List (Value × List Nd)} {l : List Nd} (h : TR W base wx v L) (ho : w8.ownsRow base 30 1 v' (L.length + 1) (L.map (·.1) ++ [u])) (hg : wx.grownBy w8 v.ownBlock) (hW : W.heap.size ≤ base)
    (hne : ∀ k, v.ownBlock = some k → ∀ (j : Nat) (y : Value × List Nd), L[j]? = some y → NL wx (fun g => g ≠ k) y.1 y.2) (hu : GTr W wx u l) (hun : ∀ k, v.ownBlock = some k → NL wx (fun g => g ≠ k) u l) : TR W base w8 v' (L ++ [(u, l)]) := by
  have hlow : ∀ k, v.ownBlock = some k → base ≤ k := fun k hk => (World.ownsRow.lt h.own k hk).1
  have hon : Only (fun k => v.ownBlock = some k) wx w8 := (Only.refl (fun k => v.ownBlock = some k) wx).grown hg (fun k e => .inl e)
  have hbel : Below W.heap.size W w8 := h.bel.grown hg h.bel.size (fun k hk => by have := hlow k hk; omega)
  have key : ∀ (x : Value) (m : List Nd), GTr W wx x m → (∀ k, v.ownBlock = some k → NL wx (fun g => g ≠ k) x m) → GTr W w8 x m := fun x m hx hn => by
    refine ⟨hx.ft, ?_, hbel⟩
    cases hv : v.ownBlock with
    | none => exact nl_in (hx.nl.keep (S' := fun _ => True) (Kept.of_only hon (fun g _ e => by rw [hv] at e; cases e)) (fun _ _ => trivial))
    | some k => exact nl_in ((hn k hv).keep (S' := fun _ => True) (Kept.of_only hon (fun g hg e => by rw [hv] at e; injection e with e; exact hg e.symm)) (fun _ _ => trivial))
  refine ⟨?_, fun k y hy => ?_, hbel, Nat.le_trans h.base hon.size⟩
  · rw [List.length_append, List.map_append]; exact ho
  · rcases Nat.lt_or_ge k L.length with hlt | hge
    · rw [List.getElem?_append_left hlt] at hy
      exact key _ _ (h.all k y hy) (fun j hj => hne j hj k y hy)
    · rw [List.getElem?_append_right hge] at hy
      have := List.mem_of_getElem? hy
      simp at this
      subst this
      exact key _ _ hu hun
/-- Parse at a world behind, and where its nodes lie -/
theorem parse_g2 {W w : World} (t : ByteArray) (hb : Below W.heap.size W w) {l : List Nd} {li co : Nat} {er : Int} (hr : parseR t.data.toList = (l, li, co, er)) : Calls Tryd.prog 19 #[.string t] w (fun e w' => ∃ A c, e = .returned (.tuple #[.slice A l.length c, .agg #[.int .i64 (li : Int), .int .i64 (co : Int)], .int .i64 er]) ∧ GTr W w' (.slice A l.length c) l ∧ Below w.heap.size w w' ∧ NL w' (fun g => w.heap.size ≤ g) (.slice A l.length c) l) := by
  have h := pparse_any t w
  have hf := ft_parse t.data.toList
  rw [hr] at h hf
  refine h.mono fun e w' ⟨v, he, hnl, hbw⟩ => ?_
  obtain ⟨A, c, rfl, _⟩ := id hnl.form
  exact ⟨A, c, he, ⟨hf, nl_in hnl, hb.next hbw⟩, hbw, hnl⟩
set_option maxHeartbeats 16000000 in
theorem canon_walk (A : Option Addr) (n c : Nat) (zs : List Int) (raw : ByteArray) (W : World) (hn : n ≤ c) (hc : c ≤ maxLen) (hr : Reads W W.heap.size 1 A n (I zs)) (ht : Tab10 W) :
    Calls Tryd.prog 8 #[.slice A n c, .string raw] W (Ret (.bool true) W) := by
  obtain ⟨i0, hi0, hz0, hz1, hz2⟩ := info_parts rowsl_info
  have HT := Lib.hid (show ∀ W', Below W.heap.size W W' → Lib.TabIs Tryd.prog W' "internal/strconv.uint64pow10" .u64 Lib.pow10Tab from Lib.tabBelow_of_tabIs ht)
  have HN := Lib.hid (srcNew_any A n c zs W hn hc hr)
  clear ht hr hn hc
  by_cases h3 : 300 < raw.size
  · have z : (300 : Int) < (raw.size : Int) := by omega
    go_enter Tryd.func8, Tryd.ntmps8
    go_wp2_with fail
    refine (awake_any (HT.out _ (Below.refl _ _))).mono ?_
    rintro e w1 ⟨rfl, hb1⟩
    go_wp2_with fail
    go_ret
    exact ⟨rfl, hb1⟩
  have z : ¬ (300 : Int) < (raw.size : Int) := by omega
  obtain ⟨⟨y, li, co, er⟩, hpr⟩ : ∃ r, parseR raw.data.toList = r := ⟨_, rfl⟩
  have HPR := Lib.hid hpr
  clear h3 hpr
  go_enter Tryd.func8, Tryd.ntmps8
  go_wp2_with fail
  refine HN.out.mono ?_
  rintro e w1 ⟨rfl, hs1, hb1⟩
  have HTR := Lib.hid (tree3 hs1 hb1)
  clear hs1 hb1 HN
  go_wp2_with fail
  refine HTR.out.mono ?_
  rintro e w2 ⟨v, l, rfl, hm⟩
  obtain ⟨A2, c2, rfl⟩ := hm.form
  have HM := Lib.hid ((GTr.of hm).up ((Below.refl _ _).al (.cells #[.slice A2 l.length c2] 30)))
  have HR0 := Lib.hid (show TR W w2.heap.size (w2.alloc (.cells #[.slice A2 l.length c2] 30)) (.slice (some ⟨w2.heap.size, 0, none⟩) 1 1) [(.slice A2 l.length c2, l)] from
    ⟨World.ownsRow_lit (base := w2.heap.size) (e := 30) (size := 1) w2 #[.slice A2 l.length c2] 1 (Nat.le_refl _) (by unfold maxLen; omega) (by simp), fun k y hy => by
      match k, hy with
      | 0, hy => injection hy with hy; subst hy; exact HM.out
      | k + 1, hy => simp at hy, HM.out.bel, by simp⟩)
  have HNX0 := Lib.hid ((hm.nl.mono (S' := fun g => g ≠ w2.heap.size) (fun g hg => Nat.ne_of_lt hg)).up ((Below.refl _ _).al (.cells #[.slice A2 l.length c2] 30)))
  have hWw2 := hm.bel.size
  clear hm HTR
  go_wp2_with fail
  refine (parse_g2 raw HM.out.bel HPR.out).mono ?_
  rintro e w3 ⟨A3, c3, rfl, hg3, hb3, hn3⟩
  have HNX := Lib.hid ((HNX0.out.up hb3).up ((Below.refl _ _).al (.cells #[.int .i64 (li : Int), .int .i64 (co : Int)] 37)))
  have HNY := Lib.hid ((hn3.mono (S' := fun g => g ≠ w2.heap.size) (fun g hg => by simp at hg; omega)).up ((Below.refl _ _).al (.cells #[.int .i64 (li : Int), .int .i64 (co : Int)] 37)))
  have HG3 := Lib.hid (hg3.up ((Below.refl _ _).al (.cells #[.int .i64 (li : Int), .int .i64 (co : Int)] 37)))
  have HR3 := Lib.hid ((HR0.out.up hb3).up ((Below.refl _ _).al (.cells #[.int .i64 (li : Int), .int .i64 (co : Int)] 37)))
  clear hg3 hb3 hn3 HM HR0 HNX0
  go_upto_if 34 with fail
  go_cut [6] (fun v wx => ∃ L, L.length ≤ 2 ∧ TR W w2.heap.size wx v L)
  case first =>
    by_cases he : er = 0
    · subst he
      have HX := Lib.hid (HR3.out.up ((Below.refl _ _).al (.cells #[.slice A3 y.length c3] 30)))
      have HY := Lib.hid (HG3.out.up ((Below.refl _ _).al (.cells #[.slice A3 y.length c3] 30)))
      go_wp2_with (at_builtin; refine wpList_append_any _ rfl _ _ 45 rfl w2.heap.size 30 i0 _ 1 24 Tryd.underlying45 hi0 hz0 hz1 hz2 rfl (by decide) _ _ _ rfl HX.out.own _ (some ⟨_, 0, none⟩) 1 1 [.slice A3 y.length c3] rfl (reads_val _ _ (by simp)) (one_slice _ rfl) (by unfold maxLen; show 1 + 1 ≤ _; omega) (by show (1 + 1) * 24 ≤ _; omega) HX.out.base ?_; intro v8 w8 ho8 hg8 hd8)
      go_meet
      case rel =>
        exact ⟨_, by simp, HX.out.push ho8 hg8 hWw2 (fun k hk j y hj => by
          injection hk with hk
          match j, hj with
          | 0, hj => injection hj with hj; subst hj; rw [← hk]; exact HNX.out.up ((Below.refl _ _).al _)
          | j + 1, hj => simp at hj) HY.out (fun k hk => by injection hk with hk; rw [← hk]; exact HNY.out.up ((Below.refl _ _).al _))⟩
    · have q9 : (er == 0) = false := beq_eq_false_iff_ne.2 he
      clear he
      go_wp2_with fail
      go_meet
      case rel => exact ⟨_, by simp, HR3.out⟩
  case rest =>
  clear HG3 HR3 HPR HNX HNY
  obtain ⟨L, hL, hrow⟩ := hcut
  have HR := Lib.hid hrow
  obtain ⟨A6, c6, e6⟩ := hrow.form
  subst e6
  clear hrow
  go_wp2_with fail
  go_loopw [10] (fun i wx => ∃ k : Nat, k ≤ L.length ∧ i = .int .i64 (k : Int) ∧ TR W w2.heap.size wx (.slice A6 L.length c6) L) (fun i _ => L.length - (intOf i).toNat)
  case atStart => exact ⟨0, Nat.zero_le _, rfl, HR.out⟩
  case round =>
    clear HR
    obtain ⟨k, hk, rfl, hrow⟩ := hrel
    have HR := Lib.hid hrow
    clear hrow
    by_cases hlt : k < L.length
    case neg =>
      obtain rfl : k = L.length := by omega
      go_wp2_with fail
      refine (awake_any (HT.out _ HR.out.bel)).mono ?_
      rintro e w9 ⟨rfl, hb9⟩
      have HB9 := Lib.hid (HR.out.bel.next hb9)
      clear hb9
      go_wp2_with fail
      go_ret
      exact ⟨rfl, HB9.out⟩
    have x0 : (k : Int) < (L.length : Int) := by omega
    have x1 : (0 : Int) ≤ (k : Int) := by omega
    obtain ⟨⟨vk, lk⟩, hyk⟩ : ∃ y, L[k]? = some y := ⟨_, List.getElem?_eq_getElem hlt⟩
    have hgk := HR.out.all k _ hyk
    obtain ⟨Ak, ck, rfl⟩ := GTr.form (show GTr W wr vk lk from hgk)
    obtain ⟨g6, rfl⟩ : ∃ g6, A6 = some ⟨g6, 0, none⟩ := by
      rcases HR.out.own.2 with ⟨hv, h0⟩ | ⟨g, cap, cur, hv, _⟩
      · omega
      · injection hv with hv; exact ⟨g, hv⟩
    have HK := Lib.hid (show ∀ W', TR W w2.heap.size W' (.slice (some ⟨g6, 0, none⟩) L.length c6) L → W'.cell? ⟨g6, k, none⟩ = some (.slice Ak lk.length ck) from fun W' h => by
      have := World.ownsRow.cellAt h.own k (by omega)
      rw [List.getElem?_map, hyk] at this
      exact this)
    have HGK := Lib.hid (show ∀ W', TR W w2.heap.size W' (.slice (some ⟨g6, 0, none⟩) L.length c6) L → GTr W W' (.slice Ak lk.length ck) lk from fun W' h => h.all k _ hyk)
    have a0 := HK.out wr HR.out
    have hf := fun W' B d (h : GTr W W' (.slice B lk.length d) lk) => h.fmt (HT.out _ h.bel)
    have hw := format_what lk
    unfold FormatRet at hf
    obtain ⟨⟨t, e1⟩, hfr⟩ : ∃ r, formatR lk = r := ⟨_, rfl⟩
    rw [hfr] at hf hw
    simp only at hf hw
    have HF := Lib.hid hf
    clear hyk hgk hf hfr
    go_wp2_with fail
    refine (HF.out wr Ak ck (HGK.out wr HR.out)).mono ?_
    rintro e w3 ⟨rfl, hb3⟩
    have HR3 := Lib.hid (HR.out.up hb3)
    clear hb3 a0 HR
    rcases hw with ⟨_, rfl, he1⟩ | ⟨rfl, hp1⟩
    · have q1 : (e1 != 0) = true := bne_iff_ne.2 he1
      clear he1
      go_wp2_with fail
      go_roundw
      case rel => exact ⟨k + 1, by omega, by go_num, HR3.out⟩
      case measure => simp [intOf]; omega
    have HP1 := Lib.hid hp1
    clear hp1
    go_wp2_with fail
    refine (parse_g t HR3.out.bel HP1.out).mono ?_
    rintro e w4 ⟨A4, c4, rfl, hg4, hb4⟩
    have HG4 := Lib.hid (hg4.up ((Below.refl _ _).al (.cells #[.int .i64 0, .int .i64 0] 37)))
    have HR4 := Lib.hid ((HR3.out.up hb4).up ((Below.refl _ _).al (.cells #[.int .i64 0, .int .i64 0] 37)))
    clear hg4 hb4 HR3
    go_wp2_with fail
    refine (HF.out _ A4 c4 HG4.out).mono ?_
    rintro e w5 ⟨rfl, hb5⟩
    have HG5 := Lib.hid (HG4.out.up hb5)
    have HR5 := Lib.hid (HR4.out.up hb5)
    have a5 := HK.out w5 HR5.out
    have q2 : (t.toList != t.toList) = false := by simp
    clear hb5 HG4 HR4
    go_wp2_with fail
    refine (HG5.out.csame (HGK.out w5 HR5.out)).mono ?_
    rintro e w6 ⟨rfl, hb6⟩
    have HR6 := Lib.hid (HR5.out.up hb6)
    clear hb6 a5
    go_wp2_with fail
    go_roundw
    case rel => exact ⟨k + 1, by omega, by go_num, HR6.out⟩
    case measure => simp [intOf]; omega
end Go.Proofs.YtfmdbmalmeimbaaDoor
