/- ConfigAny: the walk. -/
import Derived.Test.YtfmdbmalmeimbaaDoorMOpen
import Derived.Test.YtfmdbmalmeimbaaDoorMRef
import Derived.Test.YtfmdbmalmeimbaaDoorMFind
import Derived.Test.YtfmdbmalmeimbaaDoorMAwake
namespace Go.Proofs.YtfmdbmalmeimbaaDoor
open Go.RowKit
set_option maxRecDepth 100000

theorem tl_al {w : World} {S : Nat → Prop} {v : Value} {l : List ByteArray} (h : TL w S v l) (o : Obj) : TL (w.alloc o) S v l := h.up ((Below.refl _ _).al o)
theorem small_one {t : Nd} (h1 : t.list.length ≤ 1000000) (h2 : Small t.nodes) : Small [t] :=
  .mk _ (by simp) (fun u hu => by rw [List.mem_singleton.1 hu]; exact h1) (fun u hu => by rw [List.mem_singleton.1 hu]; exact h2)
theorem small_find : ∀ (path : List ByteArray) (l : List Nd), Small l → Small [(findR path l).getD nd0] := by
  have h0 : Small [nd0] := small_one (by simp [nd0, Nd.list]) (by simp only [nd0, Nd.nodes]; exact .nil)
  intro path
  induction path with
  | nil => intro l _; exact h0
  | cons p ps ih =>
    intro l h
    cases hf : l.findIdx? (isN p) with
    | none => rw [findR_none hf]; exact h0
    | some k =>
      obtain ⟨hk, -⟩ := List.findIdx?_eq_some_iff_getElem.1 hf
      have hm := List.getElem_mem hk
      rw [findR_some hf (List.getElem?_eq_getElem hk)]
      unfold contR
      split
      · exact small_one (h.list hm) (h.nodes hm)
      · split
        · exact ih _ (h.nodes hm)
        · exact h0
/-- one node, laid as a row -/
theorem nl_one {w : World} {S S' : Nat → Prop} {t : Nd} {vl vn : Value} (hl : TL w S vl t.list) (hn : NL w S' vn t.nodes) : NL (w.alloc (.cells (ncA t vl vn) 48)) (fun _ => True) (.slice (some ⟨w.heap.size, 0, none⟩) 1 1) [t] := by
  obtain ⟨c0, c1, c2, c3, c4, c5⟩ := nbx (Blk.new w 48 (ncA t vl vn))
  exact .row ⟨w.heap.size, 0, none⟩ 1 [t] (fun _ => vl) (fun _ => vn) (Nat.le_refl _) trivial (by simp)
    (fun k u hk => by
      match k, hk with
      | 0, hk =>
        injection hk with hk
        subst hk
        exact ⟨c0, c1, c2, c3, c4, c5⟩
      | k + 1, hk => simp at hk)
    (fun k u hk => by
      match k, hk with
      | 0, hk => injection hk with hk; subst hk; exact (hl.up ((Below.refl _ _).al _)).mono (fun _ _ => trivial)
      | k + 1, hk => simp at hk)
    (fun k u hk => by
      match k, hk with
      | 0, hk => injection hk with hk; subst hk; exact (hn.up ((Below.refl _ _).al _)).mono (fun _ _ => trivial)
      | k + 1, hk => simp at hk)
set_option maxHeartbeats 16000000 in
theorem any_walk {Ax Ay Ap : Option Addr} {cx cy cp : Nat} {lx ly : List Nd} {p : List ByteArray} (W : World) (hx : NL W (fun g => g < W.heap.size) (.slice Ax lx.length cx) lx) (hy : NL W (fun g => g < W.heap.size) (.slice Ay ly.length cy) ly)
    (hp : TL W (fun g => g < W.heap.size) (.slice Ap p.length cp) p) (hcx : cL lx ≤ 1048576) (hcy : cL ly ≤ 1048576) (hax : AllN (SzM 1048576) lx) (hpl : p.length ≤ 1048576) (ht : Tab10 W) :
    Calls Tryd.prog 10 #[.slice Ax lx.length cx, .slice Ay ly.length cy, .slice Ap p.length cp] W (Ret (.bool true) W) := by
  have HT := Lib.hid (show ∀ W', Below W.heap.size W W' → Lib.TabIs Tryd.prog W' "internal/strconv.uint64pow10" .u64 Lib.pow10Tab from Lib.tabBelow_of_tabIs ht)
  have HNX := Lib.hid (nodes_any _ lx (Nat.lt_succ_self _) hx hcx)
  have HNY := Lib.hid (fun W' (hb : Below W.heap.size W W') => nodes_any _ ly (Nat.lt_succ_self _) (hy.up hb) hcy)
  have HX := Lib.hid hx
  have HY := Lib.hid hy
  have HP := Lib.hid hp
  have HAX := Lib.hid hax
  clear ht hx hy hp hax
  obtain ⟨nx, hnx⟩ : ∃ nx, nsR lx = nx := ⟨_, rfl⟩
  obtain ⟨ny, hny⟩ : ∃ ny, nsR ly = ny := ⟨_, rfl⟩
  rw [hnx] at HNX
  rw [hny] at HNY
  have HnX := Lib.hid hnx
  have HnY := Lib.hid hny
  clear hnx hny
  have AW := Lib.hid (fun W' (hb : Below W.heap.size W W') => awake_any (HT.out W' hb))
  by_cases h1 : 100 < nx
  · have z1 : (100 : Int) < (nx : Int) := by omega
    go_enter Tryd.func10, Tryd.ntmps10
    go_wp2_with fail
    refine HNX.out.mono ?_
    rintro e w1 ⟨rfl, hb1⟩
    go_wp2_with fail
    refine (AW.out _ hb1).mono ?_
    rintro e w2 ⟨rfl, hb2⟩
    have HB2 := Lib.hid (hb1.next hb2)
    clear hb1 hb2
    go_wp2_with fail
    go_ret
    exact ⟨rfl, HB2.out⟩
  have z1 : ¬ (100 : Int) < (nx : Int) := by omega
  by_cases h2 : 100 < ny
  · have z2 : (100 : Int) < (ny : Int) := by omega
    go_enter Tryd.func10, Tryd.ntmps10
    go_wp2_with fail
    refine HNX.out.mono ?_
    rintro e w1 ⟨rfl, hb1⟩
    go_wp2_with fail
    refine (HNY.out _ hb1).mono ?_
    rintro e w2 ⟨rfl, hb2⟩
    have HB2 := Lib.hid (hb1.next hb2)
    clear hb1 hb2
    go_wp2_with fail
    refine (AW.out _ HB2.out).mono ?_
    rintro e w3 ⟨rfl, hb3⟩
    have HB3 := Lib.hid (HB2.out.next hb3)
    clear hb3
    go_wp2_with fail
    go_ret
    exact ⟨rfl, HB3.out⟩
  have z2 : ¬ (100 : Int) < (ny : Int) := by omega
  by_cases h3 : 10 < p.length
  · have z3 : (10 : Int) < (p.length : Int) := by omega
    go_enter Tryd.func10, Tryd.ntmps10
    go_wp2_with fail
    refine HNX.out.mono ?_
    rintro e w1 ⟨rfl, hb1⟩
    go_wp2_with fail
    refine (HNY.out _ hb1).mono ?_
    rintro e w2 ⟨rfl, hb2⟩
    have HB2 := Lib.hid (hb1.next hb2)
    clear hb1 hb2
    go_wp2_with fail
    refine (AW.out _ HB2.out).mono ?_
    rintro e w3 ⟨rfl, hb3⟩
    have HB3 := Lib.hid (HB2.out.next hb3)
    clear hb3
    go_wp2_with fail
    go_ret
    exact ⟨rfl, HB3.out⟩
  have z3 : ¬ (10 : Int) < (p.length : Int) := by omega
  have hrx : nsR lx ≤ 100 := by have := HnX.out; omega
  have hry : nsR ly ≤ 100 := by have := HnY.out; omega
  have HSX := Lib.hid (small_ns _ lx (Nat.lt_succ_self _) hrx)
  have HSY := Lib.hid (small_ns _ ly (Nat.lt_succ_self _) hry)
  have hfx := fit_ns (by omega : 1048576 ≤ 2000000) _ lx (Nat.lt_succ_self _) hrx HAX.out
  have hcn := nsR_cnt hrx
  have hln := lines_ns hrx HAX.out
  have hf := fun W' (h : Below W.heap.size W W') => format_all (nl_in (HX.out.up h)) hfx (by omega) hln (HT.out W' h)
  have hg := fun W' (h : Below W.heap.size W W') => rformat_any (HX.out.up h) hfx (by omega) hln
  unfold FormatRet at hf hg
  generalize formatR lx = r at hf hg
  obtain ⟨tx, er⟩ := r
  simp only at hf hg
  have HF := Lib.hid hf
  have HG := Lib.hid hg
  have hc := fun W' (h : Below W.heap.size W W') => cfind_any (w := W') (HX.out.up h) (HP.out.up h) HSX.out (by omega)
  have hd := fun W' (h : Below W.heap.size W W') => rfind_any p lx (w := W') (HX.out.up h) (HP.out.up h) HSX.out (by omega)
  have hs := small_find p lx HSX.out
  unfold FindRet at hc
  unfold FindS at hd
  generalize findR p lx = o at hc hd hs
  generalize o.getD nd0 = t at hc hd hs
  generalize o.isSome = is at hc hd
  have HC := Lib.hid hc
  have HD := Lib.hid hd
  have HS := Lib.hid hs
  clear hc hd hs hf hg hfx hcn hln
  obtain ⟨sm, hsm⟩ : ∃ sm : Bool, (sm = true ↔ lx = ly) := by
    by_cases h : lx = ly
    · exact ⟨true, by simp [h]⟩
    · exact ⟨false, by simp [h]⟩
  have HM1 := Lib.hid (fun W' (h : Below W.heap.size W W') => csame_any _ lx ly (Nat.lt_succ_self _) (HX.out.up h) (HY.out.up h) hsm HSX.out HSY.out)
  have HM2 := Lib.hid (fun W' (h : Below W.heap.size W W') => rsame_nodes _ lx ly (Nat.lt_succ_self _) (HX.out.up h) (HY.out.up h) hsm HSX.out HSY.out)
  clear hsm
  have q0 : (er == er) = true := by simp
  have q1 : (tx.toList == tx.toList) = true := by simp
  have q2 : (sm == sm) = true := by simp
  have q3 : (is == is) = true := by simp
  go_enter Tryd.func10, Tryd.ntmps10
  go_wp2_with fail
  refine HNX.out.mono ?_
  rintro e w1 ⟨rfl, hb1⟩
  go_wp2_with fail
  refine (HNY.out _ hb1).mono ?_
  rintro e w2 ⟨rfl, hb2⟩
  have HB2 := Lib.hid (hb1.next hb2)
  clear hb1 hb2
  go_wp2_with fail
  refine (HF.out _ HB2.out).mono ?_
  rintro e w3 ⟨rfl, hb3⟩
  have HB3 := Lib.hid (HB2.out.next hb3)
  clear hb3
  go_wp2_with fail
  refine (HG.out _ HB3.out).mono ?_
  rintro e w4 ⟨rfl, hb4⟩
  have HB4 := Lib.hid (HB3.out.next hb4)
  clear hb4
  go_wp2_with fail
  refine (HC.out _ HB4.out).mono ?_
  rintro e w5 ⟨vl, vn, rfl, hl5, hn5, hb5⟩
  obtain ⟨Bl, cl, rfl, _⟩ := id hl5
  obtain ⟨Bn, cn, rfl, _⟩ := hn5.form
  have HB5 := Lib.hid ((HB4.out.next hb5).next ((Below.refl _ _).al (.cells #[.string t.name, .int .i64 t.kind, .int .i64 t.num, .string t.text, .slice Bl t.list.length cl, .slice Bn t.nodes.length cn] 48)))
  have H5 := Lib.hid (And.intro hl5 hn5)
  have HK5 := Lib.hid (Blk.new w5 48 #[.string t.name, .int .i64 t.kind, .int .i64 t.num, .string t.text, .slice Bl t.list.length cl, .slice Bn t.nodes.length cn])
  clear hl5 hn5 hb5
  unfold ncA
  go_wp2_with fail
  refine (HD.out _ HB5.out).mono ?_
  rintro e w6 ⟨ul, un, rfl, hl6, hn6, hb6⟩
  obtain ⟨Ul, el, rfl, _⟩ := id hl6
  obtain ⟨Un, en, rfl, _⟩ := hn6.form
  have HB6 := Lib.hid ((HB5.out.next hb6).next ((Below.refl _ _).al (.cells #[.string t.name, .int .i64 t.kind, .int .i64 t.num, .string t.text, .slice Ul t.list.length el, .slice Un t.nodes.length en] 48)))
  have H5' := Lib.hid (And.intro ((tl_al H5.out.1 _).up hb6) ((H5.out.2.up ((Below.refl _ _).al _)).up hb6))
  have H6 := Lib.hid (And.intro hl6 hn6)
  have HK5' := Lib.hid ((HK5.out.below hb6 (by simp)).below ((Below.refl _ _).al (.cells #[.string t.name, .int .i64 t.kind, .int .i64 t.num, .string t.text, .slice Ul t.list.length el, .slice Un t.nodes.length en] 48)) (HK5.out.below hb6 (by simp)).lt)
  have HK6 := Lib.hid (Blk.new w6 48 #[.string t.name, .int .i64 t.kind, .int .i64 t.num, .string t.text, .slice Ul t.list.length el, .slice Un t.nodes.length en])
  have hw5 : w5.heap.size < w6.heap.size := (HK5.out.below hb6 (by simp)).lt
  clear hl6 hn6 hb6 H5 HK5
  unfold ncA
  go_wp2_with fail
  refine (HM1.out _ HB6.out).mono ?_
  rintro e w7 ⟨rfl, hb7⟩
  have HB7 := Lib.hid (HB6.out.next hb7)
  go_wp2_with fail
  refine (HM2.out _ HB7.out).mono ?_
  rintro e w8 ⟨rfl, hb8⟩
  have HB8 := Lib.hid (HB7.out.next hb8)
  have hbx := hb7.next hb8
  have HK8 := Lib.hid (HK5'.out.below hbx HK5'.out.lt)
  have HK9 := Lib.hid (HK6.out.below hbx HK6.out.lt)
  have H8 := Lib.hid (And.intro ((tl_al H5'.out.1 _).up hbx) ((H5'.out.2.up ((Below.refl _ _).al _)).up hbx))
  have H9 := Lib.hid (And.intro ((tl_al H6.out.1 _).up hbx) ((H6.out.2.up ((Below.refl _ _).al _)).up hbx))
  clear hb7 hb8 hbx HK5' HK6 H5' H6
  have hx1 : NL ((w8.alloc (.cells #[.string t.name, .int .i64 t.kind, .int .i64 t.num, .string t.text, .slice Bl t.list.length cl, .slice Bn t.nodes.length cn] 48)).alloc (.cells #[.string t.name, .int .i64 t.kind, .int .i64 t.num, .string t.text, .slice Ul t.list.length el, .slice Un t.nodes.length en] 48)) (fun _ => True) (.slice (some ⟨w8.heap.size, 0, none⟩) 1 1) [t] :=
    (nl_one (w := w8) H8.out.1 H8.out.2).up ((Below.refl _ _).al (.cells #[.string t.name, .int .i64 t.kind, .int .i64 t.num, .string t.text, .slice Ul t.list.length el, .slice Un t.nodes.length en] 48))
  have hx2 : NL ((w8.alloc (.cells #[.string t.name, .int .i64 t.kind, .int .i64 t.num, .string t.text, .slice Bl t.list.length cl, .slice Bn t.nodes.length cn] 48)).alloc (.cells #[.string t.name, .int .i64 t.kind, .int .i64 t.num, .string t.text, .slice Ul t.list.length el, .slice Un t.nodes.length en] 48)) (fun _ => True) (.slice (some ⟨w8.heap.size + 1, 0, none⟩) 1 1) [t] := by
    have h := nl_one (w := w8.alloc (.cells #[.string t.name, .int .i64 t.kind, .int .i64 t.num, .string t.text, .slice Bl t.list.length cl, .slice Bn t.nodes.length cn] 48)) (tl_al H9.out.1 _) (H9.out.2.up ((Below.refl _ _).al _))
    rw [World.size_alloc] at h
    exact h
  have HCC := Lib.hid (rsame_nodes _ [t] [t] (Nat.lt_succ_self _) hx1 hx2 (b := true) (by simp) HS.out HS.out)
  have HB9 := Lib.hid (show Below W.heap.size W ((w8.alloc (.cells #[.string t.name, .int .i64 t.kind, .int .i64 t.num, .string t.text, .slice Bl t.list.length cl, .slice Bn t.nodes.length cn] 48)).alloc (.cells #[.string t.name, .int .i64 t.kind, .int .i64 t.num, .string t.text, .slice Ul t.list.length el, .slice Un t.nodes.length en] 48)) from (HB8.out.al _).al _)
  obtain ⟨r0, r1, r2, r3, r4, r5⟩ := nbx HK8.out
  obtain ⟨s0, s1, s2, s3, s4, s5⟩ := nbx (HK9.out.below ((Below.refl _ _).al (.cells #[.string t.name, .int .i64 t.kind, .int .i64 t.num, .string t.text, .slice Bl t.list.length cl, .slice Bn t.nodes.length cn] 48)) HK9.out.lt)
  clear hx1 hx2 H8 H9 HK8 HK9
  go_wp2_with fail
  refine HCC.out.mono ?_
  rintro e w9 ⟨rfl, hb9⟩
  have HB10 := Lib.hid (HB9.out.next hb9)
  clear hb9 HB9 HCC r0 r1 r2 r3 r4 r5 s0 s1 s2 s3 s4 s5
  go_wp2_with fail
  refine (AW.out _ HB10.out).mono ?_
  rintro e w10 ⟨rfl, hb10⟩
  have HB11 := Lib.hid (HB10.out.next hb10)
  clear hb10
  go_wp2_with fail
  go_ret
  exact ⟨rfl, HB11.out⟩
end Go.Proofs.YtfmdbmalmeimbaaDoor
