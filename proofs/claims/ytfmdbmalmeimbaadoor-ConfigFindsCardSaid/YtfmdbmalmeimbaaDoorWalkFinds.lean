/- ConfigFinds: the walk. -/
import Derived.Test.YtfmdbmalmeimbaaDoorWalkBack
import Derived.Deep.RegionHeld3
import Derived.Deep.DeepCutAuto
namespace Go.Proofs.YtfmdbmalmeimbaaDoor
open Go.RowKit
set_option maxRecDepth 100000

theorem rowst_info : (Tryd.prog.info? 33).map (fun i => (i.zero, i.size, i.bytes)) = some (some (.slice none 0 0), 1, 24) := by kernel_rfl
/-- a row of rows of texts -/
structure PT (w0 wx : World) (v : Value) (L : List (Value × List ByteArray)) : Prop where
  own : wx.ownsRow w0.heap.size 33 1 v L.length (L.map (·.1))
  all : ∀ (k : Nat) (y : Value × List ByteArray), L[k]? = some y → TL wx (fun g => v.ownBlock ≠ some g) y.1 y.2 ∧ y.2.length ≤ 3
  bel : Below w0.heap.size w0 wx
theorem PT.up {w0 wx w' : World} {v : Value} {L : List (Value × List ByteArray)} (h : PT w0 wx v L) (hb : Below wx.heap.size wx w') : PT w0 w' v L :=
  ⟨own_only h.own (Only.of_below (fun _ => False) hb) (fun _ _ h => h), fun k y hy => ⟨(h.all k y hy).1.up hb, (h.all k y hy).2⟩, h.bel.next hb⟩
theorem PT.form {w0 wx : World} {v : Value} {L : List (Value × List ByteArray)} (h : PT w0 wx v L) : ∃ A c, v = .slice A L.length c := own_form h.own
/-- rows are appended -/
theorem PT.push {w0 wx w8 : World} {v v' : Value} {L us : List (Value × List ByteArray)} {n : Nat} {l : List Value} (h : PT w0 wx v L) (ho : w8.ownsRow w0.heap.size 33 1 v' n l) (hn : n = (L ++ us).length) (hl : l = (L ++ us).map (·.1)) (hg : wx.grownBy w8 v.ownBlock) (hd : v'.ownBlock = v.ownBlock ∨ v'.ownBlock = some wx.heap.size)
    (hu : ∀ y ∈ us, TL wx (fun g => v.ownBlock ≠ some g) y.1 y.2 ∧ y.2.length ≤ 3) : PT w0 w8 v' (L ++ us) := by
  subst hn hl
  have hlow : ∀ k, v.ownBlock = some k → w0.heap.size ≤ k := fun k hk => (World.ownsRow.lt h.own k hk).1
  have hon : Only (fun k => v.ownBlock = some k) wx w8 := (Only.refl (fun k => v.ownBlock = some k) wx).grown hg (fun k e => .inl e)
  have key : ∀ y : Value × List ByteArray, TL wx (fun g => v.ownBlock ≠ some g) y.1 y.2 → TL w8 (fun g => v'.ownBlock ≠ some g) y.1 y.2 := fun y hy => by
    refine ((hy.mono (fun _ hg => And.intro hg trivial)).low (Q := fun _ => True)).keep (Kept.of_only hon (fun g hg e => hg.1 e)) (fun g hg e => ?_)
    rcases hd with hd | hd
    · exact hg.1 (hd ▸ e)
    · rw [hd] at e
      injection e with e
      have := hg.2.2
      omega
  refine ⟨ho, fun k y hy => ?_, h.bel.grown hg h.bel.size (fun k hk => by have := hlow k hk; omega)⟩
  rcases List.mem_append.1 (List.mem_of_getElem? hy) with hm | hm
  · obtain ⟨j, hj⟩ := List.getElem?_of_mem hm
    exact ⟨key _ (h.all j y hj).1, (h.all j y hj).2⟩
  · exact ⟨key _ (hu y hm).1, (hu y hm).2⟩
/-- a row of texts laid at once -/
theorem tl_lit (w : World) (l : List ByteArray) (cs : Array Value) (n : Nat) (hn : n = l.length) (he : cs = (l.map Value.string).toArray) : TL (w.alloc (.cells cs 9)) (fun g => g = w.heap.size) (.slice (some ⟨w.heap.size, 0, none⟩) n n) l := by
  subst hn he
  refine ⟨_, _, rfl, Nat.le_refl _, fun h0 => ⟨_, rfl, rfl, by simp, fun k s hk => ?_⟩⟩
  obtain ⟨hk', e'⟩ := List.getElem?_eq_some_iff.1 hk
  rw [show ((⟨w.heap.size, 0, none⟩ : Addr).add k) = ⟨w.heap.size, k, none⟩ by cases k <;> simp [Addr.add], (Blk.new w 9 (l.map Value.string).toArray).cell k]
  simp [hk]
theorem pt_al {w0 wx : World} {v : Value} {L : List (Value × List ByteArray)} (h : PT w0 wx v L) (o : Obj) : PT w0 (wx.alloc o) v L := h.up ((Below.refl _ _).al o)
theorem tl_al {w : World} {S : Nat → Prop} {v : Value} {l : List ByteArray} (h : TL w S v l) (o : Obj) : TL (w.alloc o) S v l := h.up ((Below.refl _ _).al o)
/-- the law's own paths -/
theorem pt_first (w0 : World) (a b1 b2 c1 c2 c3 d1 d2 e1 : ByteArray) :
    PT w0 ((((((w0.alloc (.cells #[.string a] 9)).alloc (.cells #[.string b1, .string b2] 9)).alloc (.cells #[.string c1, .string c2, .string c3] 9)).alloc (.cells #[.string d1, .string d2] 9)).alloc (.cells #[.string e1] 9)).alloc
      (.cells #[.slice none 0 0, .slice (some ⟨w0.heap.size, 0, none⟩) 1 1, .slice (some ⟨w0.heap.size + 1, 0, none⟩) 2 2, .slice (some ⟨w0.heap.size + 1 + 1, 0, none⟩) 3 3, .slice (some ⟨w0.heap.size + 1 + 1 + 1, 0, none⟩) 2 2, .slice (some ⟨w0.heap.size + 1 + 1 + 1 + 1, 0, none⟩) 1 1] 33))
      (.slice (some ⟨w0.heap.size + 1 + 1 + 1 + 1 + 1, 0, none⟩) 6 6)
      [(.slice none 0 0, []), (.slice (some ⟨w0.heap.size, 0, none⟩) 1 1, [a]), (.slice (some ⟨w0.heap.size + 1, 0, none⟩) 2 2, [b1, b2]), (.slice (some ⟨w0.heap.size + 1 + 1, 0, none⟩) 3 3, [c1, c2, c3]), (.slice (some ⟨w0.heap.size + 1 + 1 + 1, 0, none⟩) 2 2, [d1, d2]), (.slice (some ⟨w0.heap.size + 1 + 1 + 1 + 1, 0, none⟩) 1 1, [e1])] := by
  have t1 := tl_lit w0 [a] #[.string a] 1 rfl rfl
  generalize hw1 : w0.alloc (.cells #[.string a] 9) = w1 at *
  have s1 : w1.heap.size = w0.heap.size + 1 := by rw [← hw1]; simp
  have t2 := tl_lit w1 [b1, b2] #[.string b1, .string b2] 2 rfl rfl
  have t1 := tl_al t1 (.cells #[.string b1, .string b2] 9)
  rw [s1] at t2
  generalize hw2 : w1.alloc (.cells #[.string b1, .string b2] 9) = w2 at *
  have s2 : w2.heap.size = w0.heap.size + 1 + 1 := by rw [← hw2]; simp [s1]
  have t3 := tl_lit w2 [c1, c2, c3] #[.string c1, .string c2, .string c3] 3 rfl rfl
  have t1 := tl_al t1 (.cells #[.string c1, .string c2, .string c3] 9)
  have t2 := tl_al t2 (.cells #[.string c1, .string c2, .string c3] 9)
  rw [s2] at t3
  generalize hw3 : w2.alloc (.cells #[.string c1, .string c2, .string c3] 9) = w3 at *
  have s3 : w3.heap.size = w0.heap.size + 1 + 1 + 1 := by rw [← hw3]; simp [s2]
  have t4 := tl_lit w3 [d1, d2] #[.string d1, .string d2] 2 rfl rfl
  have t1 := tl_al t1 (.cells #[.string d1, .string d2] 9)
  have t2 := tl_al t2 (.cells #[.string d1, .string d2] 9)
  have t3 := tl_al t3 (.cells #[.string d1, .string d2] 9)
  rw [s3] at t4
  generalize hw4 : w3.alloc (.cells #[.string d1, .string d2] 9) = w4 at *
  have s4 : w4.heap.size = w0.heap.size + 1 + 1 + 1 + 1 := by rw [← hw4]; simp [s3]
  have t5 := tl_lit w4 [e1] #[.string e1] 1 rfl rfl
  have t1 := tl_al t1 (.cells #[.string e1] 9)
  have t2 := tl_al t2 (.cells #[.string e1] 9)
  have t3 := tl_al t3 (.cells #[.string e1] 9)
  have t4 := tl_al t4 (.cells #[.string e1] 9)
  rw [s4] at t5
  have hb : Below w0.heap.size w0 (w4.alloc (.cells #[.string e1] 9)) := by
    rw [← hw4, ← hw3, ← hw2, ← hw1]
    exact (((((Below.refl _ _).al _).al _).al _).al _).al _
  generalize hw5 : w4.alloc (.cells #[.string e1] 9) = w5 at *
  have s5 : w5.heap.size = w0.heap.size + 1 + 1 + 1 + 1 + 1 := by rw [← hw5]; simp [s4]
  have key : ∀ (o : Obj) (v : Value) (l : List ByteArray) (g : Nat), TL w5 (fun q => q = g) v l → g < w5.heap.size → TL (w5.alloc o) (fun q => (Value.slice (some ⟨w0.heap.size + 1 + 1 + 1 + 1 + 1, 0, none⟩) 6 6).ownBlock ≠ some q) v l := fun o v l g h hg =>
    (tl_al h o).mono (fun q hq e => by
      have e2 : w0.heap.size + 1 + 1 + 1 + 1 + 1 = q := Option.some.inj e
      have hq2 : q = g := hq
      omega)
  refine ⟨by rw [← s5]; exact World.ownsRow_lit (base := w0.heap.size) (e := 33) (size := 1) w5 _ 6 hb.size (by unfold maxLen; omega) (by simp), fun k y hy => ?_, hb.al _⟩
  match k, hy with
  | 0, hy => injection hy with hy; subst hy; exact ⟨tl_nil _ _, by simp⟩
  | 1, hy => injection hy with hy; subst hy; exact ⟨key _ _ _ _ t1 (by omega), by simp⟩
  | 2, hy => injection hy with hy; subst hy; exact ⟨key _ _ _ _ t2 (by omega), by simp⟩
  | 3, hy => injection hy with hy; subst hy; exact ⟨key _ _ _ _ t3 (by omega), by simp⟩
  | 4, hy => injection hy with hy; subst hy; exact ⟨key _ _ _ _ t4 (by omega), by simp⟩
  | 5, hy => injection hy with hy; subst hy; exact ⟨key _ _ _ _ t5 (by omega), by simp⟩
  | k + 6, hy => simp at hy
theorem small_one {t : Nd} (h1 : t.list.length ≤ 1000000) (h2 : Small t.nodes) : Small [t] :=
  .mk _ (by simp) (fun u hu => by rw [List.mem_singleton.1 hu]; exact h1) (fun u hu => by rw [List.mem_singleton.1 hu]; exact h2)
theorem small_find : ∀ (path : List ByteArray) (l : List Nd), Small l → Small [(findR path l).getD nd0] := by
  have h0 : Small [nd0] := small_one (by simp [nd0, Nd.list]) (by simp only [nd0, Nd.nodes]; exact .nil)
  intro path
  induction path with
  | nil => intro l _; exact h0
  | cons p ps ih =>
    intro l h
    cases hf : l.findIdx? (isN p) with
    | none => rw [findR_none hf]; exact h0
    | some k =>
      obtain ⟨hk, -⟩ := List.findIdx?_eq_some_iff_getElem.1 hf
      have hm := List.getElem_mem hk
      rw [findR_some hf (List.getElem?_eq_getElem hk)]
      unfold contR
      split
      · exact small_one (h.list hm) (h.nodes hm)
      · split
        · exact ih _ (h.nodes hm)
        · exact h0
/-- one node, laid as a row -/
theorem nl_one {w : World} {S S' : Nat → Prop} {t : Nd} {vl vn : Value} (hl : TL w S vl t.list) (hn : NL w S' vn t.nodes) : NL (w.alloc (.cells (ncA t vl vn) 48)) (fun _ => True) (.slice (some ⟨w.heap.size, 0, none⟩) 1 1) [t] := by
  obtain ⟨c0, c1, c2, c3, c4, c5⟩ := nbx (Blk.new w 48 (ncA t vl vn))
  exact .row ⟨w.heap.size, 0, none⟩ 1 [t] (fun _ => vl) (fun _ => vn) (Nat.le_refl _) trivial (by simp)
    (fun k u hk => by
      match k, hk with
      | 0, hk =>
        injection hk with hk
        subst hk
        exact ⟨c0, c1, c2, c3, c4, c5⟩
      | k + 1, hk => simp at hk)
    (fun k u hk => by
      match k, hk with
      | 0, hk => injection hk with hk; subst hk; exact (hl.up ((Below.refl _ _).al _)).mono (fun _ _ => trivial)
      | k + 1, hk => simp at hk)
    (fun k u hk => by
      match k, hk with
      | 0, hk => injection hk with hk; subst hk; exact (hn.up ((Below.refl _ _).al _)).mono (fun _ _ => trivial)
      | k + 1, hk => simp at hk)
theorem two_cell33 (u v : Value) (h1 : u.oneCell' = true) (h2 : v.oneCell' = true) : ∀ x ∈ [u, v], x.oneCell' = true := by
  intro x hx
  simp at hx
  rcases hx with rfl | rfl <;> assumption
theorem reads_two33 {W : World} {g : Nat} (u v : Value) (t : TypeId) (hg : W.heap.size = g) : Reads (W.alloc (.cells #[u, v] t)) (W.alloc (.cells #[u, v] t)).heap.size 1 (some ⟨g, 0, none⟩) 2 [u, v] :=
  ⟨rfl, fun _ => ⟨_, rfl, by simp; omega, cells_at #[u, v] _ hg⟩⟩
theorem one_cell33 (v : Value) (h : v.oneCell' = true) : ∀ u ∈ [v], u.oneCell' = true := by intro u hu; rw [List.mem_singleton.1 hu]; exact h
theorem reads_one33 {W : World} {g : Nat} (v : Value) (t : TypeId) (hg : W.heap.size = g) : Reads (W.alloc (.cells #[v] t)) (W.alloc (.cells #[v] t)).heap.size 1 (some ⟨g, 0, none⟩) 1 [v] :=
  ⟨rfl, fun _ => ⟨_, rfl, by simp; omega, cell_one_at v t hg⟩⟩
set_option maxHeartbeats 16000000 in
theorem finds_walk (A : Option Addr) (n c : Nat) (zs : List Int) (W : World) (hn : n ≤ c) (hc : c ≤ maxLen) (hr : Reads W W.heap.size 1 A n (I zs)) (ht : Tab10 W) :
    Calls Tryd.prog 9 #[.slice A n c] W (Ret (.bool true) W) := by
  obtain ⟨i0, hi0, hz0, hz1, hz2⟩ := info_parts rowst_info
  have HT := Lib.hid (show ∀ W', Below W.heap.size W W' → Lib.TabIs Tryd.prog W' "internal/strconv.uint64pow10" .u64 Lib.pow10Tab from Lib.tabBelow_of_tabIs ht)
  have HN := Lib.hid (srcNew_any A n c zs W hn hc hr)
  clear ht hr hn hc
  go_enter Tryd.func9, Tryd.ntmps9
  go_wp2_with fail
  refine HN.out.mono ?_
  rintro e w1 ⟨rfl, hs1, hb1⟩
  have HTR := Lib.hid (tree3 hs1 hb1)
  clear hs1 hb1 HN
  go_wp2_with fail
  refine HTR.out.mono ?_
  rintro e w2 ⟨v, l, rfl, hm⟩
  obtain ⟨A2, c2, rfl⟩ := hm.form
  have HM := Lib.hid hm
  clear hm HTR
  go_wp2_with fail
  have HP0 := Lib.hid (pt_first w2 ⟨#[97]⟩ ⟨#[98]⟩ ⟨#[97]⟩ ⟨#[99]⟩ ⟨#[98]⟩ ⟨#[97]⟩ ⟨#[120, 95, 49]⟩ ⟨#[116, 97, 103, 115]⟩ ⟨#[115, 101, 103, 109, 101, 110, 116, 48]⟩)
  go_loopw [4, 5] (fun v i wx => ∃ (k : Nat) (L : List (Value × List ByteArray)), k ≤ l.length ∧ i = .int .i64 (k : Int) ∧ L.length ≤ 6 + k * 2000001 ∧ PT w2 wx v L) (fun _ i _ => l.length - (intOf i).toNat)
  case atStart => exact ⟨0, _, Nat.zero_le _, rfl, by simp, HP0.out⟩
  case round =>
    clear HP0
    obtain ⟨wo, hwo⟩ : ∃ wo, wo = wr := ⟨_, rfl⟩
    subst hwo
    obtain ⟨k, L, hk, rfl, hL, hpt⟩ := hrel
    have HP := Lib.hid hpt
    have hL2 : L.length ≤ 6 + l.length * 2000001 := Nat.le_trans hL (Nat.add_le_add_left (Nat.mul_le_mul_right _ hk) _)
    have hll : l.length ≤ 1000000 := (made_small HM.out.made).len
    clear hpt
    by_cases hlt : k < l.length
    · have z0 : (k : Int) < (l.length : Int) := by omega
      have z1 : (0 : Int) ≤ (k : Int) := by omega
      obtain ⟨ad, t, vl, vn, rfl, ht, _, had, h6, _, hnl⟩ := HM.out.nl.at_ hlt
      obtain ⟨Bn, dn, rfl, _⟩ := id hnl.form
      have hns : t.nodes.length ≤ 1000000 := ((made_small HM.out.made).nodes (List.mem_of_getElem? ht)).len
      have hadb : (ad.add (k * 6)).block < w2.heap.size := by rw [block_of_add]; exact had
      have had2 : (ad.add (k * 6)).block < wo.heap.size := Nat.lt_of_lt_of_le hadb HP.out.bel.size
      have HNL := Lib.hid hnl
      have H6 := Lib.hid (show ∀ wx, Below w2.heap.size w2 wx → Six wx (ad.add (k * 6)) t vl (.slice Bn t.nodes.length dn) from fun wx hb => h6.keep (S := fun _ => True) (Kept.of_below hb) trivial hadb)
      have p0 := (H6.out wo HP.out.bel).c0
      have HX := Lib.hid ((HP.out.up ((Below.refl _ _).al (.cells #[.string t.name] 9))).up ((Below.refl _ _).al (.cells #[.slice (some ⟨wo.heap.size, 0, none⟩) 1 1] 33)))
      have HT1 := Lib.hid (show TL _ _ _ _ from tl_al (tl_lit wo [t.name] #[.string t.name] 1 rfl rfl) (.cells #[.slice (some ⟨wo.heap.size, 0, none⟩) 1 1] 33))
      have hkL : L.length ≤ 3000000000000 := by omega
      clear h6 hnl
      obtain ⟨A4, c4, ev⟩ := HP.out.form
      have HEV := Lib.hid ev
      clear ev
      go_wp2_with (at_builtin; refine wpList_append_any _ rfl _ _ 46 rfl w2.heap.size 33 i0 _ 1 24 Tryd.underlying46 hi0 hz0 hz1 hz2 rfl (by decide) _ _ _ rfl HX.out.own _ (some ⟨_, 0, none⟩) 1 1 [.slice (some ⟨wo.heap.size, 0, none⟩) 1 1] rfl (reads_one33 _ _ (by simp)) (one_cell33 _ rfl) (by unfold maxLen; omega) (by omega) HX.out.bel.size ?_; intro v8 w8 ho8 hg8 hd8)
      have HP8 := Lib.hid (HX.out.push (us := [(.slice (some ⟨wo.heap.size, 0, none⟩) 1 1, [t.name])]) ho8 (by simp) (by simp) hg8 hd8 (fun y hy => by
        rw [List.mem_singleton.1 hy]
        exact ⟨HT1.out.mono (fun g hg e => by have := (World.ownsRow.lt HP.out.own _ e).2; have hg2 : g = wo.heap.size := hg; omega), by simp⟩))
      clear ho8 hg8 hd8 HX HT1 p0
      go_loopw [4, 6] (fun v i wx => ∃ (j : Nat) (L' : List (Value × List ByteArray)), j ≤ t.nodes.length ∧ i = .int .i64 (j : Int) ∧ L'.length ≤ L.length + 1 + j * 2 ∧ PT w2 wx v L') (fun _ i _ => t.nodes.length - (intOf i).toNat)
      case atStart => exact ⟨0, _, Nat.zero_le _, rfl, by simp, HP8.out⟩
      case round =>
        clear HP8
        obtain ⟨j, L', hj, rfl, hL', hpt⟩ := hrel
        have HP := Lib.hid hpt
        clear hpt
        by_cases hlt' : j < t.nodes.length
        · have z2 : (j : Int) < (t.nodes.length : Int) := by omega
          have z3 : (0 : Int) ≤ (j : Int) := by omega
          obtain ⟨ad2, u, ul, un, rfl, hu, _, hadu, h6u, _, _⟩ := HNL.out.at_ hlt'
          have hadc : (ad2.add (j * 6)).block < w2.heap.size := by rw [block_of_add]; exact hadu
          have HC := Lib.hid (show ∀ wx, Below w2.heap.size w2 wx → wx.cell? (ad.add (k * 6)) = some (.string t.name) ∧ wx.cell? ⟨(ad.add (k * 6)).block, (ad.add (k * 6)).off + 5, none⟩ = some (.slice (some ad2) t.nodes.length dn) ∧ wx.cell? (ad2.add (j * 6)) = some (.string u.name) from
            fun wx hb => ⟨(H6.out wx hb).c0, (H6.out wx hb).c5, ((h6u.keep (S := fun _ => True) (Kept.of_below hb) trivial hadc)).c0⟩)
          obtain ⟨p0, p5, q0⟩ := HC.out wr HP.out.bel
          have hadp : (ad.add (k * 6)).block < wr.heap.size := Nat.lt_of_lt_of_le hadb HP.out.bel.size
          have hadq : (ad2.add (j * 6)).block < wr.heap.size := Nat.lt_of_lt_of_le hadc HP.out.bel.size
          clear h6u hu
          have hkL' : L'.length ≤ 3000002000001 := by omega
          obtain ⟨A5, c5, ev⟩ := HP.out.form
          have HEV5 := Lib.hid ev
          clear ev
          have HLW := Lib.hid (show ∀ g, Value.ownBlock _ = some g → g < wr.heap.size from fun g hg => (World.ownsRow.lt HP.out.own g hg).2)
          have HXA := Lib.hid (show PT w2 ((((wr.alloc (.cells #[.string t.name, .string u.name] 9)).alloc (.cells #[.string t.name, .string u.name, .string ⟨#[97]⟩] 9)).alloc (.cells #[.slice (some ⟨wr.heap.size, 0, none⟩) 2 2, .slice (some ⟨wr.heap.size + 1, 0, none⟩) 3 3] 33)).drew) _ L' from ((HP.out.up ((((Below.refl wr.heap.size wr).al (.cells #[.string t.name, .string u.name] 9)).al (.cells #[.string t.name, .string u.name, .string ⟨#[97]⟩] 9)).al (.cells #[.slice (some ⟨wr.heap.size, 0, none⟩) 2 2, .slice (some ⟨wr.heap.size + 1, 0, none⟩) 3 3] 33)).drew)))
          have HRA := Lib.hid (show Reads ((((wr.alloc (.cells #[.string t.name, .string u.name] 9)).alloc (.cells #[.string t.name, .string u.name, .string ⟨#[97]⟩] 9)).alloc (.cells #[.slice (some ⟨wr.heap.size, 0, none⟩) 2 2, .slice (some ⟨wr.heap.size + 1, 0, none⟩) 3 3] 33)).drew) ((((wr.alloc (.cells #[.string t.name, .string u.name] 9)).alloc (.cells #[.string t.name, .string u.name, .string ⟨#[97]⟩] 9)).alloc (.cells #[.slice (some ⟨wr.heap.size, 0, none⟩) 2 2, .slice (some ⟨wr.heap.size + 1, 0, none⟩) 3 3] 33)).drew).heap.size 1 (some ⟨wr.heap.size + 1 + 1, 0, none⟩) 2 [.slice (some ⟨wr.heap.size, 0, none⟩) 2 2, .slice (some ⟨wr.heap.size + 1, 0, none⟩) 3 3] from reads_two33 (W := (wr.alloc (.cells #[.string t.name, .string u.name] 9)).alloc (.cells #[.string t.name, .string u.name, .string ⟨#[97]⟩] 9)) (.slice (some ⟨wr.heap.size, 0, none⟩) 2 2) (.slice (some ⟨wr.heap.size + 1, 0, none⟩) 3 3) 33 (by simp))
          have HUA := Lib.hid (show ∀ y ∈ [((.slice (some ⟨wr.heap.size, 0, none⟩) 2 2 : Value), ([t.name, u.name] : List ByteArray)), (.slice (some ⟨wr.heap.size + 1, 0, none⟩) 3 3, [t.name, u.name, ⟨#[97]⟩])], ∀ v' : Value, (∀ g, v'.ownBlock = some g → g < wr.heap.size) → TL ((((wr.alloc (.cells #[.string t.name, .string u.name] 9)).alloc (.cells #[.string t.name, .string u.name, .string ⟨#[97]⟩] 9)).alloc (.cells #[.slice (some ⟨wr.heap.size, 0, none⟩) 2 2, .slice (some ⟨wr.heap.size + 1, 0, none⟩) 3 3] 33)).drew) (fun g => v'.ownBlock ≠ some g) y.1 y.2 ∧ y.2.length ≤ 3 by
            have h1 := tl_al (tl_al (tl_lit wr [t.name, u.name] #[.string t.name, .string u.name] 2 rfl rfl) (.cells #[.string t.name, .string u.name, .string ⟨#[97]⟩] 9)) (.cells #[.slice (some ⟨wr.heap.size, 0, none⟩) 2 2, .slice (some ⟨wr.heap.size + 1, 0, none⟩) 3 3] 33)
            have h2 := tl_lit (wr.alloc (.cells #[.string t.name, .string u.name] 9)) [t.name, u.name, ⟨#[97]⟩] #[.string t.name, .string u.name, .string ⟨#[97]⟩] 3 rfl rfl
            rw [show (wr.alloc (.cells #[.string t.name, .string u.name] 9)).heap.size = wr.heap.size + 1 by simp] at h2
            have h2 := tl_al h2 (.cells #[.slice (some ⟨wr.heap.size, 0, none⟩) 2 2, .slice (some ⟨wr.heap.size + 1, 0, none⟩) 3 3] 33)
            intro y hy v' hv
            have k1 := (h1.up (Below.refl _ _).drew).mono (S' := fun g => v'.ownBlock ≠ some g) (fun g hg e => by have := hv _ e; have hg2 : g = wr.heap.size := hg; omega)
            have k2 := (h2.up (Below.refl _ _).drew).mono (S' := fun g => v'.ownBlock ≠ some g) (fun g hg e => by have := hv _ e; have hg2 : g = wr.heap.size + 1 := hg; omega)
            simp only [List.mem_cons, List.not_mem_nil, or_false] at hy
            rcases hy with rfl | rfl
            · exact ⟨k1, by simp⟩
            · exact ⟨k2, by simp⟩)
          have HXB := Lib.hid (show PT w2 ((((wr.alloc (.cells #[.string t.name, .string u.name, .string ⟨#[97]⟩] 9)).alloc (.cells #[.string t.name, .string u.name] 9)).alloc (.cells #[.slice (some ⟨wr.heap.size + 1, 0, none⟩) 2 2, .slice (some ⟨wr.heap.size, 0, none⟩) 3 3] 33)).drew) _ L' from ((HP.out.up ((((Below.refl wr.heap.size wr).al (.cells #[.string t.name, .string u.name, .string ⟨#[97]⟩] 9)).al (.cells #[.string t.name, .string u.name] 9)).al (.cells #[.slice (some ⟨wr.heap.size + 1, 0, none⟩) 2 2, .slice (some ⟨wr.heap.size, 0, none⟩) 3 3] 33)).drew)))
          have HRB := Lib.hid (show Reads ((((wr.alloc (.cells #[.string t.name, .string u.name, .string ⟨#[97]⟩] 9)).alloc (.cells #[.string t.name, .string u.name] 9)).alloc (.cells #[.slice (some ⟨wr.heap.size + 1, 0, none⟩) 2 2, .slice (some ⟨wr.heap.size, 0, none⟩) 3 3] 33)).drew) ((((wr.alloc (.cells #[.string t.name, .string u.name, .string ⟨#[97]⟩] 9)).alloc (.cells #[.string t.name, .string u.name] 9)).alloc (.cells #[.slice (some ⟨wr.heap.size + 1, 0, none⟩) 2 2, .slice (some ⟨wr.heap.size, 0, none⟩) 3 3] 33)).drew).heap.size 1 (some ⟨wr.heap.size + 1 + 1, 0, none⟩) 2 [.slice (some ⟨wr.heap.size + 1, 0, none⟩) 2 2, .slice (some ⟨wr.heap.size, 0, none⟩) 3 3] from reads_two33 (W := (wr.alloc (.cells #[.string t.name, .string u.name, .string ⟨#[97]⟩] 9)).alloc (.cells #[.string t.name, .string u.name] 9)) (.slice (some ⟨wr.heap.size + 1, 0, none⟩) 2 2) (.slice (some ⟨wr.heap.size, 0, none⟩) 3 3) 33 (by simp))
          have HUB := Lib.hid (show ∀ y ∈ [((.slice (some ⟨wr.heap.size + 1, 0, none⟩) 2 2 : Value), ([t.name, u.name] : List ByteArray)), (.slice (some ⟨wr.heap.size, 0, none⟩) 3 3, [t.name, u.name, ⟨#[97]⟩])], ∀ v' : Value, (∀ g, v'.ownBlock = some g → g < wr.heap.size) → TL ((((wr.alloc (.cells #[.string t.name, .string u.name, .string ⟨#[97]⟩] 9)).alloc (.cells #[.string t.name, .string u.name] 9)).alloc (.cells #[.slice (some ⟨wr.heap.size + 1, 0, none⟩) 2 2, .slice (some ⟨wr.heap.size, 0, none⟩) 3 3] 33)).drew) (fun g => v'.ownBlock ≠ some g) y.1 y.2 ∧ y.2.length ≤ 3 by
            have h1 := tl_al (tl_al (tl_lit wr [t.name, u.name, ⟨#[97]⟩] #[.string t.name, .string u.name, .string ⟨#[97]⟩] 3 rfl rfl) (.cells #[.string t.name, .string u.name] 9)) (.cells #[.slice (some ⟨wr.heap.size + 1, 0, none⟩) 2 2, .slice (some ⟨wr.heap.size, 0, none⟩) 3 3] 33)
            have h2 := tl_lit (wr.alloc (.cells #[.string t.name, .string u.name, .string ⟨#[97]⟩] 9)) [t.name, u.name] #[.string t.name, .string u.name] 2 rfl rfl
            rw [show (wr.alloc (.cells #[.string t.name, .string u.name, .string ⟨#[97]⟩] 9)).heap.size = wr.heap.size + 1 by simp] at h2
            have h2 := tl_al h2 (.cells #[.slice (some ⟨wr.heap.size + 1, 0, none⟩) 2 2, .slice (some ⟨wr.heap.size, 0, none⟩) 3 3] 33)
            intro y hy v' hv
            have k1 := (h1.up (Below.refl _ _).drew).mono (S' := fun g => v'.ownBlock ≠ some g) (fun g hg e => by have := hv _ e; have hg2 : g = wr.heap.size := hg; omega)
            have k2 := (h2.up (Below.refl _ _).drew).mono (S' := fun g => v'.ownBlock ≠ some g) (fun g hg e => by have := hv _ e; have hg2 : g = wr.heap.size + 1 := hg; omega)
            simp only [List.mem_cons, List.not_mem_nil, or_false] at hy
            rcases hy with rfl | rfl
            · exact ⟨k2, by simp⟩
            · exact ⟨k1, by simp⟩)
          go_wp2_with fail
          go_region_held3 (fun w' => w'.cell? (ad.add (k * 6)) = some (.string t.name) ∧ w'.cell? ⟨(ad.add (k * 6)).block, (ad.add (k * 6)).off + 5, none⟩ = some (.slice (some ad2) t.nodes.length dn) ∧ w'.cell? (ad2.add (j * 6)) = some (.string u.name))
            (first | exact HC.out _ HP.out.bel.drew | exact HC.out _ (HP.out.bel.al _).drew | exact HC.out _ ((HP.out.bel.al _).al _).drew | exact HC.out _ (((HP.out.bel.al _).al _).al _).drew | exact HC.out _ HP8.out.bel) (first
            | (refine step_append_any _ rfl (.tmp 46) (.tmp 77) 46 rfl w2.heap.size 33 i0 _ 1 24 Tryd.underlying46 hi0 hz0 hz1 hz2 rfl (by decide) _ L'.length (L'.map (·.1)) (by simp [Act.eval]) HXA.out.own _ (some ⟨wr.heap.size + 1 + 1, 0, none⟩) 2 2 [.slice (some ⟨wr.heap.size, 0, none⟩) 2 2, .slice (some ⟨wr.heap.size + 1, 0, none⟩) 3 3] (by simp [Act.eval]) HRA.out (two_cell33 _ _ rfl rfl) (by unfold maxLen; omega) (by omega) HXA.out.bel.size ?_; intro v8 w8 ho8 hg8 hd8; have HP8 := Lib.hid (HXA.out.push (us := [(.slice (some ⟨wr.heap.size, 0, none⟩) 2 2, [t.name, u.name]), (.slice (some ⟨wr.heap.size + 1, 0, none⟩) 3 3, [t.name, u.name, ⟨#[97]⟩])]) ho8 (by simp) (by simp) hg8 hd8 (fun y hy => HUA.out y hy _ HLW.out)); clear ho8 hg8 hd8; skip)
            | (refine step_append_any _ rfl (.tmp 46) (.tmp 77) 46 rfl w2.heap.size 33 i0 _ 1 24 Tryd.underlying46 hi0 hz0 hz1 hz2 rfl (by decide) _ L'.length (L'.map (·.1)) (by simp [Act.eval]) HXB.out.own _ (some ⟨wr.heap.size + 1 + 1, 0, none⟩) 2 2 [.slice (some ⟨wr.heap.size + 1, 0, none⟩) 2 2, .slice (some ⟨wr.heap.size, 0, none⟩) 3 3] (by simp [Act.eval]) HRB.out (two_cell33 _ _ rfl rfl) (by unfold maxLen; omega) (by omega) HXB.out.bel.size ?_; intro v8 w8 ho8 hg8 hd8; have HP8 := Lib.hid (HXB.out.push (us := [(.slice (some ⟨wr.heap.size + 1, 0, none⟩) 2 2, [t.name, u.name]), (.slice (some ⟨wr.heap.size, 0, none⟩) 3 3, [t.name, u.name, ⟨#[97]⟩])]) ho8 (by simp) (by simp) hg8 hd8 (fun y hy => HUB.out y hy _ HLW.out)); clear ho8 hg8 hd8; skip))
          all_goals
            go_wp2_with fail
            go_roundw
            case rel => exact ⟨j + 1, _, by omega, by go_num, by simp; omega, HP8.out⟩
            case measure => simp [intOf]; omega
        · obtain rfl : j = t.nodes.length := by omega
          have p5 := (H6.out wr HP.out.bel).c5
          have hadp : (ad.add (k * 6)).block < wr.heap.size := Nat.lt_of_lt_of_le hadb HP.out.bel.size
          go_wp2_with fail
          go_roundw
          case rel => exact ⟨k + 1, _, by omega, by go_num, by omega, HP.out⟩
          case measure => simp [intOf]; omega
    · obtain rfl : k = l.length := by omega
      have hkL : L.length ≤ 3000000000000 := by omega
      obtain ⟨A4, c4, ev⟩ := HP.out.form
      subst ev
      go_wp2_with fail
      go_loopw [7] (fun i wx => ∃ j : Nat, j ≤ L.length ∧ i = .int .i64 (j : Int) ∧ PT w2 wx (.slice A4 L.length c4) L) (fun i _ => L.length - (intOf i).toNat)
      case atStart => exact ⟨0, Nat.zero_le _, rfl, HP.out⟩
      case round =>
        clear HP
        obtain ⟨j, hj, rfl, hpt⟩ := hrel
        have HP := Lib.hid hpt
        clear hpt
        by_cases hlt' : j < L.length
        case neg =>
          obtain rfl : j = L.length := by omega
          go_wp2_with fail
          refine (awake_any (HT.out _ (HM.out.bel.next HP.out.bel))).mono ?_
          rintro e w9 ⟨rfl, hb9⟩
          have HB9 := Lib.hid ((HM.out.bel.next HP.out.bel).next hb9)
          clear hb9
          go_wp2_with fail
          go_ret
          exact ⟨rfl, HB9.out⟩
        have z2 : (j : Int) < (L.length : Int) := by omega
        have z3 : (0 : Int) ≤ (j : Int) := by omega
        obtain ⟨⟨v, p⟩, hy⟩ : ∃ y, L[j]? = some y := ⟨_, List.getElem?_eq_getElem hlt'⟩
        obtain ⟨Ap, cp, rfl, _⟩ := (show TL wr _ v p from (HP.out.all j _ hy).1).form
        have hp3 : p.length ≤ 1000000 := by have := (HP.out.all j _ hy).2; simp only at this; omega
        obtain ⟨g6, rfl⟩ : ∃ g6, A4 = some ⟨g6, 0, none⟩ := by
          rcases HP.out.own.2 with ⟨hv, h0⟩ | ⟨g, cap, cur, hv, _⟩
          · omega
          · injection hv with hv; exact ⟨g, hv⟩
        have HK := Lib.hid (show ∀ W', PT w2 W' (.slice (some ⟨g6, 0, none⟩) L.length c4) L → W'.cell? ⟨g6, j, none⟩ = some (.slice Ap p.length cp) from fun W' h => by
          have := World.ownsRow.cellAt h.own j (by omega)
          rw [List.getElem?_map, hy] at this
          exact this)
        have HTL := Lib.hid (show ∀ W', PT w2 W' (.slice (some ⟨g6, 0, none⟩) L.length c4) L → ∃ S, TL W' S (.slice Ap p.length cp) p from fun W' h => ⟨_, (h.all j _ hy).1⟩)
        have a0 := HK.out _ HP.out
        have hc := fun W' (h : PT w2 W' (.slice (some ⟨g6, 0, none⟩) L.length c4) L) => cfind_any (w := W') (HM.out.nl.up h.bel) (HTL.out W' h).choose_spec (made_small HM.out.made) hp3
        have hd := fun W' (h : PT w2 W' (.slice (some ⟨g6, 0, none⟩) L.length c4) L) => rfind_any p l (w := W') (HM.out.nl.up h.bel) (HTL.out W' h).choose_spec (made_small HM.out.made) hp3
        have hs := small_find p l (made_small HM.out.made)
        unfold FindRet at hc
        unfold FindS at hd
        generalize findR p l = o at hc hd hs
        generalize o.getD nd0 = t at hc hd hs
        generalize o.isSome = is at hc hd
        have HC := Lib.hid hc
        have HD := Lib.hid hd
        have HS := Lib.hid hs
        clear hc hd hs hy
        go_wp2_with fail
        refine (HC.out _ HP.out).mono ?_
        rintro e w3 ⟨vl, vn, rfl, hl3, hn3, hb3⟩
        obtain ⟨Bl, cl, rfl, _⟩ := id hl3
        obtain ⟨Bn, cn, rfl, _⟩ := hn3.form
        have HP3 := Lib.hid (pt_al (HP.out.up hb3) (.cells #[.string t.name, .int .i64 t.kind, .int .i64 t.num, .string t.text, .slice Bl t.list.length cl, .slice Bn t.nodes.length cn] 48))
        have H3 := Lib.hid (And.intro hl3 hn3)
        have HB3 := Lib.hid (Blk.new w3 48 #[.string t.name, .int .i64 t.kind, .int .i64 t.num, .string t.text, .slice Bl t.list.length cl, .slice Bn t.nodes.length cn])
        clear hl3 hn3 hb3 a0 HP HC
        have a0 := HK.out _ HP3.out
        unfold ncA
        go_wp2_with fail
        refine (HD.out _ HP3.out).mono ?_
        rintro e w4 ⟨ul, un, rfl, hl4, hn4, hb4⟩
        obtain ⟨Ul, el, rfl, _⟩ := id hl4
        obtain ⟨Un, en, rfl, _⟩ := hn4.form
        have HP4 := Lib.hid (HP3.out.up hb4)
        have H3' := Lib.hid (And.intro ((tl_al H3.out.1 _).up hb4) ((H3.out.2.up ((Below.refl _ _).al _)).up hb4))
        have H4 := Lib.hid (And.intro hl4 hn4)
        have HB4 := Lib.hid ((HB3.out.below hb4 (by simp)).below ((Below.refl _ _).al (.cells #[.string t.name, .int .i64 t.kind, .int .i64 t.num, .string t.text, .slice Ul t.list.length el, .slice Un t.nodes.length en] 48)) (HB3.out.below hb4 (by simp)).lt)
        have HB5 := Lib.hid (Blk.new w4 48 #[.string t.name, .int .i64 t.kind, .int .i64 t.num, .string t.text, .slice Ul t.list.length el, .slice Un t.nodes.length en])
        have hw3 : w3.heap.size < w4.heap.size := (HB3.out.below hb4 (by simp)).lt
        clear hl4 hn4 hb4 a0 HP3 HD H3 HB3
        have q1 : (is != is) = false := by simp
        have hx1 : NL (((w4.alloc (.cells #[.string t.name, .int .i64 t.kind, .int .i64 t.num, .string t.text, .slice Ul t.list.length el, .slice Un t.nodes.length en] 48)).alloc (.cells #[.string t.name, .int .i64 t.kind, .int .i64 t.num, .string t.text, .slice Bl t.list.length cl, .slice Bn t.nodes.length cn] 48)).alloc (.cells #[.string t.name, .int .i64 t.kind, .int .i64 t.num, .string t.text, .slice Ul t.list.length el, .slice Un t.nodes.length en] 48)) (fun _ => True) (.slice (some ⟨w4.heap.size + 1, 0, none⟩) 1 1) [t] := by
          have h := (nl_one (w := w4.alloc (.cells #[.string t.name, .int .i64 t.kind, .int .i64 t.num, .string t.text, .slice Ul t.list.length el, .slice Un t.nodes.length en] 48)) (tl_al H3'.out.1 _) (H3'.out.2.up ((Below.refl _ _).al _))).up ((Below.refl _ _).al (.cells #[.string t.name, .int .i64 t.kind, .int .i64 t.num, .string t.text, .slice Ul t.list.length el, .slice Un t.nodes.length en] 48))
          rw [World.size_alloc] at h
          exact h
        have hx2 : NL (((w4.alloc (.cells #[.string t.name, .int .i64 t.kind, .int .i64 t.num, .string t.text, .slice Ul t.list.length el, .slice Un t.nodes.length en] 48)).alloc (.cells #[.string t.name, .int .i64 t.kind, .int .i64 t.num, .string t.text, .slice Bl t.list.length cl, .slice Bn t.nodes.length cn] 48)).alloc (.cells #[.string t.name, .int .i64 t.kind, .int .i64 t.num, .string t.text, .slice Ul t.list.length el, .slice Un t.nodes.length en] 48)) (fun _ => True) (.slice (some ⟨w4.heap.size + 1 + 1, 0, none⟩) 1 1) [t] := by
          have h := nl_one (w := (w4.alloc (.cells #[.string t.name, .int .i64 t.kind, .int .i64 t.num, .string t.text, .slice Ul t.list.length el, .slice Un t.nodes.length en] 48)).alloc (.cells #[.string t.name, .int .i64 t.kind, .int .i64 t.num, .string t.text, .slice Bl t.list.length cl, .slice Bn t.nodes.length cn] 48)) (tl_al (tl_al H4.out.1 _) _) (H4.out.2.up (((Below.refl _ _).al _).al _))
          rw [World.size_alloc, World.size_alloc] at h
          exact h
        have HC := Lib.hid (rsame_nodes _ [t] [t] (Nat.lt_succ_self _) hx1 hx2 (b := true) (by simp) HS.out HS.out)
        have HP5 := Lib.hid (show PT w2 (((w4.alloc (.cells #[.string t.name, .int .i64 t.kind, .int .i64 t.num, .string t.text, .slice Ul t.list.length el, .slice Un t.nodes.length en] 48)).alloc (.cells #[.string t.name, .int .i64 t.kind, .int .i64 t.num, .string t.text, .slice Bl t.list.length cl, .slice Bn t.nodes.length cn] 48)).alloc (.cells #[.string t.name, .int .i64 t.kind, .int .i64 t.num, .string t.text, .slice Ul t.list.length el, .slice Un t.nodes.length en] 48)) _ L from pt_al (pt_al (pt_al HP4.out _) _) _)
        obtain ⟨r0, r1, r2, r3, r4, r5⟩ := nbx HB4.out
        obtain ⟨s0, s1, s2, s3, s4, s5⟩ := nbx HB5.out
        clear hx1 hx2 HP4 H3' H4 HB4 HB5
        unfold ncA
        go_wp2_with fail
        refine HC.out.mono ?_
        rintro e w5 ⟨rfl, hb5⟩
        have HP6 := Lib.hid (HP5.out.up hb5)
        clear hb5 HP5 HC r0 r1 r2 r3 r4 r5 s0 s1 s2 s3 s4 s5
        go_wp2_with fail
        go_roundw
        case rel => exact ⟨j + 1, by omega, by go_num, HP6.out⟩
        case measure => simp [intOf]; omega
end Go.Proofs.YtfmdbmalmeimbaaDoor
