/- The walk of NamesApart. -/
import Derived.Test.YtnodlkjajgeepaaDoorPlain
namespace Go.Proofs.YtnodlkjajgeepaaDoor
open Go.RowKit

theorem string_info : (Tryd.prog.info? 9).map (fun i => (i.zero, i.size, i.bytes)) = some (some (.string ⟨#[]⟩), 1, 16) := by kernel_rfl
theorem T_append (l : List ByteArray) (a : ByteArray) : T (l ++ [a]) = T l ++ [.string a] := by simp [T]

theorem app_inj {x y p q : ByteArray} (hp : p ∈ sufs) (hq : q ∈ sufs) (h : x ++ p = y ++ q) : x = y ∧ p = q := by
  have h1 := cut_app x p hp
  rw [h, cut_app y q hq] at h1
  injection h1 with e
  subst e
  refine ⟨rfl, ba_ext ?_⟩
  have := congrArg (fun s : ByteArray => s.data.toList) h
  simp only [app_list] at this
  exact List.append_cancel_left this
theorem leg_inj : ∀ i j : Nat, i < 8 → j < 8 → legSuf i = legSuf j → i = j := by
  intro i j hi hj
  rcases (show i = 0 ∨ i = 1 ∨ i = 2 ∨ i = 3 ∨ i = 4 ∨ i = 5 ∨ i = 6 ∨ i = 7 by omega) with rfl | rfl | rfl | rfl | rfl | rfl | rfl | rfl <;>
  rcases (show j = 0 ∨ j = 1 ∨ j = 2 ∨ j = 3 ∨ j = 4 ∨ j = 5 ∨ j = 6 ∨ j = 7 by omega) with rfl | rfl | rfl | rfl | rfl | rfl | rfl | rfl <;> decide +kernel
theorem part_inj : ∀ i j : Nat, 1 ≤ i → i ≤ 4 → 1 ≤ j → j ≤ 4 → partSuf i = partSuf j → i = j := by
  intro i j hi hi2 hj hj2
  rcases (show i = 1 ∨ i = 2 ∨ i = 3 ∨ i = 4 by omega) with rfl | rfl | rfl | rfl <;>
  rcases (show j = 1 ∨ j = 2 ∨ j = 3 ∨ j = 4 by omega) with rfl | rfl | rfl | rfl <;> decide +kernel
theorem leg_part : ∀ i j : Nat, i < 8 → 1 ≤ j → j ≤ 4 → legSuf i ≠ partSuf j := by
  intro i j hi hj hj2
  rcases (show i = 0 ∨ i = 1 ∨ i = 2 ∨ i = 3 ∨ i = 4 ∨ i = 5 ∨ i = 6 ∨ i = 7 by omega) with rfl | rfl | rfl | rfl | rfl | rfl | rfl | rfl <;>
  rcases (show j = 1 ∨ j = 2 ∨ j = 3 ∨ j = 4 by omega) with rfl | rfl | rfl | rfl <;> decide +kernel

/-- what lies in the list: legs and parts of x, and legs of y if that is another name; none twice -/
structure Inv (x y : ByteArray) (i1 i2 i3 : Nat) (zs : List ByteArray) : Prop where
  nodup : zs.Nodup
  len : zs.length ≤ i1 + i2 + i3
  mem : ∀ z ∈ zs, (∃ j, j < i1 ∧ z = x ++ legSuf j) ∨ (∃ j, j < i2 ∧ 1 ≤ j ∧ j ≤ 4 ∧ z = x ++ partSuf j) ∨ (x ≠ y ∧ ∃ j, j < i3 ∧ z = y ++ legSuf j)
theorem Inv.mono {x y : ByteArray} {i1 i2 i3 k1 k2 k3 : Nat} {zs : List ByteArray} (h : Inv x y i1 i2 i3 zs) (h1 : i1 ≤ k1) (h2 : i2 ≤ k2) (h3 : i3 ≤ k3) : Inv x y k1 k2 k3 zs :=
  ⟨h.nodup, by have := h.len; omega, fun z hz => by
    rcases h.mem z hz with ⟨j, hj, e⟩ | ⟨j, hj, ha, hb, e⟩ | ⟨hn, j, hj, e⟩
    · exact .inl ⟨j, by omega, e⟩
    · exact .inr (.inl ⟨j, by omega, ha, hb, e⟩)
    · exact .inr (.inr ⟨hn, j, by omega, e⟩)⟩
theorem nodup_snoc {zs : List ByteArray} {a : ByteArray} (h : zs.Nodup) (ha : a ∉ zs) : (zs ++ [a]).Nodup := by
  rw [List.nodup_append]
  refine ⟨h, by simp, fun z hz b hb => ?_⟩
  rw [List.mem_singleton.1 hb]
  exact fun e => ha (e ▸ hz)
theorem Inv.leg {x y : ByteArray} {i : Nat} {zs : List ByteArray} (h : Inv x y i i i zs) (hi : i < 8) : Inv x y (i + 1) i i (zs ++ [x ++ legSuf i]) := by
  refine ⟨nodup_snoc h.nodup fun hm => ?_, by have := h.len; simp; omega, fun z hz => ?_⟩
  · rcases h.mem _ hm with ⟨j, hj, e⟩ | ⟨j, hj, ha, hb, e⟩ | ⟨hn, j, hj, e⟩
    · have := leg_inj i j hi (by omega) (app_inj (legSuf_mem i) (legSuf_mem j) e).2; omega
    · exact leg_part i j hi ha hb (app_inj (legSuf_mem i) (partSuf_mem j) e).2
    · exact hn (app_inj (legSuf_mem i) (legSuf_mem j) e).1
  · rcases List.mem_append.1 hz with hz | hz
    · rcases h.mem z hz with ⟨j, hj, e⟩ | h2 | h2
      · exact .inl ⟨j, by omega, e⟩
      · exact .inr (.inl h2)
      · exact .inr (.inr h2)
    · exact .inl ⟨i, by omega, List.mem_singleton.1 hz⟩
theorem Inv.part {x y : ByteArray} {i : Nat} {zs : List ByteArray} (h : Inv x y (i + 1) i i zs) (hi : i < 8) (h1 : 1 ≤ i) (h4 : i ≤ 4) : Inv x y (i + 1) (i + 1) i (zs ++ [x ++ partSuf i]) := by
  refine ⟨nodup_snoc h.nodup fun hm => ?_, by have := h.len; simp; omega, fun z hz => ?_⟩
  · rcases h.mem _ hm with ⟨j, hj, e⟩ | ⟨j, hj, ha, hb, e⟩ | ⟨hn, j, hj, e⟩
    · exact leg_part j i (by omega) h1 h4 (app_inj (partSuf_mem i) (legSuf_mem j) e).2.symm
    · have := part_inj i j h1 h4 ha hb (app_inj (partSuf_mem i) (partSuf_mem j) e).2; omega
    · exact hn (app_inj (partSuf_mem i) (legSuf_mem j) e).1
  · rcases List.mem_append.1 hz with hz | hz
    · rcases h.mem z hz with h2 | ⟨j, hj, e⟩ | h2
      · exact .inl h2
      · exact .inr (.inl ⟨j, by omega, e⟩)
      · exact .inr (.inr h2)
    · exact .inr (.inl ⟨i, by omega, h1, h4, List.mem_singleton.1 hz⟩)
theorem Inv.other {x y : ByteArray} {i : Nat} {zs : List ByteArray} (h : Inv x y (i + 1) (i + 1) i zs) (hi : i < 8) (hn : x ≠ y) : Inv x y (i + 1) (i + 1) (i + 1) (zs ++ [y ++ legSuf i]) := by
  refine ⟨nodup_snoc h.nodup fun hm => ?_, by have := h.len; simp; omega, fun z hz => ?_⟩
  · rcases h.mem _ hm with ⟨j, hj, e⟩ | ⟨j, hj, ha, hb, e⟩ | ⟨_, j, hj, e⟩
    · exact hn (app_inj (legSuf_mem i) (legSuf_mem j) e).1.symm
    · exact hn (app_inj (legSuf_mem i) (partSuf_mem j) e).1.symm
    · have := leg_inj i j hi (by omega) (app_inj (legSuf_mem i) (legSuf_mem j) e).2; omega
  · rcases List.mem_append.1 hz with hz | hz
    · rcases h.mem z hz with h2 | h2 | ⟨_, j, hj, e⟩
      · exact .inl h2
      · exact .inr (.inl h2)
      · exact .inr (.inr ⟨hn, j, by omega, e⟩)
    · exact .inr (.inr ⟨hn, i, by omega, List.mem_singleton.1 hz⟩)

/-- the list that NamesApart builds, in memory -/
structure AS (wb wr : World) (v : Value) (zs : List ByteArray) : Prop where
  own : wr.ownsRow wb.heap.size 9 1 v zs.length (T zs)
  onl : Only (fun _ => False) wb wr
theorem AS.below {wb wr w' : World} {v : Value} {zs : List ByteArray} (h : AS wb wr v zs) (hb : Below wr.heap.size wr w') : AS wb w' v zs :=
  ⟨own_only h.own (Only.of_below (fun _ => False) hb) (fun _ _ h => h), h.onl.next hb⟩
theorem AS.grow {wb wr w' : World} {v v' : Value} {zs : List ByteArray} {a : ByteArray} {o : Obj} (h : AS wb wr v zs) (ho : w'.ownsRow wb.heap.size 9 1 v' (zs.length + 1) (T zs ++ [.string a])) (hg : (wr.alloc o).grownBy w' v.ownBlock) : AS wb w' v' (zs ++ [a]) :=
  ⟨by rw [T_append, List.length_append]; exact ho, (h.onl.alloc o).grown hg (fun k hk => .inr (h.own.lt k hk).1)⟩
theorem AS.size {wb wr : World} {v : Value} {zs : List ByteArray} (h : AS wb wr v zs) : wb.heap.size ≤ wr.heap.size := h.onl.size
theorem own_reads {base : Nat} {w : World} {v : Value} {l : List ByteArray} (h : w.ownsRow base 9 1 v l.length (T l)) : ∃ A c, v = .slice A l.length c ∧ Reads w w.heap.size 1 A l.length (T l) := by
  have h' := h
  obtain ⟨h1, h2⟩ := h
  rcases h2 with ⟨h2, h3⟩ | ⟨g, cap, cur, rfl, r⟩
  · subst h2
    refine ⟨none, 0, by rw [h3], ?_⟩
    rw [h3] at h' ⊢
    exact Reads.of_own h'
  · exact ⟨_, _, rfl, Reads.of_own h'⟩
theorem nodup_at {zs : List ByteArray} (h : zs.Nodup) {i j : Nat} {a b : ByteArray} (ha : zs[i]? = some a) (hb : zs[j]? = some b) (hij : j < i) : a ≠ b := by
  intro e
  subst e
  have := (List.getElem?_inj (List.getElem?_eq_some_iff.1 ha).1 h).1 (ha.trans hb.symm)
  omega
theorem ne_beq {a b : ByteArray} (h : a ≠ b) : (a.toList == b.toList) = false := by
  rw [beq_eq_false_iff_ne, Lib.toList_data, Lib.toList_data]
  exact fun e => h (ba_ext e)
theorem beq_ne {a b : ByteArray} (h : (a.toList == b.toList) = false) : a ≠ b := by
  intro e
  subst e
  simp at h

set_option maxRecDepth 100000 in
set_option maxHeartbeats 8000000 in
theorem apart_walk (A : Option Addr) (m c : Nat) (l : List Int) (W : World) (hmc : m ≤ c) (hcm : c ≤ maxLen) (hr : Reads W W.heap.size 1 A m (I l)) (hS : Suf W) :
    Calls Tryd.prog 3 #[.slice A m c] W (Ret (.bool true) W) := by
  have HN := Lib.hid (srcNew_any A m c l W hmc hcm hr)
  have HS := Lib.hid hS
  have hw0 := hS.pos
  clear hr hmc hcm hS
  obtain ⟨i0, hi0, hz0, hz1, hz2⟩ := info_parts string_info
  go_enter Tryd.func3, Tryd.ntmps3
  go_wp2_with fail
  refine HN.out.mono ?_
  rintro e w1 ⟨rfl, hs1, hb1⟩
  have HK1 := Lib.hid hs1
  have HB1 := Lib.hid hb1
  have HS1 := Lib.hid (HS.out.below hb1 hw0)
  clear hs1 hb1 HN HS
  go_wp2_with fail
  refine (built_any W.heap.size W.heap.size w1 HK1.out).mono ?_
  rintro e w2 ⟨x, hxs, rfl, hs2, ho2⟩
  have HK2 := Lib.hid hs2
  have HB2 := Lib.hid (HB1.out.trans (ho2.below HK1.out.lt.2.2 (fun k e => by rw [e]; exact Nat.le_refl _)))
  have HS2 := Lib.hid (HS1.out.only ho2 (by omega))
  clear hs2 ho2 HK1 HB1 HS1
  go_wp2_with fail
  refine (built_any W.heap.size W.heap.size w2 HK2.out).mono ?_
  rintro e wb ⟨y, hys, rfl, hs3, ho3⟩
  have HB3 := Lib.hid (HB2.out.trans (ho3.below HK2.out.lt.2.2 (fun k e => by rw [e]; exact Nat.le_refl _)))
  have HSB := Lib.hid (HS2.out.only ho3 (by omega))
  clear hs3 ho3 HK2 HB2 HS2
  have HX := Lib.hid hxs
  have HY := Lib.hid hys
  clear hxs hys
  go_wp2_with fail
  go_loopw [6, 7] (fun v i wr => ∃ (k : Nat) (zs : List ByteArray), k ≤ 8 ∧ i = .int .i64 (k : Int) ∧ Inv x y k k k zs ∧ AS wb wr v zs) (fun _ i _ => 8 - (intOf i).toNat)
  case atStart => exact ⟨0, [], by omega, rfl, ⟨by simp, by simp, by simp⟩, ⟨World.ownsRow_nil _ _ _ _, Only.refl _ _⟩⟩
  case round =>
    obtain ⟨k, zs, hk, rfl, hinv, has⟩ := hrel
    have HI := Lib.hid hinv
    have HA := Lib.hid has
    clear hinv has
    by_cases hlt : k < 8
    · have j0 : (k : Int) < 8 := by omega
      have HSR := Lib.hid (HSB.out.only HA.out.onl (fun h => h))
      have HL := Lib.hid (leg_any x k wr (by have := HX.out; omega) HSR.out)
      obtain ⟨a, ea, hla⟩ : ∃ a ea, legR x k = (a, ea) := ⟨_, _, rfl⟩
      rw [hla] at HL
      have HLA := Lib.hid hla
      clear hla
      go_wp2_with fail
      refine HL.out.mono ?_
      rintro e w5 ⟨rfl, hb5⟩
      have HA5 := Lib.hid (HA.out.below hb5)
      clear hb5 HL HA HSR
      unfold V2
      by_cases he1 : ea = 0
      · subst he1
        have HV1 := Lib.hid (show Inv x y (k + 1) k k (zs ++ [a]) by
          obtain ⟨_, _, _, _, e⟩ := leg_form HLA.out
          rw [e]
          exact HI.out.leg hlt)
        go_wp2_with (at_builtin; refine wpList_append_own _ rfl _ _ 26 rfl wb.heap.size 9 i0 _ 1 16 Tryd.underlying26 hi0 hz0 hz1 hz2 rfl (by decide) _ _ _ rfl (HA5.out.own.alloc _) ⟨w5.heap.size, 0, none⟩ 1 1 [.string a] rfl rfl (cell_one_new _ _ _) (by simp [Value.oneCell']) (by have := HI.out.len; have := HI.out.len; unfold maxLen; omega) (by have := HI.out.len; have := HI.out.len; omega) (by have := HA5.out.size; simp; omega) ?_; intro v1 HW1w hown' hgrow _)
        have HW1 := Lib.hid (HA5.out.grow hown' hgrow)
        clear hown' hgrow HA5
        have HSP := Lib.hid (HSB.out.only HW1.out.onl (fun h => h))
        have HP := Lib.hid (part_any x k HW1w (by have := HX.out; omega) HSP.out)
        obtain ⟨b, eb, hpb⟩ : ∃ b eb, partR x k = (b, eb) := ⟨_, _, rfl⟩
        rw [hpb] at HP
        have HPB := Lib.hid hpb
        clear hpb HSP
        refine HP.out.mono ?_
        rintro e w6 ⟨rfl, hb6⟩
        have HA6 := Lib.hid (HW1.out.below hb6)
        clear hb6 HP HW1
        unfold V2
        by_cases he2 : eb = 0
        · subst he2
          have HV2 := Lib.hid (show Inv x y (k + 1) (k + 1) k ((zs ++ [a]) ++ [b]) by
            obtain ⟨_, h1, h4, _, e⟩ := part_form HPB.out
            rw [e]
            exact HV1.out.part hlt (by omega) (by omega))
          go_wp2_with (at_builtin; refine wpList_append_own _ rfl _ _ 26 rfl wb.heap.size 9 i0 _ 1 16 Tryd.underlying26 hi0 hz0 hz1 hz2 rfl (by decide) _ _ _ rfl (HA6.out.own.alloc _) ⟨w6.heap.size, 0, none⟩ 1 1 [.string b] rfl rfl (cell_one_new _ _ _) (by simp [Value.oneCell']) (by have := HI.out.len; have := HV1.out.len; unfold maxLen; omega) (by have := HI.out.len; have := HV1.out.len; omega) (by have := HA6.out.size; simp; omega) ?_; intro v2 HW2w hown' hgrow _)
          have HW2 := Lib.hid (HA6.out.grow hown' hgrow)
          clear hown' hgrow HA6
          have HSO := Lib.hid (HSB.out.only HW2.out.onl (fun h => h))
          have HO := Lib.hid (leg_any y k HW2w (by have := HY.out; omega) HSO.out)
          obtain ⟨d, ed, hld⟩ : ∃ d ed, legR y k = (d, ed) := ⟨_, _, rfl⟩
          rw [hld] at HO
          have HLD := Lib.hid hld
          clear hld HSO
          refine HO.out.mono ?_
          rintro e w7 ⟨rfl, hb7⟩
          have HA7 := Lib.hid (HW2.out.below hb7)
          clear hb7 HO HW2
          unfold V2
          by_cases he3 : ed = 0
          · subst he3
            cases hxy : (x.toList == y.toList) with
            | false =>
              have HV3 := Lib.hid (show Inv x y (k + 1) (k + 1) (k + 1) ((zs ++ [a]) ++ [b] ++ [d]) by
                obtain ⟨_, _, _, _, e⟩ := leg_form HLD.out
                rw [e]
                exact HV2.out.other hlt (beq_ne hxy))
              go_wp2_with (at_builtin; refine wpList_append_own _ rfl _ _ 26 rfl wb.heap.size 9 i0 _ 1 16 Tryd.underlying26 hi0 hz0 hz1 hz2 rfl (by decide) _ _ _ rfl (HA7.out.own.alloc _) ⟨w7.heap.size, 0, none⟩ 1 1 [.string d] rfl rfl (cell_one_new _ _ _) (by simp [Value.oneCell']) (by have := HI.out.len; have := HV2.out.len; unfold maxLen; omega) (by have := HI.out.len; have := HV2.out.len; omega) (by have := HA7.out.size; simp; omega) ?_; intro v3 HW3w hown' hgrow _)
              have HW3 := Lib.hid (HA7.out.grow hown' hgrow)
              clear hown' hgrow HA7
              go_roundw
              case rel => exact ⟨k + 1, _, by omega, by go_num, HV3.out, HW3.out⟩
              case measure => simp [intOf]; omega
            | true =>
              have HV3 := Lib.hid (HV2.out.mono (Nat.le_refl (k + 1)) (Nat.le_refl (k + 1)) (Nat.le_succ k))
              go_wp2_with fail
              go_roundw
              case rel => exact ⟨k + 1, _, by omega, by go_num, HV3.out, HA7.out⟩
              case measure => simp [intOf]; omega
          · have q3 : (ed == 0) = false := beq_eq_false_iff_ne.2 he3
            have HV3 := Lib.hid (HV2.out.mono (Nat.le_refl (k + 1)) (Nat.le_refl (k + 1)) (Nat.le_succ k))
            clear he3
            go_wp2_with fail
            go_roundw
            case rel => exact ⟨k + 1, _, by omega, by go_num, HV3.out, HA7.out⟩
            case measure => simp [intOf]; omega
        · have q2 : (eb == 0) = false := beq_eq_false_iff_ne.2 he2
          have HV2 := Lib.hid (HV1.out.mono (Nat.le_refl (k + 1)) (Nat.le_succ k) (Nat.le_refl k))
          have HW2 := Lib.hid HA6.out
          clear HA6 he2
          have HSO := Lib.hid (HSB.out.only HW2.out.onl (fun h => h))
          have HO := Lib.hid (leg_any y k w6 (by have := HY.out; omega) HSO.out)
          obtain ⟨d, ed, hld⟩ : ∃ d ed, legR y k = (d, ed) := ⟨_, _, rfl⟩
          rw [hld] at HO
          have HLD := Lib.hid hld
          clear hld HSO
          go_wp2_with fail
          refine HO.out.mono ?_
          rintro e w7 ⟨rfl, hb7⟩
          have HA7 := Lib.hid (HW2.out.below hb7)
          clear hb7 HO HW2
          unfold V2
          by_cases he3 : ed = 0
          · subst he3
            cases hxy : (x.toList == y.toList) with
            | false =>
              have HV3 := Lib.hid (show Inv x y (k + 1) (k + 1) (k + 1) ((zs ++ [a]) ++ [d]) by
                obtain ⟨_, _, _, _, e⟩ := leg_form HLD.out
                rw [e]
                exact HV2.out.other hlt (beq_ne hxy))
              go_wp2_with (at_builtin; refine wpList_append_own _ rfl _ _ 26 rfl wb.heap.size 9 i0 _ 1 16 Tryd.underlying26 hi0 hz0 hz1 hz2 rfl (by decide) _ _ _ rfl (HA7.out.own.alloc _) ⟨w7.heap.size, 0, none⟩ 1 1 [.string d] rfl rfl (cell_one_new _ _ _) (by simp [Value.oneCell']) (by have := HI.out.len; have := HV2.out.len; unfold maxLen; omega) (by have := HI.out.len; have := HV2.out.len; omega) (by have := HA7.out.size; simp; omega) ?_; intro v3 HW3w hown' hgrow _)
              have HW3 := Lib.hid (HA7.out.grow hown' hgrow)
              clear hown' hgrow HA7
              go_roundw
              case rel => exact ⟨k + 1, _, by omega, by go_num, HV3.out, HW3.out⟩
              case measure => simp [intOf]; omega
            | true =>
              have HV3 := Lib.hid (HV2.out.mono (Nat.le_refl (k + 1)) (Nat.le_refl (k + 1)) (Nat.le_succ k))
              go_wp2_with fail
              go_roundw
              case rel => exact ⟨k + 1, _, by omega, by go_num, HV3.out, HA7.out⟩
              case measure => simp [intOf]; omega
          · have q3 : (ed == 0) = false := beq_eq_false_iff_ne.2 he3
            have HV3 := Lib.hid (HV2.out.mono (Nat.le_refl (k + 1)) (Nat.le_refl (k + 1)) (Nat.le_succ k))
            clear he3
            go_wp2_with fail
            go_roundw
            case rel => exact ⟨k + 1, _, by omega, by go_num, HV3.out, HA7.out⟩
            case measure => simp [intOf]; omega
      · have q1 : (ea == 0) = false := beq_eq_false_iff_ne.2 he1
        have HV1 := Lib.hid (HI.out.mono (Nat.le_succ k) (Nat.le_refl k) (Nat.le_refl k))
        have HW1 := Lib.hid HA5.out
        clear HA5 he1
        have HSP := Lib.hid (HSB.out.only HW1.out.onl (fun h => h))
        have HP := Lib.hid (part_any x k w5 (by have := HX.out; omega) HSP.out)
        obtain ⟨b, eb, hpb⟩ : ∃ b eb, partR x k = (b, eb) := ⟨_, _, rfl⟩
        rw [hpb] at HP
        have HPB := Lib.hid hpb
        clear hpb HSP
        go_wp2_with fail
        refine HP.out.mono ?_
        rintro e w6 ⟨rfl, hb6⟩
        have HA6 := Lib.hid (HW1.out.below hb6)
        clear hb6 HP HW1
        unfold V2
        by_cases he2 : eb = 0
        · subst he2
          have HV2 := Lib.hid (show Inv x y (k + 1) (k + 1) k (zs ++ [b]) by
            obtain ⟨_, h1, h4, _, e⟩ := part_form HPB.out
            rw [e]
            exact HV1.out.part hlt (by omega) (by omega))
          go_wp2_with (at_builtin; refine wpList_append_own _ rfl _ _ 26 rfl wb.heap.size 9 i0 _ 1 16 Tryd.underlying26 hi0 hz0 hz1 hz2 rfl (by decide) _ _ _ rfl (HA6.out.own.alloc _) ⟨w6.heap.size, 0, none⟩ 1 1 [.string b] rfl rfl (cell_one_new _ _ _) (by simp [Value.oneCell']) (by have := HI.out.len; have := HV1.out.len; unfold maxLen; omega) (by have := HI.out.len; have := HV1.out.len; omega) (by have := HA6.out.size; simp; omega) ?_; intro v2 HW2w hown' hgrow _)
          have HW2 := Lib.hid (HA6.out.grow hown' hgrow)
          clear hown' hgrow HA6
          have HSO := Lib.hid (HSB.out.only HW2.out.onl (fun h => h))
          have HO := Lib.hid (leg_any y k HW2w (by have := HY.out; omega) HSO.out)
          obtain ⟨d, ed, hld⟩ : ∃ d ed, legR y k = (d, ed) := ⟨_, _, rfl⟩
          rw [hld] at HO
          have HLD := Lib.hid hld
          clear hld HSO
          refine HO.out.mono ?_
          rintro e w7 ⟨rfl, hb7⟩
          have HA7 := Lib.hid (HW2.out.below hb7)
          clear hb7 HO HW2
          unfold V2
          by_cases he3 : ed = 0
          · subst he3
            cases hxy : (x.toList == y.toList) with
            | false =>
              have HV3 := Lib.hid (show Inv x y (k + 1) (k + 1) (k + 1) (zs ++ [b] ++ [d]) by
                obtain ⟨_, _, _, _, e⟩ := leg_form HLD.out
                rw [e]
                exact HV2.out.other hlt (beq_ne hxy))
              go_wp2_with (at_builtin; refine wpList_append_own _ rfl _ _ 26 rfl wb.heap.size 9 i0 _ 1 16 Tryd.underlying26 hi0 hz0 hz1 hz2 rfl (by decide) _ _ _ rfl (HA7.out.own.alloc _) ⟨w7.heap.size, 0, none⟩ 1 1 [.string d] rfl rfl (cell_one_new _ _ _) (by simp [Value.oneCell']) (by have := HI.out.len; have := HV2.out.len; unfold maxLen; omega) (by have := HI.out.len; have := HV2.out.len; omega) (by have := HA7.out.size; simp; omega) ?_; intro v3 HW3w hown' hgrow _)
              have HW3 := Lib.hid (HA7.out.grow hown' hgrow)
              clear hown' hgrow HA7
              go_roundw
              case rel => exact ⟨k + 1, _, by omega, by go_num, HV3.out, HW3.out⟩
              case measure => simp [intOf]; omega
            | true =>
              have HV3 := Lib.hid (HV2.out.mono (Nat.le_refl (k + 1)) (Nat.le_refl (k + 1)) (Nat.le_succ k))
              go_wp2_with fail
              go_roundw
              case rel => exact ⟨k + 1, _, by omega, by go_num, HV3.out, HA7.out⟩
              case measure => simp [intOf]; omega
          · have q3 : (ed == 0) = false := beq_eq_false_iff_ne.2 he3
            have HV3 := Lib.hid (HV2.out.mono (Nat.le_refl (k + 1)) (Nat.le_refl (k + 1)) (Nat.le_succ k))
            clear he3
            go_wp2_with fail
            go_roundw
            case rel => exact ⟨k + 1, _, by omega, by go_num, HV3.out, HA7.out⟩
            case measure => simp [intOf]; omega
        · have q2 : (eb == 0) = false := beq_eq_false_iff_ne.2 he2
          have HV2 := Lib.hid (HV1.out.mono (Nat.le_refl (k + 1)) (Nat.le_succ k) (Nat.le_refl k))
          have HW2 := Lib.hid HA6.out
          clear HA6 he2
          have HSO := Lib.hid (HSB.out.only HW2.out.onl (fun h => h))
          have HO := Lib.hid (leg_any y k w6 (by have := HY.out; omega) HSO.out)
          obtain ⟨d, ed, hld⟩ : ∃ d ed, legR y k = (d, ed) := ⟨_, _, rfl⟩
          rw [hld] at HO
          have HLD := Lib.hid hld
          clear hld HSO
          go_wp2_with fail
          refine HO.out.mono ?_
          rintro e w7 ⟨rfl, hb7⟩
          have HA7 := Lib.hid (HW2.out.below hb7)
          clear hb7 HO HW2
          unfold V2
          by_cases he3 : ed = 0
          · subst he3
            cases hxy : (x.toList == y.toList) with
            | false =>
              have HV3 := Lib.hid (show Inv x y (k + 1) (k + 1) (k + 1) (zs ++ [d]) by
                obtain ⟨_, _, _, _, e⟩ := leg_form HLD.out
                rw [e]
                exact HV2.out.other hlt (beq_ne hxy))
              go_wp2_with (at_builtin; refine wpList_append_own _ rfl _ _ 26 rfl wb.heap.size 9 i0 _ 1 16 Tryd.underlying26 hi0 hz0 hz1 hz2 rfl (by decide) _ _ _ rfl (HA7.out.own.alloc _) ⟨w7.heap.size, 0, none⟩ 1 1 [.string d] rfl rfl (cell_one_new _ _ _) (by simp [Value.oneCell']) (by have := HI.out.len; have := HV2.out.len; unfold maxLen; omega) (by have := HI.out.len; have := HV2.out.len; omega) (by have := HA7.out.size; simp; omega) ?_; intro v3 HW3w hown' hgrow _)
              have HW3 := Lib.hid (HA7.out.grow hown' hgrow)
              clear hown' hgrow HA7
              go_roundw
              case rel => exact ⟨k + 1, _, by omega, by go_num, HV3.out, HW3.out⟩
              case measure => simp [intOf]; omega
            | true =>
              have HV3 := Lib.hid (HV2.out.mono (Nat.le_refl (k + 1)) (Nat.le_refl (k + 1)) (Nat.le_succ k))
              go_wp2_with fail
              go_roundw
              case rel => exact ⟨k + 1, _, by omega, by go_num, HV3.out, HA7.out⟩
              case measure => simp [intOf]; omega
          · have q3 : (ed == 0) = false := beq_eq_false_iff_ne.2 he3
            have HV3 := Lib.hid (HV2.out.mono (Nat.le_refl (k + 1)) (Nat.le_refl (k + 1)) (Nat.le_succ k))
            clear he3
            go_wp2_with fail
            go_roundw
            case rel => exact ⟨k + 1, _, by omega, by go_num, HV3.out, HA7.out⟩
            case measure => simp [intOf]; omega
    · obtain rfl : k = 8 := by omega
      obtain ⟨AA, cc, rfl, hrd⟩ := own_reads HA.out.own
      have HRD := Lib.hid hrd
      have HBR := Lib.hid (HB3.out.trans (HA.out.onl.below HB3.out.size (fun k h => h.elim)))
      have HSR := Lib.hid (HSB.out.only HA.out.onl (fun h => h))
      have hzl := HI.out.len
      clear hrd HA HSB HB3
      go_wp2_with fail
      go_loopw [14] (fun i wx => ∃ (j : Nat), j ≤ zs.length ∧ i = .int .i64 (j : Int) ∧ Reads wx wx.heap.size 1 AA zs.length (T zs) ∧ Suf wx ∧ Below W.heap.size W wx) (fun i _ => zs.length - (intOf i).toNat)
      case atStart => exact ⟨0, by omega, rfl, HRD.out, HSR.out, HBR.out⟩
      case round =>
        clear HRD HSR HBR
        obtain ⟨j, hj, rfl, hrd, hsx, hbx⟩ := hrel
        have HRD := Lib.hid hrd
        have HSX := Lib.hid hsx
        have HBX := Lib.hid hbx
        clear hrd hsx hbx
        by_cases hjl : j < zs.length
        · have j1 : (j : Int) < (zs.length : Int) := by omega
          go_wp2_with fail
          go_loopw [15] (fun i wy => ∃ (q : Nat), q ≤ j ∧ i = .int .i64 (q : Int) ∧ Reads wy wy.heap.size 1 AA zs.length (T zs) ∧ Suf wy ∧ Below W.heap.size W wy) (fun i _ => j - (intOf i).toNat)
          case atStart => exact ⟨0, by omega, rfl, HRD.out, HSX.out, HBX.out⟩
          case round =>
            clear HRD HSX HBX
            obtain ⟨q, hq, rfl, hrd, hsx, hbx⟩ := hrel
            have HRD := Lib.hid hrd
            have HSX := Lib.hid hsx
            have HBX := Lib.hid hbx
            clear hrd hsx hbx
            by_cases hql : q < j
            · have j2 : (q : Int) < (j : Int) := by omega
              obtain ⟨ad, u1, rfl, _, hx1, hc1⟩ := HRD.out.at_ hjl
              obtain ⟨ad2, u2, had, _, hx2, hc2⟩ := HRD.out.at_ (show q < zs.length by omega)
              injection had with had
              subst had
              obtain ⟨t1, ht1, rfl⟩ := T_at hx1
              obtain ⟨t2, ht2, rfl⟩ := T_at hx2
              have hne := ne_beq (nodup_at HI.out.nodup ht1 ht2 hql)
              clear hx1 hx2 ht1 ht2
              go_wp2_with fail
              go_quiet (fail)
              have HRQ := Lib.hid (HRD.out.drewN nq)
              have HBQ := Lib.hid (below_drewN HBX.out nq)
              have HSQ := Lib.hid (HSX.out.below (below_drewN (Below.refl wr.heap.size wr) nq) HSX.out.pos)
              go_wp2_with fail
              first
                | exact ⟨⟨q + 1, by omega, by go_num, HRQ.out, HSQ.out, HBQ.out⟩, by simp [intOf]; omega⟩
                | (go_roundw
                   case rel => exact ⟨q + 1, by omega, by go_num, HRQ.out, HSQ.out, HBQ.out⟩
                   case measure => simp [intOf]; omega)
            · obtain rfl : q = j := by omega
              go_wp2_with fail
              go_roundw
              case rel => exact ⟨q + 1, by omega, by go_num, HRD.out, HSX.out, HBX.out⟩
              case measure => simp [intOf]; omega
        · obtain rfl : j = zs.length := by omega
          go_wp2_with fail
          refine (awake_any wr HSX.out).mono ?_
          rintro e w7 ⟨rfl, hb7⟩
          have HB7 := Lib.hid (HBX.out.trans (hb7.mono HBX.out.size))
          clear hb7
          go_wp2_with fail
          go_ret
          exact ⟨rfl, HB7.out⟩
end Go.Proofs.YtnodlkjajgeepaaDoor
