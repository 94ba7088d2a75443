/- slices.DeleteFunc over a row of one's own with Place's closure; the reference's without. -/
import Derived.Test.YtmmdckijokiomaaDelete
namespace Go.Proofs.Ytmmdckijokiomaa
open Go.RowKit

def withoutL (l : List Int) (b : Int) : List Int := l.filter (fun x => x != b)
theorem without_next {l : List Int} {k : Nat} {x b : Int} (h : l[k]? = some x) : withoutL (l.take (k + 1)) b = withoutL (l.take k) b ++ (if x = b then [] else [x]) := by
  obtain ⟨hk, e⟩ := List.getElem?_eq_some_iff.1 h
  unfold withoutL
  rw [List.take_succ_eq_append_getElem hk, e, List.filter_append]
  congr 1
  by_cases hx : x = b
  · rw [if_pos hx]; simp [hx]
  · rw [if_neg hx]; simp [hx]
theorem without_len (l : List Int) (b : Int) : (withoutL l b).length ≤ l.length := List.length_filter_le _ _

set_option maxRecDepth 100000 in
set_option maxHeartbeats 4000000 in
theorem without_any {A : Option Addr} {c : Nat} {l : List Int} {b : Int} {w : World} (hr : Reads w w.heap.size 1 A l.length (I l)) (hl : l.length ≤ 1000) :
    Calls Try.prog 52 #[.slice A l.length c, .int .i64 b] w (fun e w' => ∃ v, e = .returned v ∧ w'.ownsRow w.heap.size 3 1 v (withoutL l b).length (I (withoutL l b)) ∧ Below w.heap.size w w') := by
  obtain ⟨i0, hi0, hz0, hz1, hz2⟩ := info_parts int_info
  have HR := Lib.hid hr
  clear hr
  go_enter Try.func52, Try.ntmps52
  go_wp2_with fail
  go_loopw [5, 6] (fun v x wr => ∃ k : Nat, k ≤ l.length ∧ x = .int .i64 (k : Int) ∧ wr.ownsRow w.heap.size 3 1 v (withoutL (l.take k) b).length (I (withoutL (l.take k) b)) ∧ Below w.heap.size w wr) (fun _ x _ => l.length - (intOf x).toNat)
  case atStart => exact ⟨0, by omega, rfl, World.ownsRow_nil _ _ _ _, Below.refl _ _⟩
  case round =>
    obtain ⟨k, hk, rfl, ho, hb⟩ := hrel
    have HO := Lib.hid ho
    have HB := Lib.hid hb
    obtain ⟨A2, c2, e2, _⟩ := own_cap ho
    subst e2
    have hwl := without_len (l.take k) b
    rw [List.length_take] at hwl
    have hzc := hb.size
    clear ho hb
    by_cases hlt : k < l.length
    · have j0 : (k : Int) < (l.length : Int) := by omega
      obtain ⟨ad, u, rfl, _, hu, hc⟩ := (HR.out.below HB.out).at_ hlt
      rw [I_one_at hlt] at hu
      injection hu with hu
      subst hu
      have HG := Lib.hid (show l[k]? = some l[k] from List.getElem?_eq_getElem hlt)
      generalize l[k] = x at hc HG
      have HW := Lib.hid (without_next (b := b) HG.out)
      by_cases hx : x = b
      · subst hx
        have HW2 := Lib.hid (show withoutL (l.take (k + 1)) x = withoutL (l.take k) x by rw [HW.out, if_pos rfl, List.append_nil])
        go_wp2_with fail
        go_roundw
        case rel => exact ⟨k + 1, by omega, by go_num, by rw [HW2.out]; exact HO.out, HB.out⟩
        case measure => simp [intOf]; omega
      · have HW2 := Lib.hid (show withoutL (l.take (k + 1)) b = withoutL (l.take k) b ++ [x] by rw [HW.out, if_neg hx])
        have q : (x != b) = true := bne_iff_ne.2 hx
        clear hx
        go_wp2_with (at_builtin; refine wpList_append_own _ rfl _ _ 22 rfl w.heap.size 3 i0 _ 1 8 Try.underlying22 hi0 hz0 hz1 hz2 rfl (by decide) _ _ _ rfl (HO.out.alloc _) ⟨wr.heap.size, 0, none⟩ 1 1 [.int .i64 x] rfl rfl (World.news_of_block (heap_alloc_new wr _)) (by simp [Value.oneCell']) (by unfold maxLen; omega) (by omega) (by simp; omega) ?_; intro v' w8 hown' hgrow _)
        have HO8 := Lib.hid (show w8.ownsRow w.heap.size 3 1 v' (withoutL (l.take (k + 1)) b).length (I (withoutL (l.take (k + 1)) b)) by rw [HW2.out, List.length_append, ← I_append]; exact hown')
        have HB8 := Lib.hid ((HB.out.al _).grown hgrow (HB.out.al _).size (fun g hg => (HO.out.lt g hg).1))
        clear hown' hgrow
        go_wp2_with fail
        go_roundw
        case rel => exact ⟨k + 1, by omega, by go_num, HO8.out, HB8.out⟩
        case measure => simp [intOf]; omega
    · obtain rfl : k = l.length := by omega
      rw [List.take_length] at HO
      go_wp2_with fail
      go_ret
      exact ⟨_, by rw [List.take_length]; rfl, HO.out, HB.out⟩

set_option maxRecDepth 100000 in
theorem place1_any {x b : Int} {gb : Nat} {w : World} (hb : w.cell? ⟨gb, 0, none⟩ = some (.int .i64 b)) {q : Bool} (hq : (x == b) = q) :
    Calls Try.prog 54 #[.int .i64 x, .pointer (some ⟨gb, 0, none⟩)] w (fun e w' => e = .returned (.bool q) ∧ w = w') := by
  cases q with
  | false =>
    go_enter Try.func54, Try.ntmps54
    go_wp2_with fail
    go_ret
    exact ⟨rfl, rfl⟩
  | true =>
    obtain rfl : x = b := by simpa using hq
    clear hq
    go_enter Try.func54, Try.ntmps54
    go_wp2_with fail
    go_ret
    exact ⟨rfl, rfl⟩
end Go.Proofs.Ytmmdckijokiomaa
