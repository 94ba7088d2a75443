/- What Free, Changed, Commit, Rollback and Counts of a space map return. -/
import Derived.Test.YtieegbejpabpiaaMeth2
import Derived.Laws.CopyOwn
namespace Go.Proofs.Ytieegbejpabpiaa
open Go.RowKit

def nfree (N O : List Int) (k : Nat) : Int := ((List.range k).countP (freeB N O) : Nat)
theorem nfree_succ (N O : List Int) (k : Nat) : nfree N O (k + 1) = nfree N O k + if freeB N O k then 1 else 0 := by
  unfold nfree
  rw [List.range_succ, List.countP_append]
  simp [List.countP_cons]
  split <;> simp
theorem nfree_le (N O : List Int) (k : Nat) : 0 ≤ nfree N O k ∧ nfree N O k ≤ k := by
  unfold nfree
  have := List.countP_le_length (p := freeB N O) (l := List.range k)
  simp at this
  omega

set_option maxHeartbeats 1000000 in
theorem freeN_any {base : Nat} {w : World} {bm gn cn gw cw lo : Nat} {N O : List Int} (h : MS base w bm gn cn gw cw N O lo) :
    Calls Try.prog 17 #[.pointer (some ⟨bm, 0, none⟩)] w fun e w' => e = .returned (.int .i64 (nfree N O N.length)) ∧ w = w' := by
  have c0 := h.c0
  have hs := h.small
  have H := Lib.hid h
  clear h
  go_enter Try.func17, Try.ntmps17
  go_wp2_with fail
  go_loop [3, 11] (fun x i => ∃ k : Nat, k ≤ N.length ∧ i = .int .i64 k ∧ x = .int .i64 (nfree N O k)) (fun _ i => N.length - (intOf i).toNat)
  case atStart => exact ⟨0, Nat.zero_le _, rfl, rfl⟩
  case round =>
    obtain ⟨k, hk, rfl, rfl⟩ := hrel
    have hle := nfree_le N O k
    have HS := Lib.hid (nfree_succ N O k)
    by_cases hlt : k < N.length
    · have HF := Lib.hid (free1_any H.out k hlt)
      by_cases hf : freeB N O k = true
      · go_wp2_with fail
        refine HF.out.mono ?_
        rw [hf]
        rintro e w1 ⟨rfl, rfl⟩
        go_wp2_with fail
        go_round
        case rel => exact ⟨k + 1, by omega, by go_num, by rw [HS.out, hf]; simp⟩
        case measure => simp [intOf]; omega
      · have hf' : freeB N O k = false := by simpa using hf
        clear hf
        go_wp2_with fail
        refine HF.out.mono ?_
        rw [hf']
        rintro e w1 ⟨rfl, rfl⟩
        go_wp2_with fail
        go_round
        case rel => exact ⟨k + 1, by omega, by go_num, by rw [HS.out, hf']; simp⟩
        case measure => simp [intOf]; omega
    · obtain rfl : k = N.length := by omega
      go_wp2_with fail
      go_ret
      exact ⟨rfl, rfl⟩

/-- the blocks whose counts differ, below k -/
def chg (N O : List Int) (k : Nat) : List Int := ((List.range k).filter fun j => N.getD j 0 != O.getD j 0).map fun (j : Nat) => (j : Int)
theorem chg_succ (N O : List Int) (k : Nat) : chg N O (k + 1) = if N.getD k 0 != O.getD k 0 then chg N O k ++ [(k : Int)] else chg N O k := by
  unfold chg
  rw [List.range_succ, List.filter_append, List.map_append]
  by_cases h : (N.getD k 0 != O.getD k 0) = true
  · rw [if_pos h, List.filter_cons, if_pos h]
    rfl
  · rw [if_neg h, List.filter_cons, if_neg h]
    simp
theorem chg_le (N O : List Int) (k : Nat) : (chg N O k).length ≤ k := by
  unfold chg
  rw [List.length_map]
  have := List.length_filter_le (fun j => N.getD j 0 != O.getD j 0) (List.range k)
  simpa using this

/-- a call hands back a new list -/
def LRet (l : List Int) (w : World) (e : Ending) (w' : World) : Prop := ∃ v, e = .returned v ∧ w'.ownsRow w.heap.size 3 1 v l.length (I l) ∧ Below w.heap.size w w'

set_option maxHeartbeats 1000000 in
theorem changed_any {base : Nat} {w : World} {bm gn cn gw cw lo : Nat} {N O : List Int} (h : MS base w bm gn cn gw cw N O lo) :
    Calls Try.prog 24 #[.pointer (some ⟨bm, 0, none⟩)] w (LRet (chg N O N.length) w) := by
  have c0 := h.c0
  have hs := h.small
  have hlen := h.len
  have H := Lib.hid h
  clear h
  obtain ⟨i0, hi0, hz0, hz1, hz2⟩ := info_parts int_info
  go_enter Try.func24, Try.ntmps24
  go_wp2_with fail
  go_loopw [3, 11] (fun x i wr => ∃ k : Nat, k ≤ N.length ∧ i = .int .i64 k ∧ wr.ownsRow w.heap.size 3 1 x (chg N O k).length (I (chg N O k)) ∧ Below w.heap.size w wr) (fun _ i _ => N.length - (intOf i).toNat)
  case atStart => exact ⟨0, Nat.zero_le _, rfl, World.ownsRow_nil _ _ _ _, Below.refl _ _⟩
  case round =>
    obtain ⟨k, hk, rfl, hown, hb⟩ := hrel
    have hle := chg_le N O k
    have HS := Lib.hid (chg_succ N O k)
    have HO := Lib.hid hown
    clear hown
    by_cases hlt : k < N.length
    · have hm := H.out.below hb
      have e0 := hm.c0
      have e1 := hm.c1
      have d0 := hm.now.cell hlt
      have d1 := hm.was.cell (j := k) (by rw [hlen]; exact hlt)
      have i1 : (k : Int) < (N.length : Int) := by omega
      generalize N.getD k 0 = x at d0 HS
      generalize O.getD k 0 = y at d1 HS
      clear hm c0 hlen
      by_cases hxy : (x != y) = true
      · go_wp2_with fail
        go_quiet (fail)
        obtain ⟨wq, hwq⟩ : ∃ wq, wr.drewN nq = wq := ⟨_, rfl⟩
        have HOQ := Lib.hid (show wq.ownsRow w.heap.size 3 1 u3 (chg N O k).length (I (chg N O k)) by rw [← hwq]; exact HO.out)
        have hbq : Below w.heap.size w wq := by rw [← hwq]; exact below_drewN hb _
        rw [hwq]
        clear hwq e0 e1 d0 d1
        go_wp2_with (at_builtin; refine wpList_append_own _ rfl _ _ 22 rfl w.heap.size 3 i0 _ 1 8 Try.underlying22 hi0 hz0 hz1 hz2 rfl (by decide) _ _ _ rfl (HOQ.out.alloc _) ⟨wq.heap.size, 0, none⟩ 1 1 [.int .i64 (k : Int)] rfl rfl (cell_one_new _ _ _) (by simp [Value.oneCell']) (by unfold maxLen; omega) (by omega) (by have := hbq.size; simp; omega) ?_; intro v' w1 hown' hgrow _)
        go_roundw
        case rel =>
          refine ⟨k + 1, by omega, by go_num, ?_, (hbq.al _).grown hgrow (hbq.al _).size (fun k hk => (HOQ.out.lt k hk).1)⟩
          rw [HS.out, if_pos hxy, List.length_append, ← I_append]
          exact hown'
        case measure => simp [intOf]; omega
      · have hxy' : (x != y) = false := by simpa using hxy
        clear hxy
        go_wp2_with fail
        go_quiet (fail)
        go_wp2_with fail
        go_roundw
        case rel => exact ⟨k + 1, by omega, by go_num, by rw [HS.out, hxy']; exact HO.out, below_drewN hb _⟩
        case measure => simp [intOf]; omega
    · obtain rfl : k = N.length := by omega
      go_wp2_with fail
      go_ret
      exact ⟨_, rfl, HO.out, hb⟩
/-- a row behind a copy of another row of its length -/
theorem Row.copied {base : Nat} {w : World} {g c : Nat} {l m : List Int} {cur : Array Value} (h : Row base w g c l) (hg : w.heap[g]? = some (.cells cur 3 (0, 0))) (hl : m.length = l.length) :
    Row base (w.setRow g (cur.toList.take 0 ++ (I m ++ cur.toList.drop (0 + (I m).length))).toArray) g c m ∧ Only (· = g) w (w.setRow g (cur.toList.take 0 ++ (I m ++ cur.toList.drop (0 + (I m).length))).toArray) := by
  obtain ⟨h1, h2⟩ := h
  rcases h2 with ⟨h2, _⟩ | ⟨g', cap, cur', hv, hb, hh, hn, hm, hsz, ht⟩
  · simp at h2
  · simp only [Value.slice.injEq, Option.some.injEq, Addr.mk.injEq, and_true, true_and] at hv
    obtain ⟨rfl, rfl⟩ := hv
    have e : cur' = cur := by rw [hg] at hh; injection hh with hh; injection hh with hh; exact hh.symm
    subst e
    refine ⟨⟨by simp [I], .inr ⟨g, c, _, rfl, hb, setRow_heap w g _ _ _ _ hg, by rw [hl]; exact hn, hm, ?_, ?_⟩⟩, ⟨rfl, rfl, rfl, by simp, fun k hk hne => ?_⟩⟩
    · simp [I]
      omega
    · simp [I]
    · simp only [World.setRow, Array.getElem?_modify]
      rw [if_neg (fun e => hne e.symm)]

theorem int_size : (Try.prog.info? 3).map (·.size) = some 1 := by kernel_rfl
theorem row_block {base : Nat} {w : World} {g c : Nat} {l : List Int} (h : Row base w g c l) : ∃ cur : Array Value, w.heap[g]? = some (.cells cur 3 (0, 0)) ∧ l.length ≤ cur.size := by
  obtain ⟨h1, h2⟩ := h
  rcases h2 with ⟨h2, _⟩ | ⟨g', cap, cur', hv, hb, hh, hn, hm, hsz, ht⟩
  · simp at h2
  · simp only [Value.slice.injEq, Option.some.injEq, Addr.mk.injEq, and_true, true_and] at hv
    obtain ⟨rfl, rfl⟩ := hv
    exact ⟨cur', hh, by omega⟩

/-- a call of a method without results -/
def MEnd (base bm gn cn gw cw : Nat) (N O : List Int) (w : World) (e : Ending) (w' : World) : Prop :=
  e = .returned (.tuple #[]) ∧ (∃ lo, MS base w' bm gn cn gw cw N O lo ∧ LowOk N O lo) ∧ Only (FM bm gn gw) w w'
theorem low_zero (N O : List Int) : LowOk N O 0 := fun b hb => absurd hb (by omega)

set_option maxHeartbeats 1000000 in
theorem commit_any {base : Nat} {w : World} {bm gn cn gw cw lo : Nat} {N O : List Int} (h : MS base w bm gn cn gw cw N O lo) :
    Calls Try.prog 25 #[.pointer (some ⟨bm, 0, none⟩)] w (MEnd base bm gn cn gw cw N N w) := by
  have c0 := h.c0
  have c1 := h.c1
  have hs := h.small
  have hd : MS base w.drew bm gn cn gw cw N O lo := h.below (Below.refl _ _).drew
  obtain ⟨cur, hcur, hsz⟩ := row_block hd.was
  have hlen := h.len
  obtain ⟨hcp, hcpo⟩ := hd.was.copied (m := N) hcur hlen.symm
  have hb := hd.bn
  have hms : MS base (w.drew.setRow gw (cur.toList.take 0 ++ (I N ++ cur.toList.drop (0 + (I N).length))).toArray) bm gn cn gw cw N N lo :=
    ⟨hd.blk.only hcpo hb.2, rfl, hd.pos, hd.small, hd.now.only hcpo hd.ne, hcp, hd.ne, hd.bb, hd.lon, hd.rng, hd.rng⟩
  have hmo : Only (FM bm gn gw) w (w.drew.setRow gw (cur.toList.take 0 ++ (I N ++ cur.toList.drop (0 + (I N).length))).toArray) := ((Only.refl _ _).drew).trans (hcpo.mono (fun j _ e => .inr (.inr e)))
  have hrd := hd.now.reads
  obtain ⟨ad, had, _, hrc⟩ := hrd.2 (by have := hd.pos; omega)
  injection had with had
  subst had
  have HRC := Lib.hid hrc
  have HCUR := Lib.hid hcur
  have HSZ := Lib.hid hsz
  have hln := I_len N
  have HLN := Lib.hid hln
  have HLEN := Lib.hid hlen
  generalize hw1 : w.drew.setRow gw (cur.toList.take 0 ++ (I N ++ cur.toList.drop (0 + (I N).length))).toArray = w1 at hms hmo
  have HW1 := Lib.hid hw1
  obtain ⟨hp, hpo⟩ := hms.putLow 0 (by omega)
  have e2 := hms.c2
  have f2 := hms.blk.frozen 2
  have HRES := Lib.hid (show MEnd base bm gn cn gw cw N N w (.returned (.tuple #[])) (w1.setCell ⟨bm, 2, none⟩ (.int .i64 ((0 : Nat) : Int))) from ⟨rfl, ⟨0, hp, low_zero N N⟩, hmo.trans hpo⟩)
  clear h hd hcp hcpo hms hmo hrd hrc hcur hsz hln hlen hw1 hp hpo hb
  go_enter Try.func25, Try.ntmps25
  go_wp2_with fail
  refine region_tail 10 (by kernel_rfl) (by kernel_rfl) ?_
  simp only [List.take_succ_cons, List.take_zero, List.drop_succ_cons, List.drop_zero]
  repeat still_step
  refine wpStill_nil ?_
  refine wpList_copy_own rfl (.tmp 6) (.tmp 11) 22 22 rfl 3 Try.underlying22 int_size gw 0 N.length cw ⟨gn, 0, none⟩ N.length cn rfl rfl cur 3 HCUR.out (I N) (by rw [HLN.out]; exact (Nat.min_self _).symm) HRC.out (by rw [HLN.out, ← HLEN.out]; have := HSZ.out; omega) (I_one N) ?_
  rw [HW1.out]
  go_wp2_with fail
  go_end0
  exact HRES.out
end Go.Proofs.Ytieegbejpabpiaa
