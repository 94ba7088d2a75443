/- What run returns, over any iterator of bytes. -/
import Derived.Test.YtialblddcgdlkaaRound
import Derived.Test.YtialblddcgdlkaaTab
namespace Go.Proofs.Ytialblddcgdlkaa
open Go.RowKit Go.Shelf

attribute [local go_sem] Oper.semAt_some

def V8 (b : BitVec 8) : Value := .int .u8 (b.toNat : Int)

/-- an iterator value hands out xs -/
def Seq8 (gf : Nat) (lb : Array Value) (xs : List (BitVec 8)) (n₀ : Nat) (W : World) : Prop :=
  SeqStopsK Fence.wide 5 Try.prog gf lb (fun x : BitVec 8 => #[V8 x]) (Below n₀) (fun ys => ys = xs) (fun p => p <+: xs) xs.length W

theorem cell2 (w : World) (a b : Value) (s t : TypeId) : ((w.alloc (.cells #[a] s)).alloc (.cells #[b] t)).cell? ⟨w.heap.size, 0, none⟩ = some a ∧ ((w.alloc (.cells #[a] s)).alloc (.cells #[b] t)).cell? ⟨w.heap.size + 1, 0, none⟩ = some b ∧ ((w.alloc (.cells #[a] s)).alloc (.cells #[b] t)).frozen? ⟨w.heap.size + 1, 0, none⟩ = false := by
  have h1 : Blk ((w.alloc (.cells #[a] s)).alloc (.cells #[b] t)) w.heap.size s #[a] := (Blk.new w s #[a]).alloc _
  have h2 : Blk ((w.alloc (.cells #[a] s)).alloc (.cells #[b] t)) (w.heap.size + 1) t #[b] := by have := Blk.new (w.alloc (.cells #[a] s)) t #[b]; simpa using this
  exact ⟨by rw [h1.cell]; rfl, by rw [h2.cell]; rfl, h2.frozen 0⟩

theorem idx_eq (y : W32) (x : BitVec 8) : bits .xor .u8 (IntKind.u8.wrap (y.toNat : Int)) (x.toNat : Int) = (((y.truncate 8 ^^^ x).toNat : Nat) : Int) := by
  rw [IntKind.wrap_u8', show ((y.toNat : Int) % 256) = ((y.toNat % 256 : Nat) : Int) by omega, u8_xor_nat _ _ (Nat.mod_lt _ (by omega)) x.isLt, BitVec.toNat_xor]
  simp
theorem fd_eq (y : W32) (x : BitVec 8) : bits .xor .u32 ((tab ((y.truncate 8 ^^^ x).toNat)).toNat : Int) ((y.toNat : Int) / 256) = ((fd y x).toNat : Int) := by
  have hy := y.isLt
  rw [fd_table]
  generalize (y.truncate 8 ^^^ x).toNat = i
  rw [show ((y.toNat : Int) / 256) = ((y.toNat / 256 : Nat) : Int) by omega, u32_xor_nat _ _ (BitVec.isLt _) (by omega), BitVec.toNat_xor, BitVec.toNat_ushiftRight, Nat.shiftRight_eq_div_pow]

set_option maxRecDepth 100000 in
set_option maxHeartbeats 2000000 in
theorem run_any (g : Nat) (r : W32) (gf : Nat) (lb : Array Value) (xs : List (BitVec 8)) (w : World) (hgl : g < w.heap.size) (ht : ∀ i, i < 256 → w.cell? ⟨g, i, none⟩ = some (V32 (tab i)))
    (eg : ∀ args w, (callFunc gf args).run Try.prog w = .ok (.enter gf args) w) (hseq : ∀ W, Below w.heap.size w W → Seq8 gf lb xs w.heap.size W) :
    Calls Try.prog 22 #[.pointer (some ⟨g, 0, none⟩), V32 r, .func (.func gf) #[] lb] w (Ret (V32 (xs.foldl fd r)) w) := by
  refine (callsIn_wide (n := 6)).1 ?_
  refine callsIn_of_wp_marks Try.func22 rfl trivial ?_ rfl
  simp only [Try.ntmps22, List.size_toArray, List.length_cons, List.length_nil, Nat.reduceAdd, Nat.reduceSub, Array.replicate_succ, Array.replicate_zero, List.push_toArray, List.append_toArray, List.nil_append, List.cons_append]
  unfold V32
  gi_wp2
  have hcs := cell2 w (.pointer (some ⟨g, 0, none⟩)) (.int .u32 (r.toNat : Int)) 57 24
  have hB0 : Below w.heap.size w ((w.alloc (.cells #[.pointer (some ⟨g, 0, none⟩)] 57)).alloc (.cells #[.int .u32 (r.toNat : Int)] 24)) := ((Below.refl _ w).al _).al _
  refine wpIn_rangeFunc_ownF rfl (by omega) (gf := gf) (lb := lb) rfl trivial eg (hseq _ hB0) belowK_t (belowK_b (by simp; omega)) (Below.refl _ _) (fun _ => rfl)
    (fun pre W => (W.cell? ⟨w.heap.size, 0, none⟩ = some (.pointer (some ⟨g, 0, none⟩)) ∧ W.cell? ⟨w.heap.size + 1, 0, none⟩ = some (V32 (pre.foldl fd r)) ∧ W.frozen? ⟨w.heap.size + 1, 0, none⟩ = false) ∧ Below w.heap.size w W)
    (fun _ _ _ => False)
    (OwnFrom.and (Own.from (fun s A B row hs hg hr => ⟨cell_kept hs.1 hg hr, cell_kept hs.2.1 hg hr, (frozen_kept hs.2.1 hg hr).trans hs.2.2⟩) _) (ownFrom_below (Nat.le_refl _) (by simp; omega)))
    (fun _ _ _ _ _ hs _ _ => hs)
    ⟨hcs, hB0⟩
    (fun x => { tmps := #[.pointer (some ⟨g, 0, none⟩), .int .u32 (r.toNat : Int), .func (.func gf) #[] lb, .pointer (some ⟨w.heap.size, 0, none⟩), .pointer (some ⟨w.heap.size + 1, 0, none⟩), undef, .int .u32 0, V8 x, .func (.func gf) #[] lb, V8 x, undef, undef, undef, undef, undef, undef, undef, undef, undef, undef, undef, undef], defers := [] }) ?assign ?body ?done ?stop
  case assign =>
    intro l x W K hK
    gi_wp2
    exact hK
  case body =>
    rintro l pre x W ⟨⟨hc, hr, hf⟩, hB⟩ _
    unfold V32 at hr
    unfold V8
    generalize hy : pre.foldl fd r = y at hr
    have hix := idx_eq y x
    have hlt : (y.truncate 8 ^^^ x).toNat < 256 := BitVec.isLt _
    have hfd := fd_eq y x
    have hct : W.cell? ⟨g, (y.truncate 8 ^^^ x).toNat, none⟩ = some (V32 (tab (y.truncate 8 ^^^ x).toNat)) := (hB.cell (p := ⟨g, _, none⟩) hgl).trans (ht _ hlt)
    unfold V32 at hct
    generalize (y.truncate 8 ^^^ x).toNat = i at hix hlt hfd hct
    generalize (tab i).toNat = q at hfd hct
    have hlt' : (i : Int) < 256 := by omega
    have HFD := Lib.hid hfd
    have HY := Lib.hid hy
    clear hcs hB0 hseq ht eg hfd hy
    gi_wp2
    refine wpIn_region_tail 11 (fun h => by obtain ⟨_, _, h⟩ := h; exact h) (by kernel_rfl) (by kernel_rfl) (by kernel_rfl) ?_
    simp only [List.take_succ_cons, List.take_zero, List.drop_succ_cons, List.drop_zero]
    repeat still_step
    refine wpStill_nil ?_
    rw [HFD.out]
    go_wp2_with fail
    refine ⟨(KeepsOthers.setCell _ _ _).trans (KeepsOthers.drew _), ((Below.refl w.heap.size W).setCell (p := ⟨w.heap.size + 1, 0, none⟩) (by simp) _).drew, ⟨?_, ?_, ?_⟩, (hB.setCell (p := ⟨w.heap.size + 1, 0, none⟩) (by simp) _).drew⟩
    · exact (World.cell?_setCell_other W _ _ _ (fun e => by injection e with e; omega)).trans hc
    · rw [List.foldl_append, HY.out]
      exact World.cell?_setCell_same' _ _ _ (by rw [hr]; rfl)
    · rw [show (World.setCell W ⟨w.heap.size + 1, 0, none⟩ (.int .u32 ((fd y x).toNat : Int))).drew.frozen? ⟨w.heap.size + 1, 0, none⟩ = (World.setCell W ⟨w.heap.size + 1, 0, none⟩ (.int .u32 ((fd y x).toNat : Int))).frozen? ⟨w.heap.size + 1, 0, none⟩ from rfl, World.frozen?_setCell]
      exact hf
  case done =>
    rintro D ys W hD rfl ⟨⟨hc, hr, _⟩, hB⟩ hK
    unfold V32 at hr
    gi_wp2
    refine ⟨by simp, .inl ⟨_, _, rfl, run_takeDeferred hK, ?_⟩⟩
    exact ⟨_, results_tmp rfl _ _ _, rfl, hB.trans (belowK_b (w := w) (Nat.le_refl _) W D _ _ (by simp at hD; omega) hK rfl rfl)⟩
  case stop =>
    rintro D c pre W _ _ h _
    exact h.elim
end Go.Proofs.Ytialblddcgdlkaa
