/- What Bytes, Words, Extend, Combine and Short return. -/
import Derived.Test.YtialblddcgdlkaaIters
import Derived.Lib.SlBytesConst
namespace Go.Proofs.Ytialblddcgdlkaa
open Go.RowKit Go.Shelf

def ones : W32 := 4294967295#32
/-- the complement -/
def nt (x : W32) : W32 := ~~~x
def crcB (xs : List (BitVec 8)) : W32 := nt (xs.foldl fd ones)
def extW (s : W32) (ws : List (BitVec 64)) : W32 := nt ((ws.flatMap byts).foldl fd (nt s))

theorem info46 : (Try.prog.info? 46).map (·.size) = some (tarr 256).size := by rw [tarr_size]; exact (zero_of_info zero46).2
theorem tarr_all : (tarr 256).all (·.oneCell') = true := by
  rw [Array.all_eq_true_iff_forall_mem]
  intro x hx
  simp only [tarr, Array.mem_ofFn] at hx
  obtain ⟨i, rfl⟩ := hx
  split <;> rfl
theorem tab_cells (w : World) (i : Nat) (h : i < 256) : (w.alloc (.cells (tarr 256) 46)).cell? ⟨w.heap.size, i, none⟩ = some (V32 (tab i)) := by
  rw [(Blk.new w 46 (tarr 256)).cell, tarr_full i h]

theorem u32_unsigned : IntKind.u32.signed = false := rfl
theorem not32 (x : W32) : bits .xor .u32 IntKind.u32.max (x.toNat : Int) = ((nt x).toNat : Int) := by
  unfold nt
  have hx := x.isLt
  have h := u32_xor_nat 4294967295 x.toNat (by omega) hx
  rw [show IntKind.u32.max = ((4294967295 : Nat) : Int) from rfl]
  refine h.trans ?_
  congr 1

theorem run_val (g : Nat) (r : W32) (x : Int) (hx : (r.toNat : Int) = x) (gf : Nat) (lb : Array Value) (xs : List (BitVec 8)) (w : World) (hgl : g < w.heap.size) (ht : ∀ i, i < 256 → w.cell? ⟨g, i, none⟩ = some (V32 (tab i)))
    (eg : ∀ args w, (callFunc gf args).run Try.prog w = .ok (.enter gf args) w) (hseq : ∀ W, Below w.heap.size w W → Seq8 gf lb xs w.heap.size W) :
    Calls Try.prog 22 #[.pointer (some ⟨g, 0, none⟩), .int .u32 x, .func (.func gf) #[] lb] w (Ret (V32 (xs.foldl fd r)) w) := by
  subst hx
  exact run_any g r gf lb xs w hgl ht eg hseq

theorem box2 (w : World) (cs : Array Value) (v : Value) (s t : TypeId) : ((w.alloc (.cells cs s)).alloc (.cells #[v] t)).cell? ⟨w.heap.size + 1, 0, none⟩ = some v := by
  have h2 : Blk ((w.alloc (.cells cs s)).alloc (.cells #[v] t)) (w.heap.size + 1) t #[v] := by have := Blk.new (w.alloc (.cells cs s)) t #[v]; simpa using this
  rw [h2.cell]; rfl
theorem box1 (w : World) (v : Value) (t : TypeId) (i : Nat) (h : i < 256) : ((w.alloc (.cells (tarr 256) 46)).alloc (.cells #[v] t)).cell? ⟨w.heap.size, i, none⟩ = some (V32 (tab i)) := by
  rw [((Blk.new w 46 (tarr 256)).alloc _).cell, tarr_full i h]

set_option maxRecDepth 100000 in
set_option maxHeartbeats 400000 in
theorem bytes_any (A : Option Addr) (n c : Nat) (xs : List (BitVec 8)) (w : World) (hn : n ≤ maxLen) (hr : Reads w w.heap.size 1 A n (xs.map V8)) :
    Calls Try.prog 11 #[.slice A n c] w (Ret (V32 (crcB xs)) w) := by
  obtain ⟨hz, _⟩ := zero_of_info zero46
  have HR := Lib.hid hr
  clear hr
  go_enter Try.func11, Try.ntmps11
  go_wp2_with fail
  refine (table_any _).mono ?_
  rintro e w1 ⟨rfl, hb1⟩
  go_wp2_with (refine wpList_store_row rfl 46 _ _ rfl w1.heap.size (tarr 256) rfl rfl 46 Z256 (heap_alloc_new w1 _) info46 (by rw [tarr_size]; rfl) tarr_all ?_; rw [World.setRow_alloc_new])
  refine (plain_any A n c _).mono ?_
  rintro e w2 ⟨rfl, rfl⟩
  go_wp2_with fail
  refine (run_val w1.heap.size ones 4294967295 rfl 28 #[.pointer (some ⟨w1.heap.size + 1, 0, none⟩)] xs _ (by simp; omega) (fun i hi => box1 w1 _ _ i hi) (enters_of Try.func28 (by kernel_rfl) rfl) ?_).mono ?_
  · intro W hW
    have hr2 : Reads W w.heap.size 1 A n (xs.map V8) := HR.out.below ((hb1.al _).al _ |>.next hW)
    refine plain1_seq (w1.heap.size + 1) _ n c A xs W hn (by have := hW.size; simp at this; omega) hW.size ?_ (hr2.more (by have := hb1.size; simp; omega))
    exact (hW.cell (p := ⟨w1.heap.size + 1, 0, none⟩) (by simp)).trans (box2 w1 _ _ _ _)
  rintro e w3 ⟨rfl, hb3⟩
  unfold V32
  have hsg := u32_unsigned
  have hno := not32
  go_wp2_with fail
  go_ret
  exact ⟨rfl, ((hb1.al _).al _).next hb3⟩

set_option maxRecDepth 100000 in
set_option maxHeartbeats 400000 in
theorem extend_any (s : W32) (A : Option Addr) (n c : Nat) (ws : List (BitVec 64)) (w : World) (hn : n ≤ maxLen) (hr : Reads w w.heap.size 1 A n (ws.map V64)) :
    Calls Try.prog 15 #[V32 s, .slice A n c] w (Ret (V32 (extW s ws)) w) := by
  obtain ⟨hz, _⟩ := zero_of_info zero46
  have HR := Lib.hid hr
  have hsg := u32_unsigned
  have hno := not32
  clear hr
  unfold V32
  go_enter Try.func15, Try.ntmps15
  go_wp2_with fail
  refine (table_any _).mono ?_
  rintro e w1 ⟨rfl, hb1⟩
  go_wp2_with (refine wpList_store_row rfl 46 _ _ rfl w1.heap.size (tarr 256) rfl rfl 46 Z256 (heap_alloc_new w1 _) info46 (by rw [tarr_size]; rfl) tarr_all ?_; rw [World.setRow_alloc_new])
  refine (spread_any A n c _).mono ?_
  rintro e w2 ⟨rfl, rfl⟩
  go_wp2_with fail
  refine (run_val w1.heap.size (nt s) _ rfl 30 #[.pointer (some ⟨w1.heap.size + 1, 0, none⟩)] (ws.flatMap byts) _ (by simp; omega) (fun i hi => box1 w1 _ _ i hi) (enters_of Try.func30 (by kernel_rfl) rfl) ?_).mono ?_
  · intro W hW
    have hr2 : Reads W w.heap.size 1 A n (ws.map V64) := HR.out.below ((hb1.al _).al _ |>.next hW)
    refine spread1_seq (w1.heap.size + 1) _ n c A ws W hn (by have := hW.size; simp at this; omega) hW.size ?_ (hr2.more (by have := hb1.size; simp; omega))
    exact (hW.cell (p := ⟨w1.heap.size + 1, 0, none⟩) (by simp)).trans (box2 w1 _ _ _ _)
  rintro e w3 ⟨rfl, hb3⟩
  unfold V32
  go_wp2_with fail
  go_ret
  exact ⟨rfl, ((hb1.al _).al _).next hb3⟩

set_option maxHeartbeats 400000 in
theorem words_any (A : Option Addr) (n c : Nat) (ws : List (BitVec 64)) (w : World) (hn : n ≤ maxLen) (hr : Reads w w.heap.size 1 A n (ws.map V64)) :
    Calls Try.prog 13 #[.slice A n c] w (Ret (V32 (extW 0#32 ws)) w) := by
  go_enter Try.func13, Try.ntmps13
  go_wp2_with fail
  refine (extend_any 0#32 A n c ws _ hn hr).mono ?_
  rintro e w1 ⟨rfl, hb1⟩
  go_wp2_with fail
  go_ret
  exact ⟨rfl, hb1⟩

def combW (a b : W32) (n : Nat) : W32 := (List.replicate (8 * n) 0#8).foldl fd a ^^^ b
def combV (a b : W32) (n : Int) : Value := if 0 ≤ n ∧ n ≤ 65536 then .tuple #[V32 (combW a b n.toNat), .int .i64 0] else .tuple #[.int .u32 0, .int .i64 1]
theorem xor32 (x y : W32) : bits .xor .u32 (x.toNat : Int) (y.toNat : Int) = ((x ^^^ y).toNat : Int) := by
  rw [u32_xor_nat _ _ x.isLt y.isLt, BitVec.toNat_xor]

set_option maxRecDepth 100000 in
set_option maxHeartbeats 400000 in
theorem combine_any (a b : W32) (n : Int) (w : World) : Calls Try.prog 19 #[V32 a, V32 b, .int .i64 n] w (Ret (combV a b n) w) := by
  by_cases h : 0 ≤ n ∧ n ≤ 65536
  · have H := Lib.hid (show combV a b n = .tuple #[V32 (combW a b n.toNat), .int .i64 0] by rw [combV, if_pos h])
    obtain ⟨h0, h1⟩ := h
    obtain ⟨k, rfl⟩ := Int.eq_ofNat_of_zero_le h0
    obtain ⟨hz, _⟩ := zero_of_info zero46
    have hx := xor32
    unfold V32
    have h2 : ¬ (k : Int) < 0 := by omega
    have h3 : ¬ (65536 : Int) < (k : Int) := by omega
    go_enter Try.func19, Try.ntmps19
    go_wp2_with fail
    refine (table_any _).mono ?_
    rintro e w1 ⟨rfl, hb1⟩
    go_wp2_with (refine wpList_store_row rfl 46 _ _ rfl w1.heap.size (tarr 256) rfl rfl 46 Z256 (heap_alloc_new w1 _) info46 (by rw [tarr_size]; rfl) tarr_all ?_; rw [World.setRow_alloc_new])
    refine (zeros_any _ _).mono ?_
    rintro e w2 ⟨rfl, rfl⟩
    go_wp2_with fail
    refine (run_val w1.heap.size a _ rfl 31 #[.pointer (some ⟨w1.heap.size + 1, 0, none⟩)] (List.replicate (8 * k) 0#8) _ (by simp; omega) (fun i hi => box1 w1 _ _ i hi) (enters_of Try.func31 (by kernel_rfl) rfl) ?_).mono ?_
    · intro W hW
      refine zeros1_seq (w1.heap.size + 1) _ (8 * k) W (by omega) (by have := hW.size; simp at this; omega) ?_
      refine (hW.cell (p := ⟨w1.heap.size + 1, 0, none⟩) (by simp)).trans ((box2 w1 _ _ _ _).trans ?_)
      simp
    rintro e w3 ⟨rfl, hb3⟩
    unfold V32
    go_wp2_with fail
    rw [H.out]
    go_ret2
    exact ⟨rfl, ((hb1.al _).al _).next hb3⟩
  · have H := Lib.hid (show combV a b n = .tuple #[.int .u32 0, .int .i64 1] by rw [combV, if_neg h])
    have h' : n < 0 ∨ 65536 < n := by omega
    clear h
    by_cases h0 : n < 0
    all_goals
      go_enter Try.func19, Try.ntmps19
      go_wp2_with fail
      rw [H.out]
      go_ret2
      exact ⟨rfl, Below.refl _ _⟩

def shortI (x : Int) : Int := bits .xor .u16 (x / 65536) (IntKind.u16.wrap x)
set_option maxHeartbeats 400000 in
theorem short_any (x : Int) (w : World) (h0 : 0 ≤ x) (h1 : x < 4294967296) : Calls Try.prog 17 #[.int .u32 x] w fun e w' => e = .returned (.int .u16 (shortI x)) ∧ w = w' := by
  go_enter Try.func17, Try.ntmps17
  go_wp2_with fail
  go_ret
  exact ⟨rfl, rfl⟩
set_option maxHeartbeats 400000 in
theorem short_ref (x : Int) (w : World) (h0 : 0 ≤ x) (h1 : x < 4294967296) : Calls Try.prog 18 #[.int .u32 x] w fun e w' => e = .returned (.int .u16 (shortI x)) ∧ w = w' := by
  go_enter Try.func18, Try.ntmps18
  go_wp2_with fail
  go_ret
  exact ⟨rfl, rfl⟩

set_option maxHeartbeats 1000000 in
theorem awake_any (w : World) : Calls Try.prog 10 #[] w (Ret (.bool true) w) := by
  have kc := fun (w : World) (C : Array Value) (n c : Nat) => Lib.run_convert_bytes_const (P := Try.prog) w 22 5 C n c Try.underlying22 Try.underlying5
  go_enter Try.func10, Try.ntmps10
  go_wp2_with fail
  have hb0 : Below w.heap.size w (w.alloc (Obj.cells #[.int .u8 49, .int .u8 50, .int .u8 51, .int .u8 52, .int .u8 53, .int .u8 54, .int .u8 55, .int .u8 56, .int .u8 57] 5 (9, 10))) := (Below.refl _ _).al _
  refine (bytes_any (some ⟨w.heap.size, 0, none⟩) 9 9 [49#8, 50#8, 51#8, 52#8, 53#8, 54#8, 55#8, 56#8, 57#8] _ (by unfold maxLen; omega) ?_).mono ?_
  · refine ⟨rfl, fun _ => ⟨_, rfl, by simp, fun j u hu => ?_⟩⟩
    rw [add_at0]
    have : (w.alloc (Obj.cells #[.int .u8 49, .int .u8 50, .int .u8 51, .int .u8 52, .int .u8 53, .int .u8 54, .int .u8 55, .int .u8 56, .int .u8 57] 5 (9, 10))).cell? ⟨w.heap.size, j, none⟩ = (#[.int .u8 49, .int .u8 50, .int .u8 51, .int .u8 52, .int .u8 53, .int .u8 54, .int .u8 55, .int .u8 56, .int .u8 57] : Array Value)[j]? := cell_of_row _ _ _ _ _ _ (heap_alloc_new w _)
    rw [this, ← hu, List.getElem?_toArray]
    rfl
  rintro e w1 ⟨rfl, hb1⟩
  rw [show crcB [49#8, 50#8, 51#8, 52#8, 53#8, 54#8, 55#8, 56#8, 57#8] = 3808858755#32 by decide +kernel]
  unfold V32
  have hs : shortI 65539 = 2 := by decide +kernel
  have HS := Lib.hid hs
  clear hs
  go_wp2_with fail
  refine (short_any _ _ (by omega) (by omega)).mono ?_
  rw [HS.out]
  rintro e w2 ⟨rfl, rfl⟩
  go_wp2_with fail
  go_ret
  exact ⟨rfl, hb0.next hb1⟩
end Go.Proofs.Ytialblddcgdlkaa
