/- The reader's Word: one of some texts. -/
import Derived.Test.YtfmdbmalmeimbaaDoorSrc
namespace Go.Proofs.YtfmdbmalmeimbaaDoor
open Go.RowKit
set_option maxRecDepth 100000

/-- texts as values -/
def T (l : List ByteArray) : List Value := l.map Value.string
theorem T_at {l : List ByteArray} {k : Nat} {u : Value} (h : (T l)[k]? = some u) : ∃ p, l[k]? = some p ∧ u = .string p := by
  simp [T] at h
  obtain ⟨a, h1, h2⟩ := h
  exact ⟨a, h1, h2.symm⟩
theorem texts_reads (w : World) (l : List ByteArray) (hl : l.length ≤ 1000) : Reads (w.alloc (.cells (T l).toArray 9)) (w.alloc (.cells (T l).toArray 9)).heap.size 1 (some ⟨w.heap.size, 0, none⟩) l.length (T l) :=
  Reads.of_own (World.ownsRow_lit (base := w.heap.size) (e := 9) (size := 1) w (T l).toArray l.length (Nat.le_refl _) (by unfold maxLen; omega) (by simp [T]))
theorem ints_reads (w : World) (l : List Int) (hl : l.length ≤ 1000) : Reads (w.alloc (.cells (I l).toArray 3)) (w.alloc (.cells (I l).toArray 3)).heap.size 1 (some ⟨w.heap.size, 0, none⟩) l.length (I l) :=
  Reads.of_own (World.ownsRow_lit (base := w.heap.size) (e := 3) (size := 1) w (I l).toArray l.length (Nat.le_refl _) (by unfold maxLen; omega) (by simp [I]))

/-- a call of the reader returns a text with property p -/
def SrcText (p : ByteArray → Prop) (B sb : Nat) (w : World) (e : Ending) (w' : World) : Prop := ∃ x : ByteArray, p x ∧ e = .returned (.string x) ∧ SrcOk B w' sb ∧ Only (· = sb) w w'

set_option maxHeartbeats 400000 in
theorem srcWord_any (B sb : Nat) (A : Option Addr) (n c : Nat) (ts : List ByteArray) (w : World) (h : SrcOk B w sb) (p : ByteArray → Prop) (hn : 1 ≤ n) (hn2 : n ≤ 1000000) (hr : Reads w w.heap.size 1 A n (T ts)) (hsb : ∀ ad, A = some ad → ad.block ≠ sb) (hp : ∀ z ∈ ts, p z) :
    Calls Tryd.prog 16 #[.pointer (some ⟨sb, 0, none⟩), .slice A n c] w (SrcText p B sb w) := by
  have H := Lib.hid h
  have HR := Lib.hid hr
  clear h hr
  go_enter Tryd.func16, Tryd.ntmps16
  go_wp2_with fail
  refine (srcN_any B sb _ _ H.out (by omega) (by omega)).mono ?_
  rintro e w1 ⟨x, ⟨hx1, hx2⟩, rfl, hok, ho⟩
  obtain ⟨k, rfl⟩ := Int.eq_ofNat_of_zero_le hx1
  have hkn : k < n := by omega
  obtain ⟨ad, u, rfl, hab, hx, hc⟩ := HR.out.at_ hkn
  obtain ⟨t, ht, rfl⟩ := T_at hx
  have hc1 : w1.cell? (ad.add k) = some (.string t) := (ho.cell (by rw [block_of_add]; exact hab) (by rw [block_of_add]; exact hsb ad rfl)).trans hc
  have HOK := Lib.hid hok
  have HO := Lib.hid ho
  have HZ := Lib.hid (hp t (List.mem_of_getElem? ht))
  clear hok ho hx hc ht hp
  go_wp2_with fail
  go_ret
  exact ⟨t, HZ.out, rfl, HOK.out, HO.out⟩
end Go.Proofs.YtfmdbmalmeimbaaDoor
