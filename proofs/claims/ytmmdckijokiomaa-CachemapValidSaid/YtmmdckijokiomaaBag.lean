/- Variables that hold states, side by side. -/
import Derived.Test.YtmmdckijokiomaaState
namespace Go.Proofs.Ytmmdckijokiomaa
open Go.RowKit

theorem At.reads {w : World} {g : Nat} {st : St} {A A2 : Option Addr} {n c n2 c2 : Nat} (h : At w g st (.slice A n c) (.slice A2 n2 c2)) : Reads w w.heap.size 4 A st.slots.length (SC st.slots) ∧ Reads w w.heap.size 1 A2 st.missed.length (I st.missed) := by
  obtain ⟨⟨A', c', e, hs, _⟩, ⟨A2', c2', e2, hr, _⟩⟩ := h.sv
  obtain rfl : A = A' := by injection e
  obtain rfl : A2 = A2' := by injection e2
  exact ⟨hs.reads, hr⟩
theorem valid0c {w : World} {g : Nat} {st : St} {a b : Value} (h : At w g st a b) (hv : VP st) : Calls Try.prog 14 #[.agg #[a, .int .i64 st.clock, b]] w (Ret (.int .i64 0) w) := by
  have h0 := rvalid_any h.sv
  rw [valid0 (valid_iff.2 hv)] at h0
  exact h0
theorem grown_bel {w w' : World} (h : w.grownBy w' none) : Below w.heap.size w w' := (Below.refl _ _).grown h (Nat.le_refl _) (fun g hg => by cases hg)
theorem blk_c {w : World} {g : Nat} {x y z : Value} (h : Blk w g 25 #[x, y, z]) : w.cell? ⟨g, 0, none⟩ = some x ∧ w.cell? ⟨g, 1, none⟩ = some y ∧ w.cell? ⟨g, 2, none⟩ = some z ∧ w.frozen? ⟨g, 0, none⟩ = false ∧ w.frozen? ⟨g, 1, none⟩ = false ∧ w.frozen? ⟨g, 2, none⟩ = false :=
  ⟨by rw [h.cell]; rfl, by rw [h.cell]; rfl, by rw [h.cell]; rfl, h.frozen 0, h.frozen 1, h.frozen 2⟩
theorem Fin {W wx : World} {g5 gx n m d d2 : Nat} {st : St} {a b : Value} {A A2 : Option Addr} (hz : Blk wx g5 25 #[.slice none 0 0, .int .i64 0, .slice none 0 0]) (h : At wx gx st a b ∧ Below W.heap.size W wx ∧ SrcOk W.heap.size wx W.heap.size) (ha : wx.ownsRow W.heap.size 51 4 (.slice A n d) st.slots.length (SC st.slots)) (hb : wx.ownsRow W.heap.size 3 1 (.slice A2 m d2) st.missed.length (I st.missed)) (hg : gx < g5) (hw : W.heap.size ≤ gx) :
    ∃ (g5' : Nat) (a5 b5 : Value), Value.pointer (some ⟨g5, 0, none⟩) = .pointer (some ⟨g5', 0, none⟩) ∧ gx < g5' ∧ At (put3 wx g5 (.slice A n d) (.int .i64 st.clock) (.slice A2 m d2)) g5' st a5 b5 ∧ At (put3 wx g5 (.slice A n d) (.int .i64 st.clock) (.slice A2 m d2)) gx st a b ∧ Below W.heap.size W (put3 wx g5 (.slice A n d) (.int .i64 st.clock) (.slice A2 m d2)) ∧ SrcOk W.heap.size (put3 wx g5 (.slice A n d) (.int .i64 st.clock) (.slice A2 m d2)) W.heap.size := by
  have hso : SO wx W.heap.size st (.slice A n d) (.slice A2 m d2) := ⟨ha, hb⟩
  have ho := put3_only wx g5 (.slice A n d) (.int .i64 st.clock) (.slice A2 m d2)
  exact ⟨g5, _, _, rfl, hg, ⟨put3_blk hz, (hso.only hz ho).sv, (hso.only hz ho).typ⟩, h.1.other hz (Nat.ne_of_lt hg) _ _ _, put3_bel h.2.1 (by omega), put_src h.2.2 hz (by omega) _ _ _⟩
theorem Blk.newAt {w : World} {g : Nat} (t : TypeId) (cs : Array Value) (hg : w.heap.size = g) : Blk (w.alloc (.cells cs t)) g t cs := by
  subst hg; exact Blk.new _ _ _
/-- variables that hold states, side by side -/
structure Bag (W wx : World) (L : List (Nat × St × Value × Value)) : Prop where
  h : ∀ x ∈ L, At wx x.1 x.2.1 x.2.2.1 x.2.2.2
  b : Below W.heap.size W wx
  s : SrcOk W.heap.size wx W.heap.size
theorem Bag.up {W wx wy : World} {L : List (Nat × St × Value × Value)} (h : Bag W wx L) (hb : Below wx.heap.size wx wy) : Bag W wy L := ⟨fun x hx => (h.h x hx).up hb, h.b.next hb, h.s.below hb⟩
theorem Bag.srcd {W wx wy : World} {L : List (Nat × St × Value × Value)} (h : Bag W wx L) (hs : SrcOk W.heap.size wy W.heap.size) (ho : Only (· = W.heap.size) wx wy) : Bag W wy L :=
  ⟨fun x hx => (h.h x hx).srcd h.s ho, h.b.trans (ho.below h.s.lt.2.2 (fun k e => by rw [e]; exact Nat.le_refl _)), hs⟩
theorem Bag.add {W wx : World} {L : List (Nat × St × Value × Value)} {st : St} {a b : Value} (h : Bag W wx L) (hs : SV wx wx.heap.size st a b) (ht : Typ wx a b) : Bag W (wx.alloc (.cells #[a, .int .i64 st.clock, b] 25)) ((wx.heap.size, st, a, b) :: L) :=
  have h2 := h.up ((Below.refl wx.heap.size wx).al (.cells #[a, .int .i64 st.clock, b] 25))
  ⟨fun x hx => by
    rcases List.mem_cons.1 hx with rfl | hx
    · exact At.new_ hs ht
    · exact h2.h x hx, h2.b, h2.s⟩
theorem Bag.at0 {W wx : World} {g : Nat} {st : St} {a b : Value} {L : List (Nat × St × Value × Value)} (h : Bag W wx ((g, st, a, b) :: L)) : At wx g st a b := h.h _ (.head _)
theorem Bag.tl {W wx : World} {x : Nat × St × Value × Value} {L : List (Nat × St × Value × Value)} (h : Bag W wx (x :: L)) : Bag W wx L := ⟨fun y hy => h.h y (.tail _ hy), h.b, h.s⟩
/-- a new variable, not filled yet -/
theorem Bag.zero {W wx : World} {L : List (Nat × St × Value × Value)} (h : Bag W wx L) : Bag W (wx.alloc (.cells #[.slice none 0 0, .int .i64 0, .slice none 0 0] 25)) ((wx.heap.size, St.none_, .slice none 0 0, .slice none 0 0) :: L) :=
  h.add (SV.nil_ _ _) (Typ.nil_ _)
theorem Bag.zeroAt {W wx : World} {g : Nat} {L : List (Nat × St × Value × Value)} (h : Bag W wx L) (hg : wx.heap.size = g) : Bag W (wx.alloc (.cells #[.slice none 0 0, .int .i64 0, .slice none 0 0] 25)) ((g, St.none_, .slice none 0 0, .slice none 0 0) :: L) := by
  subst hg; exact h.zero
/-- the first variable is filled -/
theorem Bag.put {W wx : World} {g : Nat} {st st2 : St} {a b a2 b2 : Value} {L : List (Nat × St × Value × Value)} (h : Bag W wx ((g, st, a, b) :: L)) (hg : W.heap.size ≤ g) (hL : ∀ x ∈ L, x.1 ≠ g) (hs : SV wx wx.heap.size st2 a2 b2) (ht : Typ wx a2 b2) :
    Bag W (put3 wx g a2 (.int .i64 st2.clock) b2) ((g, st2, a2, b2) :: L) :=
  ⟨fun x hx => by
    rcases List.mem_cons.1 hx with rfl | hx
    · exact h.at0.set hs ht
    · exact (h.tl.h x hx).other h.at0.blk (hL x hx) _ _ _, put3_bel h.b hg, put_src h.s h.at0.blk hg _ _ _⟩
theorem Bag.one {W wx : World} {g : Nat} {st : St} {a b : Value} (h : At wx g st a b) (hb : Below W.heap.size W wx) (hs : SrcOk W.heap.size wx W.heap.size) : Bag W wx [(g, st, a, b)] :=
  ⟨fun x hx => by
    rcases List.mem_cons.1 hx with rfl | hx
    · exact h
    · exact absurd hx List.not_mem_nil, hb, hs⟩
theorem Bag.cons {W wx : World} {g : Nat} {st : St} {a b : Value} {L : List (Nat × St × Value × Value)} (h : At wx g st a b) (hb : Bag W wx L) : Bag W wx ((g, st, a, b) :: L) :=
  ⟨fun x hx => by
    rcases List.mem_cons.1 hx with rfl | hx
    · exact h
    · exact hb.h x hx, hb.b, hb.s⟩
/-- variables of different ages -/
def Asc (n : Nat) (L : List (Nat × St × Value × Value)) : Prop := ∀ x ∈ L, x.1 < n
theorem Bag.asc {W wx : World} {L : List (Nat × St × Value × Value)} (h : Bag W wx L) : Asc wx.heap.size L := fun x hx => (h.h x hx).blk.lt
theorem Asc.ne {n : Nat} {L : List (Nat × St × Value × Value)} (h : Asc n L) : ∀ x ∈ L, x.1 ≠ n := fun x hx => Nat.ne_of_lt (h x hx)
theorem bag_valid {W wx : World} {L : List (Nat × St × Value × Value)} (hB : Bag W wx L) {a b : Value} {c : Int} (h : ∃ g st, (g, st, a, b) ∈ L ∧ st.clock = c ∧ VP st) : Calls Try.prog 14 #[.agg #[a, .int .i64 c, b]] wx (Ret (.int .i64 0) wx) := by
  obtain ⟨g, st, hm, rfl, hv⟩ := h
  exact valid0c (hB.h _ hm) hv
end Go.Proofs.Ytmmdckijokiomaa
