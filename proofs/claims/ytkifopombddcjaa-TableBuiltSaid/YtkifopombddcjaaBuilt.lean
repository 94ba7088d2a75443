/- The tables that the laws build. -/
import Derived.Test.YtkifopombddcjaaAwake
import Derived.Test.YtkifopombddcjaaWord
namespace Go.Proofs.Ytkifopombddcjaa
open Go.RowKit

/-- what built has in hand: the row, the reader -/
structure BS (B sb : Nat) (w wx : World) (v : Value) (ts : List Tg) : Prop where
  own : wx.ownsRow w.heap.size 44 5 v ts.length (C ts)
  src : SrcOk B wx sb
  onl : Only (· = sb) w wx
/-- and one target in a block of its own -/
structure BH (B sb : Nat) (w wx : World) (g : Nat) (v : Value) (ts : List Tg) (t : Tg) : Prop where
  bs : BS B sb w wx v ts
  bt : Blk wx g 44 #[.int .i64 t.start, .int .i64 t.len, .string t.on, .int .i64 t.off, .bool t.fail]
  ge : w.heap.size ≤ g
  blk : ∀ k, v.ownBlock = some k → k < g
section
variable {B sb g : Nat} {w wx w' : World} {v : Value} {ts : List Tg} {t t' : Tg}
theorem BS.srcd (h : BS B sb w wx v ts) (hlt : sb < w.heap.size) (hs : SrcOk B w' sb) (ho : Only (· = sb) wx w') : BS B sb w w' v ts :=
  ⟨own_only h.own ho (fun k hk e => by have := (h.own.lt k hk).1; omega), hs, h.onl.trans ho⟩
theorem BS.below (h : BS B sb w wx v ts) (hb : Below wx.heap.size wx w') : BS B sb w w' v ts :=
  ⟨own_only h.own (Only.of_below (fun _ => False) hb) (fun _ _ h => h), h.src.below hb, h.onl.next hb⟩
theorem BH.srcd (h : BH B sb w wx g v ts t) (hlt : sb < w.heap.size) (hs : SrcOk B w' sb) (ho : Only (· = sb) wx w') : BH B sb w w' g v ts t :=
  ⟨h.bs.srcd hlt hs ho, h.bt.only ho (by have := h.ge; omega), h.ge, h.blk⟩
theorem BH.below (h : BH B sb w wx g v ts t) (hb : Below wx.heap.size wx w') : BH B sb w w' g v ts t :=
  ⟨h.bs.below hb, h.bt.only (Only.of_below (fun _ => False) hb) (fun h => h), h.ge, h.blk⟩
theorem BH.start (h : BS B sb w wx v ts) : BH B sb w (wx.alloc (.cells #[.int .i64 t.start, .int .i64 t.len, .string t.on, .int .i64 t.off, .bool t.fail] 44)) wx.heap.size v ts t :=
  ⟨h.below ((Below.refl _ _).al _), heap_alloc_new wx _, h.onl.size, fun k hk => (h.own.lt k hk).2⟩
theorem BH.set_ (h : BH B sb w wx g v ts t) (hlt : sb < w.heap.size) (hB : B ≤ w.heap.size) (j : Nat) (u : Value)
    (hu : (#[.int .i64 t.start, .int .i64 t.len, .string t.on, .int .i64 t.off, .bool t.fail] : Array Value).setIfInBounds j u = #[.int .i64 t'.start, .int .i64 t'.len, .string t'.on, .int .i64 t'.off, .bool t'.fail]) :
    BH B sb w (wx.setCell ⟨g, j, none⟩ u) g v ts t' := by
  have ho : Only (· = g) wx (wx.setCell ⟨g, j, none⟩ u) := (Only.refl (· = g) wx).setCell (p := ⟨g, j, none⟩) (.inl rfl) _
  have hge := h.ge
  refine ⟨⟨own_only h.bs.own ho (fun k hk e => by have := h.blk k hk; omega), h.bs.src.only ho (by omega) (fun k e => by omega), h.bs.onl.setCell (p := ⟨g, j, none⟩) (.inr hge) _⟩, ?_, hge, h.blk⟩
  have := Blk.set_ h.bt j u
  rw [hu] at this
  exact this
end
/-- the answer of built -/
def BuiltRet (B sb : Nat) (w : World) (e : Ending) (w' : World) : Prop := ∃ v ts, e = .returned v ∧ ts.length ≤ 7 ∧ BS B sb w w' v ts
end Go.Proofs.Ytkifopombddcjaa
