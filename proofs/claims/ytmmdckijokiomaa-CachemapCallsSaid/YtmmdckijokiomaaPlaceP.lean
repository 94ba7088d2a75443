/- What Place needs: slices.DeleteFunc on any own row; the entry of Place. -/
import Derived.Test.YtmmdckijokiomaaMissP
namespace Go.Proofs.Ytmmdckijokiomaa
open Go.RowKit

set_option maxRecDepth 100000 in
theorem deleteF_all {A : Option Addr} {base c gb : Nat} {l : List Int} {b : Int} {w : World} (h : w.ownsRow base 3 1 (.slice A l.length c) l.length (I l)) (hl : l.length ≤ 1000) (hb : w.cell? ⟨gb, 0, none⟩ = some (.int .i64 b)) (hgb : (Value.slice A l.length c).ownBlock ≠ some gb) :
    Calls Try.prog 53 #[.slice A l.length c, .func (.func 54) #[] #[.pointer (some ⟨gb, 0, none⟩)]] w (fun e w' => e = .returned (.slice A (withoutL l b).length c) ∧
      w'.ownsRow base 3 1 (.slice A (withoutL l b).length c) (withoutL l b).length (I (withoutL l b)) ∧ Only (fun k => (Value.slice A l.length c).ownBlock = some k) w w') := by
  by_cases hm : b ∈ l
  · obtain ⟨g, cap, em, hg, hgl⟩ := h.form (by have := List.length_pos_of_mem hm; omega)
    obtain ⟨rfl, rfl⟩ : A = some ⟨g, 0, none⟩ ∧ c = cap := by injection em with e1 _ e2; exact ⟨e1, e2⟩
    refine (deleteF_any h hl hb (fun e => hgb (by rw [e]; rfl))).mono ?_
    rintro e w' ⟨rfl, h1, h2⟩
    exact ⟨rfl, h1, h2.mono (fun k _ e => by subst e; rfl)⟩
  · have HO := Lib.hid h
    have HIX := Lib.hid (indexF_any (c := c) (b := b) (Reads.of_own h) (by omega) hb (idxI_none hm))
    rw [without_none hm]
    clear hm h hb hgb
    go_enter Try.func53, Try.ntmps53
    go_wp2_with fail
    refine HIX.out.mono ?_
    rintro e w5 ⟨rfl, rfl⟩
    go_wp2_with fail
    go_ret
    exact ⟨rfl, HO.out, Only.refl _ _⟩
theorem entry3 (w : World) (v0 v1 v2 u : Value) : E0 w (((w.alloc (.cells #[v0, v1, v2] 25)).alloc (.cells #[u] 3)).alloc (.cells #[.slice none 0 0, .int .i64 0, .slice none 0 0] 25)) w.heap.size (w.heap.size + 2) v0 v1 v2 ∧
    Blk (((w.alloc (.cells #[v0, v1, v2] 25)).alloc (.cells #[u] 3)).alloc (.cells #[.slice none 0 0, .int .i64 0, .slice none 0 0] 25)) (w.heap.size + 1) 3 #[u] := by
  have h1 := Blk.new (w.alloc (.cells #[v0, v1, v2] 25)) 3 #[u]
  rw [show (w.alloc (.cells #[v0, v1, v2] 25)).heap.size = w.heap.size + 1 from Array.size_push ..] at h1
  have h := Blk.new ((w.alloc (.cells #[v0, v1, v2] 25)).alloc (.cells #[u] 3)) 25 #[.slice none 0 0, .int .i64 0, .slice none 0 0]
  rw [show ((w.alloc (.cells #[v0, v1, v2] 25)).alloc (.cells #[u] 3)).heap.size = w.heap.size + 2 from (Array.size_push ..).trans (congrArg (· + 1) (Array.size_push ..))] at h
  exact ⟨⟨((Blk.new _ _ _).alloc _).alloc _, h, Nat.le_refl _, by omega, (((Below.refl _ _).al _).al _).al _⟩, h1.alloc _⟩
end Go.Proofs.Ytmmdckijokiomaa
