/- section. -/
import Derived.Test.YtfmdbmalmeimbaaDoorPNode
import Derived.Test.YtfmdbmalmeimbaaDoorPTwice
namespace Go.Proofs.YtfmdbmalmeimbaaDoor
open Go.RowKit
set_option maxRecDepth 100000

theorem node_info : (Tryd.prog.info? 48).map (fun i => (i.zero, i.size, i.bytes)) = some (some (.agg Z6), 6, 96) := by kernel_rfl
theorem listP_mono {T : List Tk} : ∀ {f : Nat} {acc l : List ByteArray} {i n i' n' : Nat}, listP T f acc i n = .ok l i' n' → i ≤ i' := by
  intro f
  induction f with
  | zero => intro acc l i n i' n' h; unfold listP at h; cases h
  | succ f ih =>
    intro acc l i n i' n' h
    unfold listP at h
    split at h
    · split at h
      · injection h; omega
      · split at h
        · have := ih h; omega
        · cases h
    · cases h
theorem nodeP_mono {sect : Nat → Nat → Nat → PR (List Nd)} {T : List Tk} {name : ByteArray} {d i n i' n' : Nat} {t : Nd} (hs : ∀ {d i n i' n' : Nat} {l : List Nd}, sect d i n = .ok l i' n' → i ≤ i') (h : nodeP sect T name d i n = .ok t i' n') : i + 1 ≤ i' := by
  unfold nodeP at h
  split at h
  · split at h
    · cases h
    · split at h
      · cases h
      · rename_i hr
        have := hs hr
        split at h
        · injection h; omega
        · cases h
  · split at h
    · split at h
      · split at h
        · cases h
        · rename_i l j m hr
          unfold listT at hr
          split at hr
          · injection hr with _ h1 _
            injection h with _ h2 _
            omega
          · have := listP_mono hr
            injection h with _ h2 _
            omega
      · split at h
        · injection h; omega
        · split at h
          · injection h; omega
          · cases h
    · cases h
theorem sectP_mono {T : List Tk} : ∀ {f d : Nat} {acc l : List Nd} {i n i' n' : Nat}, sectP T f d acc i n = .ok l i' n' → i ≤ i' := by
  intro f
  induction f with
  | zero => intro d acc l i n i' n' h; unfold sectP at h; cases h
  | succ f ih =>
    intro d acc l i n i' n' h
    unfold sectP at h
    split at h
    · split at h
      · cases h
      · split at h
        · cases h
        · split at h
          · cases h
          · split at h
            · cases h
            · rename_i hr
              have h1 := nodeP_mono (fun {d i n i' n' l} hh => ih (acc := []) hh) hr
              have h2 := ih h
              omega
    · injection h; omega
/-- nodes in a row of one's own, complete -/
structure NO (w : World) (base : Nat) (v : Value) (x : List (Nd × Value × Value)) : Prop where
  own : w.ownsRow base 48 6 v x.length (NC x)
  l : ∀ (k : Nat) (y : Nd × Value × Value), x[k]? = some y → TL w (fun g => base ≤ g ∧ v.ownBlock ≠ some g) y.2.1 y.1.list
  n : ∀ (k : Nat) (y : Nd × Value × Value), x[k]? = some y → NL w (fun g => base ≤ g ∧ v.ownBlock ≠ some g) y.2.2 y.1.nodes
section
variable {w w' : World} {base : Nat} {v : Value} {x : List (Nd × Value × Value)}
theorem NO.nl (h : NO w base v x) : NL w (fun g => base ≤ g) v (x.map (·.1)) :=
  own_nl h.own (fun g hg => (h.own.lt g hg).1) (fun k y hy => (h.l k y hy).mono (fun _ hg => hg.1)) (fun k y hy => (h.n k y hy).mono (fun _ hg => hg.1))
theorem NO.only {F : Nat → Prop} (h : NO w base v x) (ho : Only F w w') (hF : ∀ k, F k → k < base) : NO w' base v x :=
  have hk : Kept (fun g => base ≤ g ∧ v.ownBlock ≠ some g) w w' := Kept.of_only ho (fun g hg e => by have := hF g e; omega)
  ⟨own_only h.own ho (fun k hk e => by have := (h.own.lt k hk).1; have := hF k e; omega), fun k y hy => (h.l k y hy).keep hk (fun _ h => h), fun k y hy => (h.n k y hy).keep hk (fun _ h => h)⟩
theorem NO.up (h : NO w base v x) (hb : Below w.heap.size w w') : NO w' base v x := h.only (Only.of_below (fun _ => False) hb) (fun _ h => h.elim)
theorem NO.form (h : NO w base v x) : ∃ A c, v = .slice A x.length c := by
  rcases h.own.2 with ⟨h, h0⟩ | ⟨g, cap, cur, h, _⟩
  · exact ⟨none, 0, by rw [h, h0]⟩
  · exact ⟨_, _, h⟩
/-- a node is appended -/
theorem NO.push {v' : Value} {t : Nd} {vl vn : Value} (h : NO w base v x) (ho : w'.ownsRow base 48 6 v' (x.length + 1) (NC x ++ ncells t vl vn)) (hg : w.grownBy w' v.ownBlock) (hd : v'.ownBlock = v.ownBlock ∨ v'.ownBlock = some w.heap.size)
    (hl : TL w (fun g => base ≤ g ∧ v.ownBlock ≠ some g) vl t.list) (hn : NL w (fun g => base ≤ g ∧ v.ownBlock ≠ some g) vn t.nodes) : NO w' base v' (x ++ [(t, vl, vn)]) := by
  have hon : Only (fun k => v.ownBlock = some k) w w' := (Only.refl (fun k => v.ownBlock = some k) w).grown hg (fun k e => .inl e)
  -- the children lie below the world ahead of the append
  have hk : Kept (fun g => base ≤ g ∧ v.ownBlock ≠ some g ∧ g < w.heap.size) w w' := Kept.of_only hon (fun g hg e => hg.2.1 e)
  have ne : ∀ g, (base ≤ g ∧ v.ownBlock ≠ some g ∧ g < w.heap.size) → (base ≤ g ∧ v'.ownBlock ≠ some g) := fun g hg => ⟨hg.1, fun e => by
    rcases hd with hd | hd
    · exact hg.2.1 (hd ▸ e)
    · rw [hd] at e
      injection e with e
      omega⟩
  have tl : ∀ {u : Value} {l : List ByteArray}, TL w (fun g => base ≤ g ∧ v.ownBlock ≠ some g) u l → TL w' (fun g => base ≤ g ∧ v'.ownBlock ≠ some g) u l := fun h => h.low.keep hk ne
  have nl : ∀ {u : Value} {l : List Nd}, NL w (fun g => base ≤ g ∧ v.ownBlock ≠ some g) u l → NL w' (fun g => base ≤ g ∧ v'.ownBlock ≠ some g) u l := fun h => h.low.keep hk ne
  have get : ∀ (k : Nat) (y : Nd × Value × Value), (x ++ [(t, vl, vn)])[k]? = some y → x[k]? = some y ∨ y = (t, vl, vn) := fun k y hy => by
    rcases Nat.lt_or_ge k x.length with hlt | hge
    · rw [List.getElem?_append_left hlt] at hy; exact .inl hy
    · rw [List.getElem?_append_right hge] at hy
      have := List.mem_of_getElem? hy
      simp at this
      exact .inr this
  refine ⟨?_, fun k y hy => ?_, fun k y hy => ?_⟩
  · rw [List.length_append, NC_append]
    have e : NC [(t, vl, vn)] = ncells t vl vn := by simp [NC]
    rw [e]
    exact ho
  · rcases get k y hy with hy | rfl
    · exact tl (h.l k y hy)
    · exact tl hl
  · rcases get k y hy with hy | rfl
    · exact nl (h.n k y hy)
    · exact nl hn
end
end Go.Proofs.YtfmdbmalmeimbaaDoor
