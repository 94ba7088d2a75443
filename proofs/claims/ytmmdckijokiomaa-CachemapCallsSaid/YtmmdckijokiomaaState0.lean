/- The slot that Victim names: plain. What is kept while a state is made. -/
import Derived.Test.YtmmdckijokiomaaKeep
import Derived.Test.YtmmdckijokiomaaAwake
namespace Go.Proofs.Ytmmdckijokiomaa
open Go.RowKit

theorem least_spec {p : Sl → Bool} {l : List Sl} : ∀ {i k : Nat}, leastK p l i = some k → ∃ t, l[k]? = some t ∧ p t = true ∧ ∀ j u, j < i → l[j]? = some u → p u = true → t.stamp ≤ u.stamp := by
  intro i
  induction i with
  | zero => intro k h; unfold leastK at h; cases h
  | succ i ih =>
    intro k h
    cases ht : l[i]? with
    | none =>
      have h' : leastK p l i = some k := by unfold leastK at h; rw [ht] at h; exact h
      obtain ⟨t, h1, h2, h3⟩ := ih h'
      refine ⟨t, h1, h2, fun j u hj hu hp => ?_⟩
      rcases Nat.lt_succ_iff_lt_or_eq.1 hj with hj | rfl
      · exact h3 j u hj hu hp
      · rw [ht] at hu; cases hu
    | some x =>
      cases hc : (p x && lessB l (leastK p l i) x) with
      | true =>
        rw [least_take ht hc] at h
        obtain rfl := Option.some.inj h
        rw [Bool.and_eq_true] at hc
        refine ⟨x, ht, hc.1, fun j u hj hu hp => ?_⟩
        rcases Nat.lt_succ_iff_lt_or_eq.1 hj with hj | rfl
        · cases hk : leastK p l i with
          | none =>
            exact absurd hk (least_isSome hu hp i hj)
          | some k2 =>
            obtain ⟨t2, h1, h2, h3⟩ := ih hk
            have := h3 j u hj hu hp
            have hl := hc.2
            rw [hk] at hl
            unfold lessB at hl
            simp [h1] at hl
            omega
        · rw [ht] at hu; cases hu; omega
      | false =>
        rw [least_keep ht hc] at h
        obtain ⟨t, h1, h2, h3⟩ := ih h
        refine ⟨t, h1, h2, fun j u hj hu hp => ?_⟩
        rcases Nat.lt_succ_iff_lt_or_eq.1 hj with hj | rfl
        · exact h3 j u hj hu hp
        · rw [ht] at hu; obtain rfl := Option.some.inj hu
          rw [hp, h] at hc
          unfold lessB at hc
          simp [h1] at hc
          omega
/-- the class of a slot -/
def cls (t : Sl) : Int := if t.valid = false then 0 else if t.dirty = false then 1 else 2
theorem cls_cases (t : Sl) : (t.valid = false ∧ cls t = 0) ∨ (t.valid = true ∧ t.dirty = false ∧ cls t = 1) ∨ (t.valid = true ∧ t.dirty = true ∧ cls t = 2) := by
  unfold cls
  cases hv : t.valid <;> cases hd : t.dirty <;> simp
theorem vIdx_spec {st : St} (h : VP st) : ∃ (i : Nat) (t : Sl), vIdx st.slots = (i : Int) ∧ st.slots[i]? = some t ∧ ∀ (j : Nat) (u : Sl), st.slots[j]? = some u → cls t < cls u ∨ (cls u = cls t ∧ t.stamp ≤ u.stamp) := by
  have hlen := (hd_iff.1 h.hd).1
  have stamp0 : ∀ u ∈ st.slots, u.valid = false → u.stamp = 0 := fun u hu hv => by rw [(h.sl u hu).2 hv]; rfl
  cases hf : st.slots.findIdx? isV with
  | some i =>
    obtain ⟨hi, h1, _⟩ := List.findIdx?_eq_some_iff_getElem.1 hf
    have hv : (st.slots[i]).valid = false := by unfold isV at h1; simpa using h1
    refine ⟨i, st.slots[i], vIdx_some hf, List.getElem?_eq_getElem hi, fun j u hu => ?_⟩
    have s1 := stamp0 _ (List.getElem_mem hi) hv
    rcases cls_cases st.slots[i] with ⟨_, c⟩ | ⟨a, _⟩ | ⟨a, _⟩
    · rcases cls_cases u with ⟨hu', c2⟩ | ⟨_, _, c2⟩ | ⟨_, _, c2⟩
      · have := stamp0 _ (List.mem_of_getElem? hu) hu'
        exact .inr ⟨by omega, by omega⟩
      · exact .inl (by omega)
      · exact .inl (by omega)
    · rw [hv] at a; cases a
    · rw [hv] at a; cases a
  | none =>
    have hav := all_v hf
    by_cases hcl : 0 ≤ leastI pClean st.slots
    · rw [vIdx_clean hf hcl]
      unfold leastI at hcl ⊢
      cases hk : leastK pClean st.slots st.slots.length with
      | none => rw [hk] at hcl; simp [optI] at hcl
      | some k =>
        obtain ⟨t, h1, h2, h3⟩ := least_spec hk
        refine ⟨k, t, rfl, h1, fun j u hu => ?_⟩
        have hj := (List.getElem?_eq_some_iff.1 hu).1
        have ht := hav t (List.mem_of_getElem? h1)
        have hu' := hav u (List.mem_of_getElem? hu)
        unfold pClean at h2 h3
        rcases cls_cases t with ⟨a, c⟩ | ⟨_, a, c⟩ | ⟨_, a, c⟩
        · rw [ht] at a; cases a
        · rcases cls_cases u with ⟨b, d⟩ | ⟨_, b, d⟩ | ⟨_, b, d⟩
          · rw [hu'] at b; cases b
          · exact .inr ⟨by omega, h3 j u hj hu (by rw [b]; rfl)⟩
          · exact .inl (by omega)
        · rw [a] at h2; cases h2
    · rw [vIdx_all hf (by omega)]
      have hnd := leastI_neg (p := pClean) (l := st.slots) (by omega)
      unfold leastI
      cases hk : leastK pAll st.slots st.slots.length with
      | none => exact absurd hk (least_isSome (t := st.slots[0]) (List.getElem?_eq_getElem (by omega)) rfl _ (by omega))
      | some k =>
        obtain ⟨t, h1, h2, h3⟩ := least_spec hk
        refine ⟨k, t, rfl, h1, fun j u hu => ?_⟩
        have hj := (List.getElem?_eq_some_iff.1 hu).1
        have ht := hav t (List.mem_of_getElem? h1)
        have hu' := hav u (List.mem_of_getElem? hu)
        have hdt := hnd t (List.mem_of_getElem? h1)
        have hdu := hnd u (List.mem_of_getElem? hu)
        unfold pClean at hdt hdu
        simp at hdt hdu
        rcases cls_cases t with ⟨a, c⟩ | ⟨_, a, c⟩ | ⟨_, a, c⟩
        · rw [ht] at a; cases a
        · rw [hdt] at a; cases a
        · rcases cls_cases u with ⟨b, d⟩ | ⟨_, b, d⟩ | ⟨_, b, d⟩
          · rw [hu'] at b; cases b
          · rw [hdu] at b; cases b
          · exact .inr ⟨by omega, h3 j u hj hu rfl⟩
theorem clear_ok {st : St} {i : Nat} {t : Sl} (h : VP st) (ht : st.slots[i]? = some t) (hd : t.dirty = false) : clearR st (i : Int) = (⟨st.slots.set i sz, st.clock, st.missed⟩, 0) := by
  have hi := (List.getElem?_eq_some_iff.1 ht).1
  have hs : slotE st (i : Int) = 0 := by
    unfold slotE
    rw [if_pos (valid_iff.2 h), if_pos]
    unfold inB
    simp
    omega
  unfold clearR
  rw [if_neg (by rw [hs]; decide), Int.toNat_natCast, ht]
  simp only
  rw [if_neg (by rw [hd]; decide)]

/-- the blocks with which the states are made are below 14 -/
def P14 (x : Int) : Prop := x < 14
/-- on the way: x is a variable that holds a good state, y is one that holds what came of a call -/
structure XY (B sb : Nat) (w wr : World) (gx : Nat) (st : St) (a b : Value) (gy : Nat) (sty : St) (ay by' : Value) : Prop where
  x : At wr gx st a b
  y : At wr gy sty ay by'
  k : VPP P14 st
  len : st.slots.length ≤ 5
  src : SrcOk B wr sb
  only : Only (· = sb) w wr
  res : Blk wr w.heap.size 25 #[.slice none 0 0, .int .i64 0, .slice none 0 0]
  lx : w.heap.size < gx
  ly : gx < gy
theorem src_blk {B sb : Nat} {w : World} (h : SrcOk B w sb) : ∃ x, Blk w sb 55 x := by
  obtain ⟨A, n, c, zs, k, hb, _⟩ := h
  exact ⟨_, hb⟩
section
variable {B sb : Nat} {w wr w' : World} {gx gy : Nat} {st sty : St} {a b ay by' : Value}
theorem XY.up (h : XY B sb w wr gx st a b gy sty ay by') (hb : Below wr.heap.size wr w') : XY B sb w w' gx st a b gy sty ay by' :=
  ⟨h.x.up hb, h.y.up hb, h.k, h.len, h.src.below hb, h.only.next hb, h.res.below hb h.res.lt, h.lx, h.ly⟩
theorem At.srcd {g : Nat} (h : At wr g st a b) (hs : SrcOk B wr sb) (ho : Only (· = sb) wr w') : At w' g st a b := by
  obtain ⟨x, hx⟩ := src_blk hs
  exact h.only hx (by decide) (by decide) (h.blk.ne_ hx (by decide)) ho
theorem XY.srcd (h : XY B sb w wr gx st a b gy sty ay by') (hs : SrcOk B w' sb) (ho : Only (· = sb) wr w') : XY B sb w w' gx st a b gy sty ay by' := by
  obtain ⟨x, hx⟩ := src_blk h.src
  exact ⟨h.x.srcd h.src ho, h.y.srcd h.src ho, h.k, h.len, hs, h.only.trans ho, h.res.only ho (h.res.ne_ hx (by decide)), h.lx, h.ly⟩
theorem put_src {g : Nat} {x y z : Value} (h : SrcOk B wr sb) (hb : Blk wr g 25 #[x, y, z]) (hg : B ≤ g) (p q r : Value) : SrcOk B (put3 wr g p q r) sb := by
  obtain ⟨x, hx⟩ := src_blk h
  exact h.only (put3_only _ _ _ _ _) (hx.ne_ hb (by decide)) (fun k e => by subst e; exact hg)
theorem put_only {g : Nat} (h : Only (· = sb) w wr) (hg : w.heap.size ≤ g) (p q r : Value) : Only (· = sb) w (put3 wr g p q r) :=
  ((h.setCell (p := ⟨g, 0, none⟩) (.inr hg) p).setCell (p := ⟨g, 1, none⟩) (.inr hg) q).setCell (p := ⟨g, 2, none⟩) (.inr hg) r
theorem XY.putY (h : XY B sb w wr gx st a b gy sty ay by') {st2 : St} {a2 b2 : Value} (hB : B ≤ w.heap.size) (hs : SV wr wr.heap.size st2 a2 b2) (ht : Typ wr a2 b2) : XY B sb w (put3 wr gy a2 (.int .i64 st2.clock) b2) gx st a b gy st2 a2 b2 :=
  ⟨h.x.other h.y.blk (Nat.ne_of_lt h.ly) _ _ _, h.y.set hs ht, h.k, h.len, put_src h.src h.y.blk (by have := h.lx; have := h.ly; omega) _ _ _, put_only h.only (by have := h.lx; have := h.ly; omega) _ _ _,
    h.res.only (put3_only _ _ _ _ _) (by have := h.lx; have := h.ly; omega), h.lx, h.ly⟩
theorem XY.putX (h : XY B sb w wr gx st a b gy sty ay by') {st2 : St} {a2 b2 : Value} (hB : B ≤ w.heap.size) (hs : SV wr wr.heap.size st2 a2 b2) (ht : Typ wr a2 b2) (hk : VPP P14 st2) (hl : st2.slots.length ≤ 5) : XY B sb w (put3 wr gx a2 (.int .i64 st2.clock) b2) gx st2 a2 b2 gy sty ay by' :=
  ⟨h.x.set hs ht, h.y.other h.x.blk (Nat.ne_of_gt h.ly) _ _ _, hk, hl, put_src h.src h.x.blk (by have := h.lx; omega) _ _ _, put_only h.only (by have := h.lx; omega) _ _ _,
    h.res.only (put3_only _ _ _ _ _) (by have := h.lx; omega), h.lx, h.ly⟩
end
end Go.Proofs.Ytmmdckijokiomaa
