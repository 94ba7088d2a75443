/- Cut. -/
import Derived.Test.YtkifopombddcjaaSplit2
import Derived.Deep.RegionWith
import Derived.Deep.CutRange
namespace Go.Proofs.Ytkifopombddcjaa
open Go.RowKit

def noT : Tg := ⟨0, 0, ⟨#[]⟩, 0, false⟩
/-- a piece as a target that starts at s -/
def tgOf (l : List Tg) (s : Int) (p : Pc) : Tg := match l[p.tg.toNat]? with
  | some t => ⟨s, p.len, t.on, if emptyB t.on = true then t.off else t.off + p.at_, t.fail⟩
  | none => noT
def cutW (l : List Tg) : Int → List Pc → List Tg
  | _, [] => []
  | s, p :: ps => tgOf l s p :: cutW l (s + p.len) ps
def sumP (ps : List Pc) : Int := (ps.map Pc.len).sum
theorem cutW_len (l : List Tg) (s : Int) (ps : List Pc) : (cutW l s ps).length = ps.length := by
  induction ps generalizing s with
  | nil => rfl
  | cons p ps ih => show (cutW l (s + p.len) ps).length + 1 = _; rw [ih, List.length_cons]
theorem cutW_append (l : List Tg) (s : Int) (a b : List Pc) : cutW l s (a ++ b) = cutW l s a ++ cutW l (s + sumP a) b := by
  induction a generalizing s with
  | nil => simp [cutW, sumP]
  | cons p a ih =>
    show tgOf l s p :: cutW l (s + p.len) (a ++ b) = tgOf l s p :: cutW l (s + p.len) a ++ _
    rw [ih, List.cons_append, show s + sumP (p :: a) = s + p.len + sumP a by simp [sumP]; omega]
/-- every piece names a target of l -/
def InL (l : List Tg) (ps : List Pc) : Prop := ∀ p ∈ ps, ∃ (i : Nat) (t : Tg), p.tg = (i : Int) ∧ l[i]? = some t ∧ 0 ≤ p.at_ ∧ 1 ≤ p.len ∧ p.at_ + p.len ≤ t.len
theorem pcs_in {lo hi : Int} {l0 l : List Tg} {i : Nat} (h : ∀ j t, l[j]? = some t → l0[i + j]? = some t) : InL l0 (pcs lo hi i l) := by
  induction l generalizing i with
  | nil => intro p hp; simp [pcs] at hp
  | cons t l ih =>
    intro p hp
    rcases List.mem_append.1 (show p ∈ pc1 lo hi i t ++ pcs lo hi (i + 1) l from hp) with hp | hp
    · unfold pc1 at hp
      split at hp
      · rename_i hlt
        obtain rfl := List.mem_singleton.1 hp
        exact ⟨i, t, rfl, h 0 t rfl, by show 0 ≤ max lo t.start - t.start; omega, by show 1 ≤ min hi (t.start + t.len) - max lo t.start; omega, by show max lo t.start - t.start + (min hi (t.start + t.len) - max lo t.start) ≤ t.len; omega⟩
      · simp at hp
    · exact ih (fun j u hu => by rw [show i + 1 + j = i + (j + 1) by omega]; exact h (j + 1) u hu) p hp
theorem split_in (l : List Tg) (at_ n : Int) : InL l (splitP l at_ n) := by
  unfold splitP
  split
  · exact pcs_in (fun j t h => by rw [Nat.zero_add]; exact h)
  · intro p hp; simp at hp
theorem sumP_take {ps : List Pc} {k : Nat} {p : Pc} (h : ps[k]? = some p) : sumP (ps.take (k + 1)) = sumP (ps.take k) + p.len := by
  rw [List.take_add_one, h]
  simp [sumP]
theorem sumP_bound {l : List Tg} {ps : List Pc} (h : InL l ps) (hl : ∀ t ∈ l, t.len ≤ 16777216) : 0 ≤ sumP ps ∧ sumP ps ≤ 16777216 * (ps.length : Int) := by
  induction ps with
  | nil => simp [sumP]
  | cons p ps ih =>
    obtain ⟨i, t, _, ht, h1, h2, h3⟩ := h p (by simp)
    have := ih (fun q hq => h q (by simp [hq]))
    have := hl t (List.mem_of_getElem? ht)
    rw [show sumP (p :: ps) = p.len + sumP ps by simp [sumP], List.length_cons]
    omega
/-- a row of targets of one's own -/
theorem own_trow {base : Nat} {w : World} {v : Value} {l : List Tg} (h : w.ownsRow base 44 5 v l.length (C l)) : ∃ A c, v = .slice A l.length c ∧ TRow w w.heap.size A l := by
  have h' := h
  obtain ⟨h1, h2⟩ := h
  rcases h2 with ⟨h2, h3⟩ | ⟨g, cap, cur, rfl, hg, hh, r⟩
  · subst h2
    refine ⟨none, 0, by rw [h3], .inl ?_⟩
    cases l with
    | nil => rfl
    | cons t l => simp at h3
  · refine ⟨_, _, rfl, ?_⟩
    by_cases hl : l = []
    · exact .inl hl
    · have hpos : 0 < l.length := List.length_pos_iff.2 hl
      obtain ⟨ad, e, hlt, hc⟩ := (Reads.of_own h').2 hpos
      injection e with e
      subst e
      refine .inr ⟨g, rfl, hlt, fun k t hk => ?_⟩
      have key : ∀ j, j < 5 → ∀ u, (cells t)[j]? = some u → w.cell? ⟨g, k * 5 + j, none⟩ = some u := fun j hj u hu => by
        have := hc (k * 5 + j) u (by rw [C_at hk j hj]; exact hu)
        rw [show (⟨g, 0, none⟩ : Addr).add (k * 5 + j) = ⟨g, k * 5 + j, none⟩ by unfold Addr.add; split <;> simp_all] at this
        exact this
      exact ⟨key 0 (by omega) _ rfl, key 1 (by omega) _ rfl, key 2 (by omega) _ rfl, key 3 (by omega) _ rfl, key 4 (by omega) _ rfl⟩
structure Three (w : World) (g o : Nat) (p : Pc) : Prop where
  c0 : w.cell? ⟨g, o, none⟩ = some (.int .i64 p.tg)
  c1 : w.cell? ⟨g, o + 1, none⟩ = some (.int .i64 p.at_)
  c2 : w.cell? ⟨g, o + 2, none⟩ = some (.int .i64 p.len)
def PRow (w : World) (B : Nat) (A : Option Addr) (l : List Pc) : Prop := l = [] ∨ ∃ g, A = some ⟨g, 0, none⟩ ∧ g < B ∧ ∀ k t, l[k]? = some t → Three w g (k * 3) t
theorem PRow.below {w w' : World} {B B' : Nat} {A : Option Addr} {l : List Pc} (h : PRow w B A l) (hb : Below B' w w') (hB : B ≤ B') : PRow w' B A l := by
  rcases h with h | ⟨g, e, hg, hf⟩
  · exact .inl h
  · exact .inr ⟨g, e, hg, fun k t hk => ⟨(hb.cell (p := ⟨g, k * 3, none⟩) (by show g < B'; omega)).trans (hf k t hk).c0, (hb.cell (p := ⟨g, k * 3 + 1, none⟩) (by show g < B'; omega)).trans (hf k t hk).c1, (hb.cell (p := ⟨g, k * 3 + 2, none⟩) (by show g < B'; omega)).trans (hf k t hk).c2⟩⟩
theorem PRow.at_ {w : World} {B : Nat} {A : Option Addr} {l : List Pc} (h : PRow w B A l) {k : Nat} (hk : k < l.length) : ∃ g t, A = some ⟨g, 0, none⟩ ∧ g < B ∧ l[k]? = some t ∧ Three w g (k * 3) t := by
  rcases h with h | ⟨g, e, hg, hf⟩
  · rw [h] at hk; simp at hk
  · exact ⟨g, l[k], e, hg, List.getElem?_eq_getElem hk, hf k _ (List.getElem?_eq_getElem hk)⟩
theorem PC_at {l : List Pc} {k : Nat} {t : Pc} (h : l[k]? = some t) (j : Nat) (hj : j < 3) : (PC l)[k * 3 + j]? = (pcells t)[j]? := by
  induction l generalizing k with
  | nil => simp at h
  | cons u l ih =>
    show (pcells u ++ PC l)[k * 3 + j]? = _
    cases k with
    | zero =>
      simp at h
      subst h
      rw [Nat.zero_mul, Nat.zero_add, List.getElem?_append_left (show j < (pcells u).length from hj)]
    | succ k =>
      rw [List.getElem?_append_right (show (pcells u).length ≤ (k + 1) * 3 + j by show 3 ≤ _; omega)]
      rw [show (k + 1) * 3 + j - (pcells u).length = k * 3 + j by show (k + 1) * 3 + j - 3 = _; omega]
      exact ih (by simpa using h)
theorem own_prow {base : Nat} {w : World} {v : Value} {l : List Pc} (h : w.ownsRow base 42 3 v l.length (PC l)) : ∃ A c, v = .slice A l.length c ∧ PRow w w.heap.size A l := by
  have h' := h
  obtain ⟨h1, h2⟩ := h
  rcases h2 with ⟨h2, h3⟩ | ⟨g, cap, cur, rfl, hg, hh, r⟩
  · subst h2
    refine ⟨none, 0, by rw [h3], .inl ?_⟩
    cases l with
    | nil => rfl
    | cons t l => simp at h3
  · refine ⟨_, _, rfl, ?_⟩
    by_cases hl : l = []
    · exact .inl hl
    · have hpos : 0 < l.length := List.length_pos_iff.2 hl
      obtain ⟨ad, e, hlt, hc⟩ := (Reads.of_own h').2 hpos
      injection e with e
      subst e
      refine .inr ⟨g, rfl, hlt, fun k t hk => ?_⟩
      have key : ∀ j, j < 3 → ∀ u, (pcells t)[j]? = some u → w.cell? ⟨g, k * 3 + j, none⟩ = some u := fun j hj u hu => by
        have := hc (k * 3 + j) u (by rw [PC_at hk j hj]; exact hu)
        rw [show (⟨g, 0, none⟩ : Addr).add (k * 3 + j) = ⟨g, k * 3 + j, none⟩ by unfold Addr.add; split <;> simp_all] at this
        exact this
      exact ⟨key 0 (by omega) _ rfl, key 1 (by omega) _ rfl, key 2 (by omega) _ rfl⟩
theorem target_info : (Try.prog.info? 44).map (fun i => (i.zero, i.size, i.bytes)) = some (some (.agg #[.int .i64 0, .int .i64 0, .string ⟨#[]⟩, .int .i64 0, .bool false]), 5, 48) := by kernel_rfl
end Go.Proofs.Ytkifopombddcjaa
