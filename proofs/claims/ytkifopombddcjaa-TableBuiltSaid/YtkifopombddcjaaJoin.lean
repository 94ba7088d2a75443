/- Clone and Join. -/
import Derived.Test.YtkifopombddcjaaCut2
namespace Go.Proofs.Ytkifopombddcjaa
open Go.RowKit

theorem own_fresh (w : World) (e : TypeId) (size : Nat) : (w.alloc (.cells #[] e)).ownsRow w.heap.size e size (.slice (some ⟨w.heap.size, 0, none⟩) 0 0) 0 [] :=
  ⟨by simp, .inr ⟨w.heap.size, 0, #[], rfl, Nat.le_refl _, Array.getElem?_push_size, Nat.le_refl _, by unfold maxLen; omega, by simp, by simp⟩⟩
theorem trow_reads {w : World} {B : Nat} {A : Option Addr} {l : List Tg} (h : TRow w B A l) : Reads w B 5 A l.length (C l) := by
  rcases h with h | ⟨g, e, hg, hf⟩
  · subst h; exact Reads.none_
  · subst e
    refine ⟨C_len l, fun _ => ⟨_, rfl, hg, fun j u hu => ?_⟩⟩
    have hj : j < l.length * 5 := by rw [← C_len]; exact (List.getElem?_eq_some_iff.1 hu).1
    have hk : j / 5 < l.length := by omega
    have h5 := hf (j / 5) _ (List.getElem?_eq_getElem hk)
    have hc := C_at (List.getElem?_eq_getElem hk) (j % 5) (by omega)
    rw [show j / 5 * 5 + j % 5 = j by omega, hu] at hc
    rw [show (⟨g, 0, none⟩ : Addr).add j = ⟨g, j, none⟩ by unfold Addr.add; split <;> simp_all]
    rw [show j = j / 5 * 5 + j % 5 by omega]
    have hr : j % 5 = 0 ∨ j % 5 = 1 ∨ j % 5 = 2 ∨ j % 5 = 3 ∨ j % 5 = 4 := by omega
    rcases hr with hr | hr | hr | hr | hr <;> rw [hr] at hc ⊢ <;> simp [cells] at hc <;> subst hc
    · exact h5.c0
    · exact h5.c1
    · exact h5.c2
    · exact h5.c3
    · exact h5.c4
theorem C_one (l : List Tg) : ∀ u ∈ C l, u.oneCell' = true := by
  intro u hu
  unfold C at hu
  obtain ⟨t, _, ht⟩ := List.mem_flatMap.1 hu
  simp [cells] at ht
  rcases ht with rfl | rfl | rfl | rfl | rfl <;> rfl
/-- a call returns a row of targets of its own -/
def RowRet (ts : List Tg) (w : World) (e : Ending) (w' : World) : Prop := ∃ v, e = .returned v ∧ w'.ownsRow w.heap.size 44 5 v ts.length (C ts) ∧ Below w.heap.size w w'

set_option maxHeartbeats 1000000 in
theorem clone_any (A : Option Addr) (c : Nat) (l : List Tg) (w : World) (B : Nat) (hB : B ≤ w.heap.size) (hl : l.length ≤ 1000) (h : TRow w B A l) :
    Calls Try.prog 29 #[.slice A l.length c] w (RowRet l w) := by
  have hrd := trow_reads h
  cases A with
  | none =>
    have hn : l = [] := by
      rcases h with h | ⟨g, e, _⟩
      · exact h
      · cases e
    subst hn
    have hnil : ∀ w' : World, (binOp .eql 25 (.slice none 0 c) (.slice none 0 0)).run Try.prog w' = .ok (.bool true) w' := fun w' => Lib.run_eql_slice_nil w' 25 44 none 0 c 0 0 Try.underlying25
    clear h hrd
    show Calls Try.prog _ #[.slice none 0 c] w _
    go_enter Try.func29, Try.ntmps29
    go_wp2_with fail
    go_ret
    exact ⟨_, rfl, World.ownsRow_nil _ _ _ _, Below.refl _ _⟩
  | some ad =>
    have HR := Lib.hid hrd
    clear h hrd
    have hnil : ∀ w' : World, (binOp .eql 25 (.slice (some ad) l.length c) (.slice none 0 0)).run Try.prog w' = .ok (.bool false) w' := fun w' => Lib.run_eql_slice_nil w' 25 44 (some ad) l.length c 0 0 Try.underlying25
    obtain ⟨i0, hi0, hz0, hz1, hz2⟩ := info_parts target_info
    go_enter Try.func29, Try.ntmps29
    have HRA := Lib.hid (show Reads (w.alloc (.cells #[] 44)) B 5 (some ad) l.length (C l) from HR.out.only (F := fun _ => False) ((Only.refl _ _).alloc _) hB (fun _ h => h.elim))
    go_wp2_with (at_builtin; refine wpList_append_any _ rfl _ _ 25 rfl w.heap.size 44 i0 _ 5 48 Try.underlying25 hi0 hz0 hz1 hz2 rfl (by decide) _ 0 [] rfl (own_fresh w _ _) B (some ad) l.length c (C l) rfl HRA.out (C_one l) (by unfold maxLen; omega) (by omega) (by simp) ?_; intro v' w1 hown' hgrow _)
    go_ret
    refine ⟨_, rfl, ?_, ((Below.refl _ _).al _).grown hgrow (by simp) (fun k hk => Nat.le_of_eq (Option.some.inj hk))⟩
    simpa using hown'

def sh (s : Int) (t : Tg) : Tg := ⟨t.start + s, t.len, t.on, t.off, t.fail⟩
def joinE (a b : List Tg) : Int := if checkE a ≠ 0 then checkE a else if checkE b ≠ 0 then checkE b else if 64 < a.length + b.length then 4 else 0
def joinT (a b : List Tg) : List Tg := if joinE a b = 0 then a ++ b.map (sh (sumL a)) else []
theorem sum_sh (s : Int) (l : List Tg) : sumL (l.map (sh s)) = sumL l := by
  induction l with
  | nil => rfl
  | cons t l ih => rw [List.map_cons, sumL_cons, sumL_cons, ih]; rfl
/-- where the joined targets end -/
theorem end_join {a b : List Tg} (ha : OkL 0 a) (hb : OkL 0 b) (k : Nat) (hk : k ≤ b.length) : endL (a ++ (b.take k).map (sh (sumL a))) = sumL a + sumL (b.take k) := by
  cases k with
  | zero => rw [List.take_zero, List.map_nil, List.append_nil, endL_zero ha, sumL_nil]; omega
  | succ k =>
    have ht : b[k]? = some b[k] := List.getElem?_eq_getElem (by omega)
    rw [List.take_add_one, ht]
    show endL (a ++ (b.take k ++ [b[k]]).map (sh (sumL a))) = _
    rw [List.map_append, ← List.append_assoc]
    show endL (_ ++ [sh (sumL a) b[k]]) = _
    rw [endL_snoc]
    have := end_at hb ht
    rw [sumL_take ht] at this
    show b[k].start + sumL a + b[k].len = sumL a + sumL (b.take k ++ [b[k]])
    rw [sumL_append, sumL_cons, sumL_nil]
    omega
end Go.Proofs.Ytkifopombddcjaa
