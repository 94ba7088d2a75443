/- Split. -/
import Derived.Test.YtkifopombddcjaaFind
namespace Go.Proofs.Ytkifopombddcjaa
open Go.RowKit

/-- a piece: target, sector in it, length -/
structure Pc where
  tg : Int
  at_ : Int
  len : Int
def pcells (p : Pc) : List Value := [.int .i64 p.tg, .int .i64 p.at_, .int .i64 p.len]
def PC (l : List Pc) : List Value := l.flatMap pcells
theorem PC_append (a b : List Pc) : PC (a ++ b) = PC a ++ PC b := by simp [PC]
theorem PC_len (l : List Pc) : (PC l).length = l.length * 3 := by
  induction l with
  | nil => rfl
  | cons t l ih => show (pcells t ++ PC l).length = _; rw [List.length_append, ih, List.length_cons]; show 3 + _ = _; omega
/-- the piece of target t, number i, within the sectors lo to hi -/
def pc1 (lo hi : Int) (i : Nat) (t : Tg) : List Pc := if max lo t.start < min hi (t.start + t.len) then [⟨i, max lo t.start - t.start, min hi (t.start + t.len) - max lo t.start⟩] else []
def pcs (lo hi : Int) : Nat → List Tg → List Pc
  | _, [] => []
  | i, t :: l => pc1 lo hi i t ++ pcs lo hi (i + 1) l
theorem pcs_append (lo hi : Int) (i : Nat) (a b : List Tg) : pcs lo hi i (a ++ b) = pcs lo hi i a ++ pcs lo hi (i + a.length) b := by
  induction a generalizing i with
  | nil => simp [pcs]
  | cons t a ih =>
    show pc1 lo hi i t ++ pcs lo hi (i + 1) (a ++ b) = (pc1 lo hi i t ++ pcs lo hi (i + 1) a) ++ _
    rw [ih, List.append_assoc, List.length_cons, show i + 1 + a.length = i + (a.length + 1) by omega]
theorem pcs_none {lo hi s : Int} {l : List Tg} (i : Nat) (h : OkL s l) (hs : hi ≤ s) : pcs lo hi i l = [] := by
  induction l generalizing i s with
  | nil => rfl
  | cons t l ih =>
    obtain ⟨h1, h2⟩ := (okL_cons s t l).1 h
    have e := h1.start
    have e1 := h1.len1
    show pc1 lo hi i t ++ pcs lo hi (i + 1) l = []
    rw [ih (i + 1) h2 (by omega), List.append_nil]
    unfold pc1
    rw [if_neg (by omega)]
theorem pcs_same {lo hi hi2 s : Int} {l : List Tg} (i : Nat) (h : OkL s l) (h1 : s + sumL l ≤ hi) (h2 : s + sumL l ≤ hi2) : pcs lo hi i l = pcs lo hi2 i l := by
  induction l generalizing i s with
  | nil => rfl
  | cons t l ih =>
    obtain ⟨h3, h4⟩ := (okL_cons s t l).1 h
    have e := h3.start
    have hp := (okL_pos h4).1
    rw [sumL_cons] at h1 h2
    show pc1 lo hi i t ++ pcs lo hi (i + 1) l = pc1 lo hi2 i t ++ pcs lo hi2 (i + 1) l
    rw [ih (i + 1) h4 (by omega) (by omega)]
    unfold pc1
    rw [show min hi (t.start + t.len) = t.start + t.len by omega, show min hi2 (t.start + t.len) = t.start + t.len by omega]
/-- one piece more -/
theorem pcs_step {lo x y : Int} {l : List Tg} {i : Nat} {t : Tg} (h : OkL 0 l) (ht : l[i]? = some t) (hx : x = max lo t.start) (hxe : x < t.start + t.len) (hxy : x < y) (hy : y ≤ t.start + t.len) :
    pcs lo y 0 l = pcs lo x 0 l ++ [⟨i, x - t.start, y - x⟩] := by
  have hl : l = l.take i ++ t :: l.drop (i + 1) := by rw [← drop_at ht, List.take_append_drop]
  have hi : i < l.length := (List.getElem?_eq_some_iff.1 ht).1
  have hs := (ok_at h ht).start
  have hok := (okL_append 0 (l.take i) (l.drop i)).1 (by rw [List.take_append_drop]; exact h)
  rw [drop_at ht, okL_cons] at hok
  have hlen : (l.take i).length = i := by rw [List.length_take]; omega
  have key : ∀ z : Int, pcs lo z 0 l = pcs lo z 0 (l.take i) ++ (pc1 lo z i t ++ pcs lo z (i + 1) (l.drop (i + 1))) := fun z => by
    conv => lhs; rw [hl]
    rw [pcs_append, hlen, Nat.zero_add]
    rfl
  rw [key y, key x, pcs_none (i + 1) hok.2.2 (show y ≤ _ by omega), pcs_none (i + 1) hok.2.2 (show x ≤ _ by omega), pcs_same 0 hok.1 (show 0 + sumL (l.take i) ≤ y by omega) (show 0 + sumL (l.take i) ≤ x by omega)]
  unfold pc1
  rw [if_pos (by omega), if_neg (by omega), show max lo t.start = x by omega, show min y (t.start + t.len) = y by omega]
  simp
theorem piece_info : (Try.prog.info? 42).map (fun i => (i.zero, i.size, i.bytes)) = some (some (.agg #[.int .i64 0, .int .i64 0, .int .i64 0]), 3, 24) := by kernel_rfl
end Go.Proofs.Ytkifopombddcjaa
