/- The scanner's step: a quoted text. -/
import Derived.Test.YtfmdbmalmeimbaaDoorWordS
import Derived.Laws.IdiomStrings
import Derived.Laws.BytesArg
namespace Go.Proofs.YtfmdbmalmeimbaaDoor
open Go.RowKit
set_option maxRecDepth 100000

/-- bytes as values -/
def U (l : List UInt8) : List Value := l.map (fun c => Value.int .u8 (c.toNat : Int))
theorem U_append (a b : List UInt8) : U (a ++ b) = U a ++ U b := by simp [U]
theorem U_len (a : List UInt8) : (U a).length = a.length := by simp [U]
theorem byte_info : (Tryd.prog.info? 5).map (fun i => (i.zero, i.size, i.bytes)) = some (some (.int .u8 0), 1, 1) := by kernel_rfl
theorem conv_row {base : Nat} {w : World} {A : Option Addr} {c : Nat} {l : List UInt8} (h : w.ownsRow base 5 1 (.slice A l.length c) l.length (U l)) :
    (convert 63 9 (.slice A l.length c)).run Tryd.prog w = .ok (.string ⟨l.toArray⟩) w := by
  have hr := Reads.of_own h
  cases A with
  | none =>
    have hl : l = [] := by
      rcases Nat.eq_zero_or_pos l.length with h0 | h0
      · exact List.eq_nil_of_length_eq_zero h0
      · obtain ⟨ad, e, _⟩ := hr.2 h0
        cases e
    subst hl
    exact run_convert_bytes_nil (P := Tryd.prog) w 63 5 Tryd.underlying63 Tryd.underlying5 0 c 9 Tryd.underlying9
  | some ad =>
    refine run_convert_bytes_back w 63 9 5 ad c l Tryd.underlying63 Tryd.underlying5 Tryd.underlying9 (fun j hj => ?_)
    obtain ⟨ad', e, _, hc⟩ := hr.2 (by omega)
    injection e with e
    subst e
    exact hc j _ (by simp [U, List.getElem?_eq_getElem hj])
theorem txt_nil (acc : List UInt8) : txt [] acc = none := by rw [txt.eq_def]
theorem txt_end {c : UInt8} {r acc : List UInt8} (h : c.toNat = 34) : txt (c :: r) acc = some (acc, 1) := by rw [txt.eq_def]; simp only [if_pos h]
theorem txt_bad {c : UInt8} {r acc : List UInt8} (h : c.toNat < 32 ∨ 126 < c.toNat) : txt (c :: r) acc = none := by
  rw [txt.eq_def]; simp only; rw [if_neg (by omega), if_pos h]
theorem txt_plain {c : UInt8} {r acc : List UInt8} (h1 : c.toNat ≠ 34) (h2 : ¬ (c.toNat < 32 ∨ 126 < c.toNat)) (h3 : c.toNat ≠ 92) : txt (c :: r) acc = (txt r (acc ++ [c])).map (fun x => (x.1, x.2 + 1)) := by
  conv => lhs; rw [txt.eq_def]
  simp only; rw [if_neg h1, if_neg h2, if_neg h3]
theorem txt_esc0 {c : UInt8} {acc : List UInt8} (h : c.toNat = 92) : txt [c] acc = none := by
  rw [txt.eq_def]; simp only; rw [if_neg (by omega), if_neg (by omega), if_pos h]
theorem txt_esc {c d : UInt8} {r acc : List UInt8} (h : c.toNat = 92) (hd : d.toNat = 34 ∨ d.toNat = 92) : txt (c :: d :: r) acc = (txt r (acc ++ [d])).map (fun x => (x.1, x.2 + 2)) := by
  conv => lhs; rw [txt.eq_def]
  simp only; rw [if_neg (by omega), if_neg (by omega), if_pos h, if_pos hd]
theorem txt_escn {c d : UInt8} {r acc : List UInt8} (h : c.toNat = 92) (hd : d.toNat = 110) : txt (c :: d :: r) acc = (txt r (acc ++ [10])).map (fun x => (x.1, x.2 + 2)) := by
  conv => lhs; rw [txt.eq_def]
  simp only; rw [if_neg (by omega), if_neg (by omega), if_pos h, if_neg (by omega), if_pos hd]
theorem txt_escx {c d : UInt8} {r acc : List UInt8} (h : c.toNat = 92) (h1 : d.toNat ≠ 34) (h2 : d.toNat ≠ 92) (h3 : d.toNat ≠ 110) : txt (c :: d :: r) acc = none := by
  rw [txt.eq_def]
  simp only; rw [if_neg (by omega), if_neg (by omega), if_pos h, if_neg (by omega), if_neg h3]
/-- the text so far: bytes up to j are read -/
def TxtAt (b : List UInt8) (i j : Nat) (acc : List UInt8) : Prop := txt (b.drop (i + 1)) [] = (txt (b.drop j) acc).map (fun x => (x.1, x.2 + (j - (i + 1))))
theorem TxtAt.start (b : List UInt8) (i : Nat) : TxtAt b i (i + 1) [] := by
  unfold TxtAt
  rw [Nat.sub_self]
  cases txt (b.drop (i + 1)) [] <;> rfl
theorem TxtAt.next {b : List UInt8} {i j n : Nat} {acc acc' : List UInt8} (h : TxtAt b i j acc) (hj : i + 1 ≤ j) (hn : txt (b.drop j) acc = (txt (b.drop (j + n)) acc').map (fun x => (x.1, x.2 + n))) : TxtAt b i (j + n) acc' := by
  unfold TxtAt at h ⊢
  rw [h, hn, Option.map_map]
  congr 1
  funext x
  simp only [Function.comp]
  congr 1
  omega
theorem TxtAt.none {b : List UInt8} {i j : Nat} {acc : List UInt8} (h : TxtAt b i j acc) (hn : txt (b.drop j) acc = none) : textS (b.drop (i + 1)) = .bad 8 := by
  unfold TxtAt at h
  unfold textS
  rw [h, hn]
  rfl
theorem TxtAt.some {b : List UInt8} {i j : Nat} {acc : List UInt8} (h : TxtAt b i j acc) (hj : i + 1 ≤ j) (hn : txt (b.drop j) acc = some (acc, 1)) : textS (b.drop (i + 1)) = .tok 3 acc 0 (j + 1 - i) := by
  unfold TxtAt at h
  unfold textS
  rw [h, hn]
  show St.tok 3 acc 0 (1 + (1 + (j - (i + 1)))) = _
  congr 1
  omega
end Go.Proofs.YtfmdbmalmeimbaaDoor
