/- Limits, in plain mathematics: sections within sections. -/
import Derived.Test.YtfmdbmalmeimbaaDoorMNodes
namespace Go.Proofs.YtfmdbmalmeimbaaDoor
open Go.RowKit
set_option maxRecDepth 100000

/-- the lexer by fuel: the kernel can run it -/
def lexF : Nat → List UInt8 → Nat → List Tk → Res
  | 0, b, _, out => ⟨out ++ [⟨5, ⟨#[]⟩, 0, (posAt b b.length).1, (posAt b b.length).2⟩], 0, 0, 0⟩
  | f + 1, b, i, out =>
    if i < b.length then
      match stepD (b.drop i) with
      | .skip n => if 0 < n then lexF f b (i + n) out else ⟨[], 0, 0, 99⟩
      | .tok kind text num n => if 0 < n then lexF f b (i + n) (out ++ [⟨kind, ⟨text.toArray⟩, num, (posAt b i).1, (posAt b i).2⟩]) else ⟨[], 0, 0, 99⟩
      | .bad e => ⟨[], (posAt b i).1, (posAt b i).2, e⟩
    else ⟨out ++ [⟨5, ⟨#[]⟩, 0, (posAt b b.length).1, (posAt b b.length).2⟩], 0, 0, 0⟩
theorem lexF_eq (b : List UInt8) : ∀ (f i : Nat) (out : List Tk), b.length - i ≤ f → lexW b i out = lexF f b i out := by
  intro f
  induction f with
  | zero =>
    intro i out h
    rw [lexW_end (by omega)]
    rfl
  | succ f ih =>
    intro i out h
    unfold lexF
    by_cases hi : i < b.length
    · rw [if_pos hi, lexW, dif_pos hi]
      cases stepD (b.drop i) with
      | skip n =>
        by_cases hn : 0 < n
        · simp only [dif_pos hn, if_pos hn]
          exact ih _ _ (by omega)
        · simp only [dif_neg hn, if_neg hn]
      | tok k t nu n =>
        by_cases hn : 0 < n
        · simp only [dif_pos hn, if_pos hn]
          exact ih _ _ (by omega)
        · simp only [dif_neg hn, if_neg hn]
      | bad e => rfl
    · rw [if_neg hi, lexW_end hi]
def lexRF (b : List UInt8) : Res := if 8192 < b.length then ⟨[], 1, 1, 4⟩ else lexF b.length b 0 []
theorem lexRF_eq (b : List UInt8) : lexR b = lexRF b := by
  unfold lexR lexRF
  split
  · rfl
  · exact lexF_eq b _ _ _ (by omega)
def opens : Nat → List UInt8
  | 0 => []
  | k + 1 => opens k ++ [97, 123]
def shuts : Nat → List UInt8
  | 0 => []
  | k + 1 => shuts k ++ [125]
/-- what Parse answers of k sections within one another: position and error -/
def deepA (k : Nat) : Nat × Nat × Int :=
  if (lexRF (opens k ++ shuts k)).err ≠ 0 then ((lexRF (opens k ++ shuts k)).line, (lexRF (opens k ++ shuts k)).col, (lexRF (opens k ++ shuts k)).err)
  else match sectP (lexRF (opens k ++ shuts k)).toks ((lexRF (opens k ++ shuts k)).toks.length + 1) 0 [] 0 0 with
    | .bad f => (f.line, f.col, f.er)
    | .ok _ i _ => if (tkAt (lexRF (opens k ++ shuts k)).toks i).kind = 5 then (0, 0, 0) else ((tkAt (lexRF (opens k ++ shuts k)).toks i).line, (tkAt (lexRF (opens k ++ shuts k)).toks i).col, 8)
theorem deepA_eq (k : Nat) : (parseR (opens k ++ shuts k)).2 = deepA k := by
  unfold parseR deepA
  rw [lexRF_eq]
  split
  · rfl
  · split
    · rename_i h; rw [h]
    · rename_i h; rw [h]; simp only; split <;> rfl
theorem deep_cases : ∀ k, k < 14 → deepA k = if k ≤ 8 then (0, 0, 0) else (1, 18, 4) := by
  decide +kernel
end Go.Proofs.YtfmdbmalmeimbaaDoor
