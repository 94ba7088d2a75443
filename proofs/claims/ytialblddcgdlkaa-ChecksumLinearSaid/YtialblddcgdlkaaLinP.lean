/- The checksum is affine: plain. -/
import Derived.Test.YtialblddcgdlkaaPlain
namespace Go.Proofs.Ytialblddcgdlkaa

theorem fd_xor (x y : W32) (b c : BitVec 8) : fd (x ^^^ y) (b ^^^ c) = fd x b ^^^ fd y c := by
  unfold fd
  rw [← sts_xor]
  congr 1
  rw [show (b ^^^ c).zeroExtend 32 = b.zeroExtend 32 ^^^ c.zeroExtend 32 from BitVec.setWidth_xor]
  exact xor4 _ _ _ _
theorem byt_xor (x y : BitVec 64) (i : Nat) : byt (x ^^^ y) i = byt x i ^^^ byt y i := by
  unfold byt
  apply BitVec.eq_of_getLsbD_eq
  intro k hk
  simp [hk]
theorem range_xor (x y : BitVec 64) : ∀ (is : List Nat) (s t : W32), (is.map (byt (x ^^^ y))).foldl fd (s ^^^ t) = (is.map (byt x)).foldl fd s ^^^ (is.map (byt y)).foldl fd t := by
  intro is
  induction is with
  | nil => intro s t; rfl
  | cons i is ih => intro s t; rw [List.map_cons, List.map_cons, List.map_cons, List.foldl_cons, List.foldl_cons, List.foldl_cons, byt_xor, fd_xor, ih]
theorem words_xor : ∀ (l : List (BitVec 64 × BitVec 64)) (s t : W32), ((l.map (fun p => p.1 ^^^ p.2)).flatMap byts).foldl fd (s ^^^ t) = ((l.map (·.1)).flatMap byts).foldl fd s ^^^ ((l.map (·.2)).flatMap byts).foldl fd t := by
  intro l
  induction l with
  | nil => intro s t; rfl
  | cons p l ih =>
    intro s t
    rw [List.map_cons, List.map_cons, List.map_cons, List.flatMap_cons, List.flatMap_cons, List.flatMap_cons, List.foldl_append, List.foldl_append, List.foldl_append]
    rw [show (byts (p.1 ^^^ p.2)).foldl fd (s ^^^ t) = (byts p.1).foldl fd s ^^^ (byts p.2).foldl fd t from range_xor p.1 p.2 _ s t]
    exact ih _ _
abbrev T3 := BitVec 64 × BitVec 64 × BitVec 64
def x0 (t : T3) : BitVec 64 := t.1
def x1 (t : T3) : BitVec 64 := t.2.1
def x2 (t : T3) : BitVec 64 := t.2.2
def x3 (t : T3) : BitVec 64 := t.1 ^^^ t.2.1 ^^^ t.2.2
theorem lin_law (l : List T3) : extW 0#32 (l.map x3) = extW 0#32 (l.map x0) ^^^ extW 0#32 (l.map x1) ^^^ extW 0#32 (l.map x2) := by
  have h1 := words_xor (l.map (fun t => (t.1 ^^^ t.2.1, t.2.2))) 0#32 ones
  have h2 := words_xor (l.map (fun t => (t.1, t.2.1))) ones ones
  simp only [List.map_map, Function.comp_def] at h1 h2
  unfold extW
  rw [nt_zero, nt_eq, nt_eq, nt_eq, nt_eq]
  have e1 : (0#32 : W32) ^^^ ones = ones := BitVec.zero_xor
  have e2 : (ones : W32) ^^^ ones = 0#32 := BitVec.xor_self
  rw [e1] at h1
  rw [e2] at h2
  show _ = _
  rw [show l.map x3 = l.map (fun t => t.1 ^^^ t.2.1 ^^^ t.2.2) from rfl, h1, h2]
  rw [show l.map x0 = l.map (fun t => t.1) from rfl, show l.map x1 = l.map (fun t => t.2.1) from rfl, show l.map x2 = l.map (fun t => t.2.2) from rfl]
  generalize ((l.map (fun t => t.1)).flatMap byts).foldl fd ones = p
  generalize ((l.map (fun t => t.2.1)).flatMap byts).foldl fd ones = q
  generalize ((l.map (fun t => t.2.2)).flatMap byts).foldl fd ones = r
  generalize ones = o
  apply BitVec.eq_of_getLsbD_eq
  intro k hk
  simp only [BitVec.getLsbD_xor]
  cases p.getLsbD k <;> cases q.getLsbD k <;> cases r.getLsbD k <;> cases o.getLsbD k <;> rfl
end Go.Proofs.Ytialblddcgdlkaa
