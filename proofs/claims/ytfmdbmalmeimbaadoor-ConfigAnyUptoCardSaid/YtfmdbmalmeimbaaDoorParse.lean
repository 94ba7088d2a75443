/- The parser in plain mathematics. -/
import Derived.Test.YtfmdbmalmeimbaaDoorTree
namespace Go.Proofs.YtfmdbmalmeimbaaDoor
open Go.RowKit
set_option maxRecDepth 100000

def isSign (t : Tk) (c : UInt8) : Bool := decide (t.kind = 4) && decide (t.text = ⟨#[c]⟩)
structure Fl where
  line : Nat
  col : Nat
  er : Int
inductive PR (α : Type) where
  | ok (a : α) (i n : Nat)
  | bad (f : Fl)
def tk0 : Tk := ⟨5, ⟨#[]⟩, 0, 0, 0⟩
def tkAt (T : List Tk) (i : Nat) : Tk := T.getD i tk0
def adv (T : List Tk) (i : Nat) : Nat := if (tkAt T i).kind = 5 then i else i + 1
def flAt (t : Tk) (er : Int) : Fl := ⟨t.line, t.col, er⟩
/-- the texts of a list, behind its bracket and not at its end -/
def listP (T : List Tk) : Nat → List ByteArray → Nat → Nat → PR (List ByteArray)
  | 0, _, _, _ => .bad ⟨0, 0, 99⟩
  | fuel + 1, acc, i, n =>
    if (tkAt T i).kind = 3 then
      if isSign (tkAt T (i + 1)) 93 = true then .ok (acc ++ [(tkAt T i).text]) (i + 2) n
      else if isSign (tkAt T (i + 1)) 44 = true then listP T fuel (acc ++ [(tkAt T i).text]) (i + 2) n
      else .bad (flAt (tkAt T (i + 1)) 8)
    else .bad (flAt (tkAt T i) 8)
def listT (T : List Tk) (i n : Nat) : PR (List ByteArray) := if isSign (tkAt T i) 93 = true then .ok [] (i + 1) n else listP T (T.length - i) [] i n
def e0 : ByteArray := ⟨#[]⟩
def nodeP (sect : Nat → Nat → Nat → PR (List Nd)) (T : List Tk) (name : ByteArray) (d i n : Nat) : PR Nd :=
  if isSign (tkAt T i) 123 = true then
    if d = 8 then .bad (flAt (tkAt T i) 4)
    else match sect (d + 1) (i + 1) n with
      | .bad f => .bad f
      | .ok l i' n' => if isSign (tkAt T i') 125 = true then .ok (.mk name 4 0 e0 [] l) (i' + 1) n' else .bad (flAt (tkAt T i') 8)
  else if isSign (tkAt T i) 61 = true then
    if isSign (tkAt T (i + 1)) 91 = true then match listT T (i + 2) n with
      | .bad f => .bad f
      | .ok l i' n' => .ok (.mk name 3 0 e0 l []) i' n'
    else if (tkAt T (i + 1)).kind = 2 then .ok (.mk name 1 (tkAt T (i + 1)).num e0 [] []) (i + 2) n
    else if (tkAt T (i + 1)).kind = 3 then .ok (.mk name 2 0 (tkAt T (i + 1)).text [] []) (i + 2) n
    else .bad (flAt (tkAt T (i + 1)) 8)
  else .bad (flAt (tkAt T i) 8)
def sectP (T : List Tk) : Nat → Nat → List Nd → Nat → Nat → PR (List Nd)
  | 0, _, _, _, _ => .bad ⟨0, 0, 99⟩
  | fuel + 1, d, acc, i, n =>
    if (tkAt T i).kind = 1 then
      if 40 < (tkAt T i).text.size then .bad (flAt (tkAt T i) 4)
      else if acc.any (fun x => decide (x.name = (tkAt T i).text)) = true then .bad (flAt (tkAt T i) 9)
      else if n = 1024 then .bad (flAt (tkAt T i) 4)
      else match nodeP (fun d i n => sectP T fuel d [] i n) T (tkAt T i).text d (i + 1) (n + 1) with
        | .bad f => .bad f
        | .ok x i' n' => sectP T fuel d (acc ++ [x]) i' n'
    else .ok acc i n
/-- the answer of Parse: nodes, position, error -/
def parseR (b : List UInt8) : List Nd × Nat × Nat × Int :=
  if (lexR b).err ≠ 0 then ([], (lexR b).line, (lexR b).col, (lexR b).err)
  else match sectP (lexR b).toks ((lexR b).toks.length + 1) 0 [] 0 0 with
    | .bad f => ([], f.line, f.col, f.er)
    | .ok l i _ => if (tkAt (lexR b).toks i).kind = 5 then (l, 0, 0, 0) else ([], (tkAt (lexR b).toks i).line, (tkAt (lexR b).toks i).col, 8)
/-- a list of tokens ends with the token that is the end -/
structure TOk (T : List Tk) : Prop where
  pos : 0 < T.length
  last : ∀ i, i < T.length → ((tkAt T i).kind = 5 ↔ i + 1 = T.length)
  small : T.length ≤ 1000000
theorem TOk.next {T : List Tk} {i : Nat} (h : TOk T) (hi : i < T.length) (hk : (tkAt T i).kind ≠ 5) : i + 1 < T.length := by
  have := h.last i hi
  have hne : i + 1 ≠ T.length := fun e => hk (this.2 e)
  omega
theorem sign_kind {t : Tk} {c : UInt8} (h : isSign t c = true) : t.kind = 4 ∧ t.text = ⟨#[c]⟩ := by
  unfold isSign at h
  simpa using h
theorem TOk.sign {T : List Tk} {i : Nat} {c : UInt8} (h : TOk T) (hi : i < T.length) (hs : isSign (tkAt T i) c = true) : i + 1 < T.length := h.next hi (by rw [(sign_kind hs).1]; decide)
theorem tkAt_get {T : List Tk} {i : Nat} (hi : i < T.length) : T[i]? = some (tkAt T i) := by
  unfold tkAt
  rw [List.getD_eq_getElem?_getD, List.getElem?_eq_getElem hi]
  rfl
/-- the parser in memory -/
structure PB (w : World) (g : Nat) (A : Option Addr) (c : Nat) (T : List Tk) (i n : Nat) : Prop where
  blk : Blk w g 78 #[.slice A T.length c, .int .i64 (i : Int), .int .i64 (n : Int)]
  row : KRow w g A T
  ok : TOk T
  hi : i < T.length
  hn : n ≤ 1024
section
variable {w w' : World} {g c i n : Nat} {A : Option Addr} {T : List Tk}
theorem KRow.only {B g : Nat} {l : List Tk} (h : KRow w B A l) (ho : Only (· = g) w w') (hB : B ≤ g) (hw : B ≤ w.heap.size) : KRow w' B A l := h.below (ho.below (B := B) hw (fun k e => by rw [e]; exact hB)) (Nat.le_refl _)
theorem PB.up (h : PB w g A c T i n) (hb : Below w.heap.size w w') : PB w' g A c T i n := ⟨h.blk.below hb h.blk.lt, h.row.below hb (Nat.le_of_lt h.blk.lt), h.ok, h.hi, h.hn⟩
theorem PB.cs (h : PB w g A c T i n) : w.cell? ⟨g, 0, none⟩ = some (.slice A T.length c) ∧ w.cell? ⟨g, 1, none⟩ = some (.int .i64 (i : Int)) ∧ w.cell? ⟨g, 2, none⟩ = some (.int .i64 (n : Int)) ∧ w.frozen? ⟨g, 1, none⟩ = false ∧ w.frozen? ⟨g, 2, none⟩ = false :=
  ⟨by rw [h.blk.cell]; rfl, by rw [h.blk.cell]; rfl, by rw [h.blk.cell]; rfl, h.blk.frozen 1, h.blk.frozen 2⟩
theorem PB.tok (h : PB w g A c T i n) : ∃ gt, A = some ⟨gt, 0, none⟩ ∧ gt < g ∧ Tk5 w gt (i * 5) (tkAt T i) := by
  obtain ⟨gt, t, e, hlt, ht, h5⟩ := h.row.at_ h.hi
  obtain rfl := Option.some.inj (ht.symm.trans (tkAt_get h.hi))
  exact ⟨gt, e, hlt, h5⟩
theorem PB.only {F : Nat → Prop} (h : PB w g A c T i n) (ho : Only F w w') (hF : ∀ k, F k → g < k) : PB w' g A c T i n :=
  ⟨h.blk.only ho (fun e => absurd (hF _ e) (Nat.lt_irrefl _)), h.row.below (ho.below (B := g) (Nat.le_of_lt h.blk.lt) (fun k hk => Nat.le_of_lt (hF k hk))) (Nat.le_refl _), h.ok, h.hi, h.hn⟩
theorem PB.grown {row : Option Nat} (h : PB w g A c T i n) (hg : w.grownBy w' row) (hr : ∀ k, row = some k → g < k) : PB w' g A c T i n :=
  h.only ((Only.refl (fun k => row = some k) w).grown hg (fun _ e => .inl e)) (fun k e => hr k e)
/-- the place moves on -/
theorem PB.set1 (h : PB w g A c T i n) {j : Nat} (hj : j < T.length) : PB (w.setCell ⟨g, 1, none⟩ (.int .i64 (j : Int))) g A c T j n := by
  have ho : Only (· = g) w (w.setCell ⟨g, 1, none⟩ (.int .i64 (j : Int))) := (Only.refl (· = g) w).setCell (p := ⟨g, 1, none⟩) (.inl rfl) _
  exact ⟨h.blk.set_ 1 (.int .i64 (j : Int)), h.row.only ho (Nat.le_refl _) (Nat.le_of_lt h.blk.lt), h.ok, hj, h.hn⟩
theorem PB.set2 (h : PB w g A c T i n) {m : Nat} (hm : m ≤ 1024) : PB (w.setCell ⟨g, 2, none⟩ (.int .i64 (m : Int))) g A c T i m := by
  have ho : Only (· = g) w (w.setCell ⟨g, 2, none⟩ (.int .i64 (m : Int))) := (Only.refl (· = g) w).setCell (p := ⟨g, 2, none⟩) (.inl rfl) _
  exact ⟨h.blk.set_ 2 (.int .i64 (m : Int)), h.row.only ho (Nat.le_refl _) (Nat.le_of_lt h.blk.lt), h.ok, h.hi, hm⟩
end
def tokC (t : Tk) : Array Value := #[.int .i64 t.kind, .string t.text, .int .i64 t.num, .int .i64 (t.line : Int), .int .i64 (t.col : Int)]
def tokV (t : Tk) : Value := .agg (tokC t)
theorem blk_two {w : World} {g : Nat} {t : TypeId} {cs : Array Value} (o : Obj) (hg : w.heap.size = g) : Blk ((w.alloc (.cells cs t)).alloc o).drew g t cs := by
  subst hg
  exact (Blk.new w t cs).below (((Below.refl _ _).al o).drew) (Blk.new w t cs).lt
end Go.Proofs.YtfmdbmalmeimbaaDoor
