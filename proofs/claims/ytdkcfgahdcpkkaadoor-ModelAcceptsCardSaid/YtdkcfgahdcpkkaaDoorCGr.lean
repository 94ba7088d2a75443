/- Groups, in plain words and in memory (printed by genGr.py). -/
import Derived.Test.YtdkcfgahdcpkkaaDoorCWords
import Derived.Test.YtdkcfgahdcpkkaaDoorCSrc
set_option linter.all false
namespace Go.Proofs.YtdkcfgahdcpkkaaDoor
open Go.RowKit
section
variable {P : Program} {fn : Func} {p q r : Tmp} {ty : TypeId}
theorem zu_ (h : fn.results = #[.cell p ty, .tmp q]) (tmps : Array Value) (w : World) (g : Nat) (t : TypeId) (cs : Array Value) (d : TypeDesc)
  (hp : tmps.getD p undef = .pointer (some ⟨g, 0, none⟩)) (hg : Blk w g t cs)
  (hu : P.underlying ty = some d) (hd : (match d with | .struct _ | .array _ _ => true | _ => false) = true) (hi : (P.info? ty).map (·.size) = some cs.size) :
  (results fn tmps).run P w = .ok (.tuple #[.agg cs, tmps.getD q undef]) w := by
 have hp' : tmps[p]?.getD undef = .pointer (some ⟨g, 0, none⟩) := by simpa using hp
 simp [results, h, hp', asAddr, run_loadVar_row w g t ty cs (0, 0) d hg hu hd hi]
end
def Kept (S : Nat → Prop) (w w' : World) : Prop := w.heap.size ≤ w'.heap.size ∧ ∀ p : Addr, S p.block → p.block < w.heap.size → w'.cell? p = w.cell? p
section
variable {w w' : World} {S S' : Nat → Prop} {v : Value}
theorem Kept.of_only {F : Nat → Prop} (ho : Only F w w') (h : ∀ g, S g → ¬ F g) : Kept S w w' := ⟨ho.size, fun _ hp hlt => ho.cell hlt (h _ hp)⟩
theorem Kept.of_below (hb : Bel w w') : Kept S w w' := Kept.of_only (Only.of_below (fun _ => False) hb) (fun _ _ h => h)
theorem Kept.same : Kept S w w := ⟨Nat.le_refl _, fun _ _ _ => rfl⟩
def LR {α : Type} (w : World) (S : Nat → Prop) (size : Nat) (a : Addr → α → Prop) (v : Value) (l : List α) : Prop :=
 ∃ A c, v = .slice A l.length c ∧ l.length ≤ c ∧ (0 < l.length → ∃ ad, A = some ad ∧ S ad.block ∧ ad.block < w.heap.size ∧ ∀ k x, l[k]? = some x → a (ad.add (k * size)) x)
theorem LR.imp {α : Type} {size : Nat} {a a' : Addr → α → Prop} {l : List α} (h : LR w S size a v l) (hs : w.heap.size ≤ w'.heap.size) (hS : ∀ g, S g → S' g) (f : ∀ p x, S p.block → p.block < w.heap.size → a p x → a' p x) : LR w' S' size a' v l := by
 obtain ⟨A, c, e, hc, hh⟩ := h
 refine ⟨A, c, e, hc, fun h0 => ?_⟩
 obtain ⟨ad, ea, hs', hlt, hcell⟩ := hh h0
 exact ⟨ad, ea, hS _ hs', Nat.lt_of_lt_of_le hlt hs, fun k x hk => f _ _ (by rw [zl_]; exact hs') (by rw [zl_]; exact hlt) (hcell k x hk)⟩
theorem LR.form {α : Type} {size : Nat} {a : Addr → α → Prop} {l : List α} (h : LR w S size a v l) : ∃ A c, v = .slice A l.length c := by obtain ⟨A, c, e, _⟩ := h; exact ⟨A, c, e⟩
theorem LR.at_ {α : Type} {size : Nat} {a : Addr → α → Prop} {l : List α} {A : Option Addr} {n c k : Nat} (h : LR w S size a (.slice A n c) l) (hk : k < l.length) : ∃ ad x, A = some ad ∧ l[k]? = some x ∧ S ad.block ∧ ad.block < w.heap.size ∧ a (ad.add (k * size)) x := by
 obtain ⟨A', c', e, hc, hh⟩ := h
 injection e with e1 e2 e3
 obtain ⟨ad, ea, hs, hlt, hcell⟩ := hh (by omega)
 have hx := List.getElem?_eq_getElem hk
 exact ⟨ad, l[k], e1.trans ea, hx, hs, hlt, hcell k _ hx⟩
theorem LR.nil {α : Type} {size : Nat} {a : Addr → α → Prop} : LR w S size a (.slice none 0 0) ([] : List α) := ⟨none, 0, rfl, Nat.le_refl _, fun h => absurd h (Nat.lt_irrefl 0)⟩
def TextC (w : World) (p : Addr) (s : ByteArray) : Prop := w.cell? p = some (.string s)
def IntC (w : World) (p : Addr) (z : Int) : Prop := w.cell? p = some (.int .i64 z)
theorem TextC.keep {p : Addr} {s : ByteArray} (h : TextC w p s) (hk : Kept S w w') (hp : S p.block) (hlt : p.block < w.heap.size) : TextC w' p s := (hk.2 p hp hlt).trans h
theorem IntC.keep {p : Addr} {s : Int} (h : IntC w p s) (hk : Kept S w w') (hp : S p.block) (hlt : p.block < w.heap.size) : IntC w' p s := (hk.2 p hp hlt).trans h
abbrev TL (w : World) (S : Nat → Prop) : Value → List ByteArray → Prop := LR w S 1 (TextC w)
abbrev IL (w : World) (S : Nat → Prop) : Value → List Int → Prop := LR w S 1 (IntC w)
theorem TL.keep {l : List ByteArray} (h : TL w S v l) (hk : Kept S w w') (hS : ∀ g, S g → S' g) : TL w' S' v l := h.imp hk.1 hS (fun _ _ hp hlt h => h.keep hk hp hlt)
theorem IL.keep {l : List Int} (h : IL w S v l) (hk : Kept S w w') (hS : ∀ g, S g → S' g) : IL w' S' v l := h.imp hk.1 hS (fun _ _ hp hlt h => h.keep hk hp hlt)
theorem TL.cell {l : List ByteArray} {A : Option Addr} {n c k : Nat} (h : TL w S (.slice A n c) l) (hk : k < l.length) : ∃ ad x, A = some ad ∧ l[k]? = some x ∧ S ad.block ∧ ad.block < w.heap.size ∧ w.cell? (ad.add k) = some (.string x) := by
 obtain ⟨ad, x, e, hx, hs, hlt, hc⟩ := h.at_ hk
 rw [Nat.mul_one] at hc
 exact ⟨ad, x, e, hx, hs, hlt, hc⟩
theorem IL.cell {l : List Int} {A : Option Addr} {n c k : Nat} (h : IL w S (.slice A n c) l) (hk : k < l.length) : ∃ ad x, A = some ad ∧ l[k]? = some x ∧ S ad.block ∧ ad.block < w.heap.size ∧ w.cell? (ad.add k) = some (.int .i64 x) := by
 obtain ⟨ad, x, e, hx, hs, hlt, hc⟩ := h.at_ hk
 rw [Nat.mul_one] at hc
 exact ⟨ad, x, e, hx, hs, hlt, hc⟩
end
structure Ar where
 vol : Bool
 on : ByteArray
 start : Int
def arA (x : Ar) : Array Value := #[.bool x.vol, .string x.on, .int .i64 x.start]
structure ArC (w : World) (p : Addr) (x : Ar) : Prop where
 c0 : w.cell? p = some (.bool x.vol)
 c1 : w.cell? ⟨p.block, p.off + 1, none⟩ = some (.string x.on)
 c2 : w.cell? ⟨p.block, p.off + 2, none⟩ = some (.int .i64 x.start)
theorem ArC.keep {w w' : World} {S : Nat → Prop} {p : Addr} {x : Ar} (h : ArC w p x) (hk : Kept S w w') (hS : S p.block) (hlt : p.block < w.heap.size) : ArC w' p x :=
 ⟨(hk.2 p hS hlt).trans h.c0, (hk.2 ⟨p.block, p.off + 1, none⟩ hS hlt).trans h.c1, (hk.2 ⟨p.block, p.off + 2, none⟩ hS hlt).trans h.c2⟩
structure Rm where
 name : ByteArray
 id : Int
 seq : Int
def rmA (x : Rm) : Array Value := #[.string x.name, .int .u64 x.id, .int .i64 x.seq]
structure RmC (w : World) (p : Addr) (x : Rm) : Prop where
 c0 : w.cell? p = some (.string x.name)
 c1 : w.cell? ⟨p.block, p.off + 1, none⟩ = some (.int .u64 x.id)
 c2 : w.cell? ⟨p.block, p.off + 2, none⟩ = some (.int .i64 x.seq)
theorem RmC.keep {w w' : World} {S : Nat → Prop} {p : Addr} {x : Rm} (h : RmC w p x) (hk : Kept S w w') (hS : S p.block) (hlt : p.block < w.heap.size) : RmC w' p x :=
 ⟨(hk.2 p hS hlt).trans h.c0, (hk.2 ⟨p.block, p.off + 1, none⟩ hS hlt).trans h.c1, (hk.2 ⟨p.block, p.off + 2, none⟩ hS hlt).trans h.c2⟩
structure Sg where
 start : Int
 len : Int
 kind : Int
 areas : List Ar
 chunk : Int
 stale : List Int
 log : ByteArray
 pool : ByteArray
 dev : Int
 mode : Int
 done : Int
def sgA (x : Sg) (v0 : Value) (v1 : Value) : Array Value := #[.int .i64 x.start, .int .i64 x.len, .int .i64 x.kind, v0, .int .i64 x.chunk, v1, .string x.log, .string x.pool, .int .i64 x.dev, .int .i64 x.mode, .int .i64 x.done]
structure SgC (w : World) (p : Addr) (x : Sg) (v0 : Value) (v1 : Value) : Prop where
 c0 : w.cell? p = some (.int .i64 x.start)
 c1 : w.cell? ⟨p.block, p.off + 1, none⟩ = some (.int .i64 x.len)
 c2 : w.cell? ⟨p.block, p.off + 2, none⟩ = some (.int .i64 x.kind)
 c3 : w.cell? ⟨p.block, p.off + 3, none⟩ = some v0
 c4 : w.cell? ⟨p.block, p.off + 4, none⟩ = some (.int .i64 x.chunk)
 c5 : w.cell? ⟨p.block, p.off + 5, none⟩ = some v1
 c6 : w.cell? ⟨p.block, p.off + 6, none⟩ = some (.string x.log)
 c7 : w.cell? ⟨p.block, p.off + 7, none⟩ = some (.string x.pool)
 c8 : w.cell? ⟨p.block, p.off + 8, none⟩ = some (.int .i64 x.dev)
 c9 : w.cell? ⟨p.block, p.off + 9, none⟩ = some (.int .i64 x.mode)
 c10 : w.cell? ⟨p.block, p.off + 10, none⟩ = some (.int .i64 x.done)
theorem SgC.keep {w w' : World} {S : Nat → Prop} {p : Addr} {x : Sg} {v0 : Value} {v1 : Value} (h : SgC w p x v0 v1) (hk : Kept S w w') (hS : S p.block) (hlt : p.block < w.heap.size) : SgC w' p x v0 v1 :=
 ⟨(hk.2 p hS hlt).trans h.c0, (hk.2 ⟨p.block, p.off + 1, none⟩ hS hlt).trans h.c1, (hk.2 ⟨p.block, p.off + 2, none⟩ hS hlt).trans h.c2, (hk.2 ⟨p.block, p.off + 3, none⟩ hS hlt).trans h.c3, (hk.2 ⟨p.block, p.off + 4, none⟩ hS hlt).trans h.c4, (hk.2 ⟨p.block, p.off + 5, none⟩ hS hlt).trans h.c5, (hk.2 ⟨p.block, p.off + 6, none⟩ hS hlt).trans h.c6, (hk.2 ⟨p.block, p.off + 7, none⟩ hS hlt).trans h.c7, (hk.2 ⟨p.block, p.off + 8, none⟩ hS hlt).trans h.c8, (hk.2 ⟨p.block, p.off + 9, none⟩ hS hlt).trans h.c9, (hk.2 ⟨p.block, p.off + 10, none⟩ hS hlt).trans h.c10⟩
def AtSg (w : World) (S : Nat → Prop) (p : Addr) (x : Sg) : Prop := ∃ v0 v1, SgC w p x v0 v1 ∧ LR w S 3 (ArC w) v0 x.areas ∧ LR w S 1 (IntC w) v1 x.stale
theorem AtSg.keep {w w' : World} {S S' : Nat → Prop} {p : Addr} {x : Sg} (h : AtSg w S p x) (hk : Kept S w w') (hS : ∀ g, S g → S' g) (hp : S p.block) (hlt : p.block < w.heap.size) : AtSg w' S' p x := by
 obtain ⟨v0, v1, hc, h0, h1⟩ := h
 exact ⟨v0, v1, hc.keep hk hp hlt, h0.imp hk.1 hS (fun _ _ hp hlt h => h.keep hk hp hlt), IL.keep h1 hk hS⟩
structure Vo where
 name : ByteArray
 id : Int
 hid : Bool
 ro : Bool
 tags : List ByteArray
 segs : List Sg
def voA (x : Vo) (v0 : Value) (v1 : Value) : Array Value := #[.string x.name, .int .u64 x.id, .bool x.hid, .bool x.ro, v0, v1]
structure VoC (w : World) (p : Addr) (x : Vo) (v0 : Value) (v1 : Value) : Prop where
 c0 : w.cell? p = some (.string x.name)
 c1 : w.cell? ⟨p.block, p.off + 1, none⟩ = some (.int .u64 x.id)
 c2 : w.cell? ⟨p.block, p.off + 2, none⟩ = some (.bool x.hid)
 c3 : w.cell? ⟨p.block, p.off + 3, none⟩ = some (.bool x.ro)
 c4 : w.cell? ⟨p.block, p.off + 4, none⟩ = some v0
 c5 : w.cell? ⟨p.block, p.off + 5, none⟩ = some v1
theorem VoC.keep {w w' : World} {S : Nat → Prop} {p : Addr} {x : Vo} {v0 : Value} {v1 : Value} (h : VoC w p x v0 v1) (hk : Kept S w w') (hS : S p.block) (hlt : p.block < w.heap.size) : VoC w' p x v0 v1 :=
 ⟨(hk.2 p hS hlt).trans h.c0, (hk.2 ⟨p.block, p.off + 1, none⟩ hS hlt).trans h.c1, (hk.2 ⟨p.block, p.off + 2, none⟩ hS hlt).trans h.c2, (hk.2 ⟨p.block, p.off + 3, none⟩ hS hlt).trans h.c3, (hk.2 ⟨p.block, p.off + 4, none⟩ hS hlt).trans h.c4, (hk.2 ⟨p.block, p.off + 5, none⟩ hS hlt).trans h.c5⟩
def AtVo (w : World) (S : Nat → Prop) (p : Addr) (x : Vo) : Prop := ∃ v0 v1, VoC w p x v0 v1 ∧ LR w S 1 (TextC w) v0 x.tags ∧ LR w S 11 (AtSg w S) v1 x.segs
theorem AtVo.keep {w w' : World} {S S' : Nat → Prop} {p : Addr} {x : Vo} (h : AtVo w S p x) (hk : Kept S w w') (hS : ∀ g, S g → S' g) (hp : S p.block) (hlt : p.block < w.heap.size) : AtVo w' S' p x := by
 obtain ⟨v0, v1, hc, h0, h1⟩ := h
 exact ⟨v0, v1, hc.keep hk hp hlt, TL.keep h0 hk hS, h1.imp hk.1 hS (fun _ _ hp hlt h => h.keep hk hS hp hlt)⟩
structure Dk where
 name : ByteArray
 id : Int
 first : Int
 ext : Int
 closed : Bool
 missing : Bool
 tags : List ByteArray
def dkA (x : Dk) (v0 : Value) : Array Value := #[.string x.name, .int .u64 x.id, .int .i64 x.first, .int .i64 x.ext, .bool x.closed, .bool x.missing, v0]
structure DkC (w : World) (p : Addr) (x : Dk) (v0 : Value) : Prop where
 c0 : w.cell? p = some (.string x.name)
 c1 : w.cell? ⟨p.block, p.off + 1, none⟩ = some (.int .u64 x.id)
 c2 : w.cell? ⟨p.block, p.off + 2, none⟩ = some (.int .i64 x.first)
 c3 : w.cell? ⟨p.block, p.off + 3, none⟩ = some (.int .i64 x.ext)
 c4 : w.cell? ⟨p.block, p.off + 4, none⟩ = some (.bool x.closed)
 c5 : w.cell? ⟨p.block, p.off + 5, none⟩ = some (.bool x.missing)
 c6 : w.cell? ⟨p.block, p.off + 6, none⟩ = some v0
theorem DkC.keep {w w' : World} {S : Nat → Prop} {p : Addr} {x : Dk} {v0 : Value} (h : DkC w p x v0) (hk : Kept S w w') (hS : S p.block) (hlt : p.block < w.heap.size) : DkC w' p x v0 :=
 ⟨(hk.2 p hS hlt).trans h.c0, (hk.2 ⟨p.block, p.off + 1, none⟩ hS hlt).trans h.c1, (hk.2 ⟨p.block, p.off + 2, none⟩ hS hlt).trans h.c2, (hk.2 ⟨p.block, p.off + 3, none⟩ hS hlt).trans h.c3, (hk.2 ⟨p.block, p.off + 4, none⟩ hS hlt).trans h.c4, (hk.2 ⟨p.block, p.off + 5, none⟩ hS hlt).trans h.c5, (hk.2 ⟨p.block, p.off + 6, none⟩ hS hlt).trans h.c6⟩
def AtDk (w : World) (S : Nat → Prop) (p : Addr) (x : Dk) : Prop := ∃ v0, DkC w p x v0 ∧ LR w S 1 (TextC w) v0 x.tags
theorem AtDk.keep {w w' : World} {S S' : Nat → Prop} {p : Addr} {x : Dk} (h : AtDk w S p x) (hk : Kept S w w') (hS : ∀ g, S g → S' g) (hp : S p.block) (hlt : p.block < w.heap.size) : AtDk w' S' p x := by
 obtain ⟨v0, hc, h0⟩ := h
 exact ⟨v0, hc.keep hk hp hlt, TL.keep h0 hk hS⟩
structure Gr where
 name : ByteArray
 id : Int
 seq : Int
 extent : Int
 next : Int
 tags : List ByteArray
 disks : List Dk
 vols : List Vo
 hist : List Rm
def grA (x : Gr) (v0 : Value) (v1 : Value) (v2 : Value) (v3 : Value) : Array Value := #[.string x.name, .int .u64 x.id, .int .i64 x.seq, .int .i64 x.extent, .int .i64 x.next, v0, v1, v2, v3]
abbrev AL (w : World) (S : Nat → Prop) : Value → List Ar → Prop := LR w S 3 (ArC w)
theorem AL.keep {w w' : World} {S S' : Nat → Prop} {v : Value} {l : List Ar} (h : AL w S v l) (hk : Kept S w w') (hS : ∀ g, S g → S' g) : AL w' S' v l := h.imp hk.1 hS (fun _ _ hp hlt h => h.keep hk hp hlt)
abbrev ML (w : World) (S : Nat → Prop) : Value → List Rm → Prop := LR w S 3 (RmC w)
theorem ML.keep {w w' : World} {S S' : Nat → Prop} {v : Value} {l : List Rm} (h : ML w S v l) (hk : Kept S w w') (hS : ∀ g, S g → S' g) : ML w' S' v l := h.imp hk.1 hS (fun _ _ hp hlt h => h.keep hk hp hlt)
abbrev SL (w : World) (S : Nat → Prop) : Value → List Sg → Prop := LR w S 11 (AtSg w S)
theorem SL.keep {w w' : World} {S S' : Nat → Prop} {v : Value} {l : List Sg} (h : SL w S v l) (hk : Kept S w w') (hS : ∀ g, S g → S' g) : SL w' S' v l := h.imp hk.1 hS (fun _ _ hp hlt h => h.keep hk hS hp hlt)
abbrev VL (w : World) (S : Nat → Prop) : Value → List Vo → Prop := LR w S 6 (AtVo w S)
theorem VL.keep {w w' : World} {S S' : Nat → Prop} {v : Value} {l : List Vo} (h : VL w S v l) (hk : Kept S w w') (hS : ∀ g, S g → S' g) : VL w' S' v l := h.imp hk.1 hS (fun _ _ hp hlt h => h.keep hk hS hp hlt)
abbrev DL (w : World) (S : Nat → Prop) : Value → List Dk → Prop := LR w S 7 (AtDk w S)
theorem DL.keep {w w' : World} {S S' : Nat → Prop} {v : Value} {l : List Dk} (h : DL w S v l) (hk : Kept S w w') (hS : ∀ g, S g → S' g) : DL w' S' v l := h.imp hk.1 hS (fun _ _ hp hlt h => h.keep hk hS hp hlt)
theorem TL.up {w w' : World} {S : Nat → Prop} {v : Value} {l : List ByteArray} (h : TL w S v l) (hb : Bel w w') : TL w' S v l := TL.keep h (.of_below hb) (fun _ h => h)
theorem IL.up {w w' : World} {S : Nat → Prop} {v : Value} {l : List Int} (h : IL w S v l) (hb : Bel w w') : IL w' S v l := IL.keep h (.of_below hb) (fun _ h => h)
theorem AL.up {w w' : World} {S : Nat → Prop} {v : Value} {l : List Ar} (h : AL w S v l) (hb : Bel w w') : AL w' S v l := AL.keep h (.of_below hb) (fun _ h => h)
theorem ML.up {w w' : World} {S : Nat → Prop} {v : Value} {l : List Rm} (h : ML w S v l) (hb : Bel w w') : ML w' S v l := ML.keep h (.of_below hb) (fun _ h => h)
theorem SL.up {w w' : World} {S : Nat → Prop} {v : Value} {l : List Sg} (h : SL w S v l) (hb : Bel w w') : SL w' S v l := SL.keep h (.of_below hb) (fun _ h => h)
theorem VL.up {w w' : World} {S : Nat → Prop} {v : Value} {l : List Vo} (h : VL w S v l) (hb : Bel w w') : VL w' S v l := VL.keep h (.of_below hb) (fun _ h => h)
theorem DL.up {w w' : World} {S : Nat → Prop} {v : Value} {l : List Dk} (h : DL w S v l) (hb : Bel w w') : DL w' S v l := DL.keep h (.of_below hb) (fun _ h => h)
abbrev grX (x : Gr) (A0 : Option Addr) (c0 : Nat) (A1 : Option Addr) (c1 : Nat) (A2 : Option Addr) (c2 : Nat) (A3 : Option Addr) (c3 : Nat) : Array Value := #[.string x.name, .int .u64 x.id, .int .i64 x.seq, .int .i64 x.extent, .int .i64 x.next, .slice A0 x.tags.length c0, .slice A1 x.disks.length c1, .slice A2 x.vols.length c2, .slice A3 x.hist.length c3]
abbrev voX (x : Vo) (A0 : Option Addr) (c0 : Nat) (A1 : Option Addr) (c1 : Nat) : Array Value := #[.string x.name, .int .u64 x.id, .bool x.hid, .bool x.ro, .slice A0 x.tags.length c0, .slice A1 x.segs.length c1]
abbrev sgX (x : Sg) (A0 : Option Addr) (c0 : Nat) (A1 : Option Addr) (c1 : Nat) : Array Value := #[.int .i64 x.start, .int .i64 x.len, .int .i64 x.kind, .slice A0 x.areas.length c0, .int .i64 x.chunk, .slice A1 x.stale.length c1, .string x.log, .string x.pool, .int .i64 x.dev, .int .i64 x.mode, .int .i64 x.done]
abbrev dkX (x : Dk) (A0 : Option Addr) (c0 : Nat) : Array Value := #[.string x.name, .int .u64 x.id, .int .i64 x.first, .int .i64 x.ext, .bool x.closed, .bool x.missing, .slice A0 x.tags.length c0]
end Go.Proofs.YtdkcfgahdcpkkaaDoor
