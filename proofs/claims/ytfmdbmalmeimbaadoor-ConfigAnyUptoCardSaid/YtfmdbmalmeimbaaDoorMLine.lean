/- Merged: Quotable, Form, Bld, Shelf, Line. -/
import Derived.Test.YtfmdbmalmeimbaaDoorTree
import Derived.Test.YtfmdbmalmeimbaaDoorPLex
import Derived.Test.YtfmdbmalmeimbaaDoorMSame
import Derived.Maps.Own
import Derived.Maps.OwnOps
import Derived.Maps.OwnSet
import Derived.Maps.Views
import Derived.StringKeys
import Derived.Test.YtfmdbmalmeimbaaDoorQuote
import Derived.Test.YtfmdbmalmeimbaaDoorOnly
import Derived.Test.YtfmdbmalmeimbaaDoorCell
import Derived.Lib.Builder
import Derived.Lib.AppendStr
import Derived.Lib.UnsafeStr
import Derived.Shelf.RegionOpen
import Derived.Defers
import Derived.Shelf.Strings.OnBuilder
import Derived.Shelf.LaysM
import Derived.Shelf.Strconv.Itoa3
import Derived.Shelf.Strings.Repeat
import Derived.Test.YtfmdbmalmeimbaaDoorProg
import Derived.Deep.RegionHeld3
/- quotable, nameable. -/
namespace Go.Proofs.YtfmdbmalmeimbaaDoor
open Go.RowKit
set_option maxRecDepth 100000

def qokT (s : ByteArray) : Bool := s.data.toList.all qok
theorem quoteV_ok {s : ByteArray} (h : qokT s = true) : quoteV s.data.toList = .tuple #[.string ⟨(quoteL s.data.toList).toArray⟩, .int .i64 0] := if_pos h
theorem quoteV_no {s : ByteArray} (h : qokT s = false) : quoteV s.data.toList = .tuple #[.string ⟨#[]⟩, .int .i64 2] := if_neg (by rw [show s.data.toList.all qok = qokT s from rfl, h]; decide)
set_option maxHeartbeats 4000000 in
theorem cquotable_any {w : World} {S : Nat → Prop} {A : Option Addr} {c : Nat} {l : List ByteArray} (hl : TL w S (.slice A l.length c) l) (hn : l.length ≤ 1000000) (hsz : ∀ s ∈ l, s.size ≤ 2000000) {q : Bool} (hq : l.all qokT = q) :
    Calls Tryd.prog 56 #[.slice A l.length c] w (Ret (.bool q) w) := by
  have HL := Lib.hid hl
  have HQ := Lib.hid hq
  have HZ := Lib.hid hsz
  clear hl hq hsz
  go_enter Tryd.func56, Tryd.ntmps56
  go_wp2_with fail
  go_loopw [9] (fun v wr => ∃ k : Nat, k ≤ l.length ∧ v = .int .i64 (k : Int) ∧ (∀ x ∈ l.take k, qokT x = true) ∧ Below w.heap.size w wr) (fun v _ => l.length - (intOf v).toNat)
  case atStart => exact ⟨0, by omega, rfl, by simp, Below.refl _ _⟩
  case round =>
    obtain ⟨k, hk, rfl, hx, hbw⟩ := hrel
    have HX := Lib.hid hx
    have HB := Lib.hid hbw
    clear hx hbw
    by_cases hlt : k < l.length
    · have j0 : (k : Int) < (l.length : Int) := by omega
      have j1 : (0 : Int) ≤ (k : Int) := by omega
      obtain ⟨ad, x, rfl, hx, had, a0⟩ := (HL.out.up HB.out).at_ hlt
      have HXX := Lib.hid hx
      have hxm := List.mem_of_getElem? hx
      cases hqx : qokT x with
      | true =>
        have HQX := Lib.hid (quote_any x wr (HZ.out x hxm))
        rw [quoteV_ok hqx] at HQX
        have HN := Lib.hid (show ∀ y ∈ l.take (k + 1), qokT y = true from fun y hy => by
          obtain ⟨hk', e⟩ := List.getElem?_eq_some_iff.1 HXX.out
          rw [List.take_succ_eq_append_getElem hk', e] at hy
          rcases List.mem_append.1 hy with hy | hy
          · exact HX.out y hy
          · simp at hy; rw [hy]; exact hqx)
        clear hx hqx hxm
        go_wp2_with fail
        refine HQX.out.mono ?_
        rintro e w5 ⟨rfl, hb5⟩
        have HB5 := Lib.hid (HB.out.next hb5)
        clear hb5 a0
        go_wp2_with fail
        exact ⟨⟨k + 1, by omega, by go_num, HN.out, HB5.out⟩, by simp [intOf]; omega⟩
      | false =>
        have HQX := Lib.hid (quote_any x wr (HZ.out x hxm))
        rw [quoteV_no hqx] at HQX
        have HE := Lib.hid (show q = false by rw [← HQ.out, List.all_eq_false]; exact ⟨x, hxm, by rw [hqx]; decide⟩)
        clear hx hqx hxm
        go_wp2_with fail
        refine HQX.out.mono ?_
        rintro e w5 ⟨rfl, hb5⟩
        have HB5 := Lib.hid (HB.out.next hb5)
        clear hb5 a0
        go_wp2_with fail
        go_ret
        exact ⟨by rw [HE.out]; rfl, HB5.out⟩
    · obtain rfl : k = l.length := by omega
      have HE := Lib.hid (show q = true by rw [← HQ.out, List.all_eq_true]; have h := HX.out; rw [List.take_length] at h; exact h)
      go_wp2_with fail
      go_ret
      exact ⟨by rw [HE.out]; rfl, HB.out⟩
/-- a text that is one name -/
def nameT (s : ByteArray) : Bool := decide (s.size ≠ 0) && decide (s.size ≤ 40) && decide ((lexR s.data.toList).err = 0) && decide ((lexR s.data.toList).toks.length = 2) && decide ((tkAt (lexR s.data.toList).toks 0).kind = 1) && decide ((tkAt (lexR s.data.toList).toks 0).text = s)
set_option maxHeartbeats 4000000 in
theorem nameable_any (s : ByteArray) (w : World) {q : Bool} (hq : nameT s = q) : Calls Tryd.prog 55 #[.string s] w (Ret (.bool q) w) := by
  have HQ := Lib.hid hq
  have hls : s.toList.length = s.size := by rw [ByteArray.toList_eq]; exact size_list s
  by_cases h0 : s.toList = []
  · have HE := Lib.hid (show q = false by rw [← hq]; unfold nameT; rw [show s.size = 0 by rw [← hls, h0]; rfl]; rfl)
    have h1 : s.toList.isEmpty = true := by rw [h0]; rfl
    clear hq hls
    go_enter Tryd.func55, Tryd.ntmps55
    go_wp2_with fail
    go_ret
    exact ⟨by rw [HE.out]; rfl, Below.refl _ _⟩
  have h1 : s.toList.isEmpty = false := by
    cases h : s.toList.isEmpty with
    | false => rfl
    | true => exact absurd (List.isEmpty_iff.1 h) h0
  by_cases h40 : 40 < s.size
  · have HE := Lib.hid (show q = false by rw [← hq]; unfold nameT; rw [decide_eq_false (show ¬ s.size ≤ 40 by omega)]; simp)
    have h41 : (40 : Int) < (s.size : Int) := by omega
    clear hq hls h0
    go_enter Tryd.func55, Tryd.ntmps55
    go_wp2_with fail
    all_goals
      go_ret
      exact ⟨by rw [HE.out]; rfl, Below.refl _ _⟩
  have h41 : ¬ (40 : Int) < (s.size : Int) := by omega
  have hs0 : s.size ≠ 0 := fun e => h0 (List.eq_nil_of_length_eq_zero (by rw [hls, e]))
  obtain ⟨T, li, co, er, hr⟩ : ∃ T li co er, lexR s.data.toList = ⟨T, li, co, er⟩ := ⟨_, _, _, _, rfl⟩
  have HTK := Lib.hid (tokens_row s w hr)
  have HQ2 := Lib.hid (show q = (decide (er = 0) && decide (T.length = 2) && decide ((tkAt T 0).kind = 1) && decide ((tkAt T 0).text = s)) by
    rw [← hq]; unfold nameT; rw [hr, decide_eq_true hs0, decide_eq_true (show s.size ≤ 40 by omega)]; rfl)
  clear hq hls hr hs0
  by_cases he : er = 0
  · subst he
    by_cases h2 : T.length = 2
    · obtain ⟨kd, tx, ht⟩ : ∃ kd tx, (tkAt T 0).kind = kd ∧ (tkAt T 0).text = tx := ⟨_, _, rfl, rfl⟩
      have HT := Lib.hid ht
      have HL2 := Lib.hid h2
      clear ht h2
      obtain ⟨bk, hbk⟩ : ∃ b, (kd == 1) = b := ⟨_, rfl⟩
      obtain ⟨bt, hbt⟩ : ∃ b, (tx.toList == s.toList) = b := ⟨_, rfl⟩
      have HE := Lib.hid (show q = (bk && bt) by
        rw [HQ2.out, HL2.out, HT.out.1, HT.out.2, ← bytes_beq2, hbt, ← hbk]
        rfl)
      cases bk <;> cases bt
      all_goals
        go_enter Tryd.func55, Tryd.ntmps55
        go_wp2_with fail
        refine HTK.out.mono ?_
        rintro e w1 ⟨A, c, rfl, hkr, hb⟩
        have HB := Lib.hid hb
        rw [HL2.out]
        obtain ⟨gt, t, rfl, hlt, ht, h5⟩ := hkr.at_ (k := 0) (by rw [HL2.out]; decide)
        have e5 : t = tkAt T 0 := by have := tkAt_get (T := T) (i := 0) (by rw [HL2.out]; decide); rw [ht] at this; injection this
        have c0 : w1.cell? ⟨gt, 0, none⟩ = some (.int .i64 kd) := by have h := h5.c0; rw [e5, HT.out.1] at h; exact h
        have c1 : w1.cell? ⟨gt, 1, none⟩ = some (.string tx) := by have h := h5.c1; rw [e5, HT.out.2] at h; exact h
        clear hkr h5 hb ht e5
        go_wp2_with fail
        go_ret
        exact ⟨by rw [HE.out]; rfl, HB.out.al _⟩
    · have l2 : ((T.length : Int) == 2) = false := beq_eq_false_iff_ne.2 (by omega)
      have HE := Lib.hid (show q = false by rw [HQ2.out, decide_eq_false h2]; simp)
      clear h2
      go_enter Tryd.func55, Tryd.ntmps55
      go_wp2_with fail
      refine HTK.out.mono ?_
      rintro e w1 ⟨A, c, rfl, hkr, hb⟩
      have HB := Lib.hid hb
      clear hkr hb
      go_wp2_with fail
      go_ret
      exact ⟨by rw [HE.out]; rfl, HB.out.al _⟩
  · have l2 : (er == 0) = false := beq_eq_false_iff_ne.2 he
    have HE := Lib.hid (show q = false by rw [HQ2.out, decide_eq_false he]; simp)
    clear he
    go_enter Tryd.func55, Tryd.ntmps55
    go_wp2_with fail
    refine HTK.out.mono ?_
    rintro e w1 ⟨A, c, rfl, hkr, hb⟩
    have HB := Lib.hid hb
    clear hkr hb
    go_wp2_with fail
    go_ret
    exact ⟨by rw [HE.out]; rfl, HB.out.al _⟩
end Go.Proofs.YtfmdbmalmeimbaaDoor
/- formed: plain mathematics, and a set of texts kept in a map of one's own. -/
namespace Go.Proofs.YtfmdbmalmeimbaaDoor
open Go.RowKit Go.Maps
set_option maxRecDepth 100000

/-- no text of a tree is great -/
inductive Fit : List Nd → Prop where
  | mk (l : List Nd) (h : l.length ≤ 1000000) (h1 : ∀ t ∈ l, t.name.size ≤ 2000000) (h2 : ∀ t ∈ l, t.text.size ≤ 2000000) (h3 : ∀ t ∈ l, t.list.length ≤ 1000000) (h4 : ∀ t ∈ l, ∀ s ∈ t.list, s.size ≤ 2000000) (hn : ∀ t ∈ l, Fit t.nodes) : Fit l
theorem Fit.all {l : List Nd} (h : Fit l) : l.length ≤ 1000000 ∧ (∀ t ∈ l, t.name.size ≤ 2000000) ∧ (∀ t ∈ l, t.text.size ≤ 2000000) ∧ (∀ t ∈ l, t.list.length ≤ 1000000) ∧ (∀ t ∈ l, ∀ s ∈ t.list, s.size ≤ 2000000) ∧ (∀ t ∈ l, Fit t.nodes) := by
  cases h; exact ⟨by assumption, by assumption, by assumption, by assumption, by assumption, by assumption⟩
/-- the fields that a node does not use are zero, and the others are permitted -/
def plainN (t : Nd) : Bool :=
  if t.kind = 1 then decide (-9007199254740992 ≤ t.num) && decide (t.num ≤ 9007199254740992) && decide (t.text.size = 0) && decide (t.list.length = 0) && decide (t.nodes.length = 0)
  else if t.kind = 2 then qokT t.text && decide (t.num = 0) && decide (t.list.length = 0) && decide (t.nodes.length = 0)
  else if t.kind = 3 then t.list.all qokT && decide (t.num = 0) && decide (t.text.size = 0) && decide (t.nodes.length = 0)
  else decide (t.kind = 4) && decide (t.num = 0) && decide (t.text.size = 0) && decide (t.list.length = 0)
/-- one node is well-formed, given what is well-formed below it -/
def okN (sub : List Nd → Bool) (t : Nd) : Bool := nameT t.name && plainN t && (if t.kind = 4 then sub t.nodes else true)
/-- a tree is well-formed, with at most d sections within sections -/
def formedF : Nat → List Nd → Bool
  | 0, l => decide ((l.map Nd.name).Nodup) && l.all (okN (fun _ => false))
  | d + 1, l => decide ((l.map Nd.name).Nodup) && l.all (okN (formedF d))
def subF (d : Nat) : List Nd → Bool := match d with
  | 0 => fun _ => false
  | d + 1 => formedF d
theorem formedF_eq (d : Nat) (l : List Nd) : formedF d l = (decide ((l.map Nd.name).Nodup) && l.all (okN (subF d))) := by cases d <;> rfl
mutual
def cntN : Nd → Nat
  | .mk _ _ _ _ _ l => cntL l
def cntL : List Nd → Nat
  | [] => 0
  | t :: l => 1 + cntN t + cntL l
end
theorem cntN_eq (t : Nd) : cntN t = cntL t.nodes := by cases t; rw [cntN]; rfl
theorem cntL_append (a b : List Nd) : cntL (a ++ b) = cntL a + cntL b := by
  induction a with
  | nil => rw [List.nil_append, cntL]; omega
  | cons t a ih => rw [List.cons_append, cntL, cntL, ih]; omega
theorem cntL_next {l : List Nd} {k : Nat} {t : Nd} (h : l[k]? = some t) : cntL (l.take (k + 1)) = cntL (l.take k) + 1 + cntL t.nodes := by
  obtain ⟨hk, e⟩ := List.getElem?_eq_some_iff.1 h
  rw [List.take_succ_eq_append_getElem hk, e, cntL_append, cntL, cntL, cntN_eq]
  omega
theorem cntL_take (l : List Nd) (k : Nat) : cntL (l.take k) ≤ cntL l := by
  conv => rhs; rw [← List.take_append_drop k l, cntL_append]
  omega
theorem skey_law : Keyed Tryd.prog 9 := string_keyed Tryd.underlying9
theorem szero_bool (w : World) : (zeroValue 4).run Tryd.prog w = .ok (.bool false) w := by kernel_rfl
def memT (acc : List ByteArray) (x : ByteArray) : Bool := acc.any (fun y => decide (y = x))
/-- block b is a map: true at the texts of acc, and at no other -/
def Met (w : World) (b : Nat) (acc : List ByteArray) : Prop :=
  ∃ D : DataW Unit, w.ownsMap Tryd.prog 9 (plainElem Tryd.prog 4) b acc.length D ∧ IsMap D ∧ ∀ x : ByteArray, D.atKey (.string x.data.toList) (.lit (.bool false)) = .lit (.bool (memT acc x))
theorem Met.made (w : World) : Met (w.alloc (.map #[] 0)) w.heap.size [] :=
  ⟨_, World.ownsMap_made _ _ _ _, isMap_empty, fun x => by simp [DataW.atKey, memT]⟩
theorem Met.lt {w : World} {b : Nat} {acc : List ByteArray} (h : Met w b acc) : b < w.heap.size := by obtain ⟨D, h, _⟩ := h; exact h.lt
theorem Met.alloc {w : World} {b : Nat} {acc : List ByteArray} (h : Met w b acc) (o : Obj) : Met (w.alloc o) b acc := by
  obtain ⟨D, h, h2⟩ := h
  exact ⟨D, h.alloc o, h2⟩
theorem splain_bool_inv {v : Value} {z : DataW Unit × List MemPlace} (h : plainElem Tryd.prog 4 v = some z) : ∃ x : Bool, v = .bool x ∧ z = (.lit (.bool x), []) := by
  cases v <;> simp [plainElem, Tryd.underlying4] at h
  exact ⟨_, rfl, h.symm⟩
theorem Met.look {w : World} {b : Nat} {acc : List ByteArray} (h : Met w b acc) {x : ByteArray} (hw : x.size ≤ maxLen) :
    (Instr.lookup 94 (.map (some b)) (.string x) false).run Tryd.prog w = .ok (.bool (memT acc x)) w := by
  obtain ⟨D, h, _, hD⟩ := h
  obtain ⟨v, ps, hrun, hv⟩ := h.lookup skey_law Tryd.underlying94 (szero_bool w) (plainElem_bool Tryd.underlying4 false) (WideMaps.keyOf_string_mk Tryd.underlying9 hw)
  obtain ⟨y, rfl, hy⟩ := splain_bool_inv hv
  rw [hD x] at hy
  injection hy with hy _
  injection hy with hy
  injection hy with hy
  rw [hrun, ← hy]
theorem ba_eq {x y : ByteArray} (h : x.data.toList = y.data.toList) : x = y := by
  obtain ⟨⟨l⟩⟩ := x
  obtain ⟨⟨m⟩⟩ := y
  simp only at h
  subst h
  rfl
theorem Met.put {w' : World} {b : Nat} {acc : List ByteArray} {D : DataW Unit} (h2 : IsMap D) (h3 : ∀ x : ByteArray, D.atKey (.string x.data.toList) (.lit (.bool false)) = .lit (.bool (memT acc x))) {x : ByteArray}
    (h : w'.ownsMap Tryd.prog 9 (plainElem Tryd.prog 4) b (acc.length + 1) (D.put (.string x.data.toList) (.lit (.bool true)))) : Met w' b (acc ++ [x]) := by
  refine ⟨_, by rw [List.length_append]; exact h, h2.put _ _, fun y => ?_⟩
  by_cases hy : y = x
  · subst hy
    rw [atKey_put_same h2 (by simp [WideAt.IsKeyLit])]
    simp [memT]
  · rw [atKey_put_other (fun e => hy (by injection e with e; exact ba_eq e)), h3]
    simp [memT, Ne.symm hy]
end Go.Proofs.YtfmdbmalmeimbaaDoor
/- The printer's text: a strings.Builder that is the field of a struct. -/
namespace Go.Proofs.YtfmdbmalmeimbaaDoor
open Go.RowKit
set_option maxRecDepth 100000

/-- the printer in memory: its own address or none, and the bytes -/
structure BL (w : World) (B b : Nat) (p v : Value) (bs : List UInt8) : Prop where
  blk : Blk w b 67 #[p, v]
  own : w.ownsRow B 5 1 v bs.length (U bs)
  hB : B ≤ b
theorem bld_size : (Tryd.prog.info? 65).map (·.size) = some 2 := by kernel_rfl
theorem bld_lies : liesAt Tryd.prog Tryd.prog.depth 67 (2 / Tryd.prog.cellsOf 67) 0 65 1 = true := by kernel_rfl
theorem own_type {w : World} {B g n : Nat} {t : TypeId} {cs : Array Value} {v : Value} {xs : List Value} (h : w.ownsRow B 5 1 v n xs) (hb : Blk w g t cs) (ht : t ≠ 5) : v.ownBlock ≠ some g := by
  intro e
  rcases h.2 with ⟨hv, _⟩ | ⟨g', cap, cur, hv, _, hg, _⟩
  · rw [hv] at e; cases e
  · rw [hv] at e
    injection e with e
    subst e
    have h1 := hb.lt
    have h2 := hg.symm.trans (show w.heap[g']? = _ from hb)
    injection h2 with h2
    injection h2 with _ h2 _
    exact ht h2.symm
section
variable {w w' : World} {B b : Nat} {p v : Value} {bs : List UInt8}
theorem BL.ne (h : BL w B b p v bs) : v.ownBlock ≠ some b := own_type h.own h.blk (by decide)
theorem BL.c (h : BL w B b p v bs) : w.cell? ⟨b, 0, none⟩ = some p ∧ w.cell? ⟨b, 1, none⟩ = some v ∧ w.frozen? ⟨b, 0, none⟩ = false ∧ w.frozen? ⟨b, 1, none⟩ = false :=
  ⟨by rw [h.blk.cell]; rfl, by rw [h.blk.cell]; rfl, h.blk.frozen 0, h.blk.frozen 1⟩
theorem BL.up (h : BL w B b p v bs) (hb : Below w.heap.size w w') : BL w' B b p v bs :=
  ⟨h.blk.below hb h.blk.lt, own_only h.own (Only.of_below (fun _ => False) hb) (fun _ _ h => h), h.hB⟩
theorem BL.drew (h : BL w B b p v bs) : BL w.drew B b p v bs := h.up (Below.refl _ _).drew
theorem BL.p0 (h : BL w B b p v bs) (q : Value) : BL (w.setCell ⟨b, 0, none⟩ q) B b q v bs :=
  ⟨h.blk.set_ 0 q, own_only h.own ((Only.refl (· = b) w).setCell (p := ⟨b, 0, none⟩) (.inl rfl) q) (fun _ hk e => h.ne (e ▸ hk)), h.hB⟩
theorem BL.put {v' : Value} {bs' : List UInt8} (h : Blk w b 67 #[p, v]) (ho : w.ownsRow B 5 1 v' bs'.length (U bs')) (hB : B ≤ b) : BL (w.setCell ⟨b, 1, none⟩ v') B b p v' bs' :=
  ⟨h.set_ 1 v', own_only ho ((Only.refl (· = b) w).setCell (p := ⟨b, 1, none⟩) (.inl rfl) v') (fun k hk e => own_type ho h (by decide) (e ▸ hk)), hB⟩
end
/-- the blocks that a write touches -/
def PF (b : Nat) (v : Value) (k : Nat) : Prop := k = b ∨ v.ownBlock = some k
def CheckRet (B b : Nat) (v : Value) (bs : List UInt8) (w : World) (e : Ending) (w' : World) : Prop := e = .returned (.tuple #[]) ∧ BL w' B b (.pointer (some ⟨b, 0, none⟩)) v bs ∧ Only (PF b v) w w'
set_option maxHeartbeats 1000000 in
theorem check_any {w : World} {B b : Nat} {p v : Value} {bs : List UInt8} (h : BL w B b p v bs) (hp : p = .pointer none ∨ p = .pointer (some ⟨b, 0, none⟩)) :
    Calls Tryd.prog 92 #[.pointer (some ⟨b, 0, none⟩)] w (CheckRet B b v bs w) := by
  obtain ⟨j, hj, hjs⟩ := Option.map_eq_some_iff.1 bld_size
  have HB := Lib.hid h
  obtain ⟨c0, c1, f0, f1⟩ := h.c
  have hsh : w.shape? b = some (67, 2) := by
    have hb := h.blk
    unfold Blk at hb
    simp [World.shape?, hb]
  clear h
  rcases hp with rfl | rfl
  · go_enter Tryd.func92, Tryd.ntmps92
    go_wp2_with fail
    rw [Lib.run_to_unsafe w ⟨b, 0, none⟩ Tryd.underlying62 Tryd.underlying133 hj (by rw [hjs]; decide) hsh (Nat.zero_lt_succ 1)]
    simp only [Result.andThen]
    rw [Oper.upon_value]
    go_wp2_with fail
    rw [run_callFunc_extern Tryd.func100 (by kernel_rfl) (by kernel_rfl) (by kernel_rfl) (e := Extern.AbiNoEscape.same) (by kernel_rfl)]
    rw [Lib.run_noEscape]
    simp only [Result.andThen]
    rw [Oper.upon_value]
    go_wp2_with fail
    rw [Lib.run_from_unsafe w ⟨b, 0, none⟩ Tryd.underlying133 Tryd.underlying62 hj hsh bld_lies]
    simp only [Result.andThen]
    rw [Oper.upon_value]
    go_wp2_with fail
    go_end0
    exact ⟨rfl, HB.out.p0 _, (Only.refl _ w).setCell (p := ⟨b, 0, none⟩) (.inl (.inl rfl)) _⟩
  · go_enter Tryd.func92, Tryd.ntmps92
    go_wp2_with fail
    rw [Lib.run_neq_ptr_same w _ Tryd.underlying62 hj]
    simp only [Result.andThen]
    rw [Oper.upon_value]
    go_wp2_with fail
    go_end0
    exact ⟨rfl, HB.out, Only.refl _ _⟩
/-- a write: the bytes are behind the others -/
def WriteRet (r : Value) (B b : Nat) (v : Value) (bs : List UInt8) (w : World) (e : Ending) (w' : World) : Prop := e = .returned r ∧ ∃ v', BL w' B b (.pointer (some ⟨b, 0, none⟩)) v' bs ∧ Only (PF b v) w w'
theorem strU (s : ByteArray) : Lib.strCells s = U s.data.toList := rfl
set_option maxHeartbeats 2000000 in
theorem wstring_any {w : World} {B b : Nat} {p v : Value} {bs : List UInt8} (s : ByteArray) (h : BL w B b p v bs) (hp : p = .pointer none ∨ p = .pointer (some ⟨b, 0, none⟩)) (hlen : bs.length + s.size ≤ 140737488355328) (hBw : B ≤ w.heap.size) :
    Calls Tryd.prog 75 #[.pointer (some ⟨b, 0, none⟩), .string s] w (WriteRet (.tuple #[.int .i64 s.size, .nilIface]) B b v (bs ++ s.data.toList) w) := by
  obtain ⟨i0, hi0, hz0, hz1, hz2⟩ := info_parts byte_info
  have HC := Lib.hid (check_any h hp)
  clear h hp
  go_enter Tryd.func75, Tryd.ntmps75
  go_wp2_with fail
  refine HC.out.mono ?_
  rintro e w1 ⟨rfl, h1, ho1⟩
  have HB1 := Lib.hid h1
  have HO1 := Lib.hid ho1
  obtain ⟨c0, c1, f0, f1⟩ := h1.c
  have hsz : w.heap.size ≤ w1.heap.size := ho1.size
  clear h1 ho1 HC
  go_wp2_with (at_builtin; refine Lib.wpList_append_own_string _ rfl _ _ 63 9 rfl B 5 i0 Tryd.underlying63 Tryd.underlying9 hi0 hz0 hz1 hz2 _ _ _ rfl HB1.out.own s rfl (by unfold maxLen; omega) (by omega) (by omega) ?_)
  intro v' w2 hown' hgrow _
  have hb2 : Blk w2 b 67 #[.pointer (some ⟨b, 0, none⟩), v] := (hgrow.block b HB1.out.blk.lt (fun e => HB1.out.ne e.symm)).trans HB1.out.blk
  have hown2 : w2.ownsRow B 5 1 v' (bs ++ s.data.toList).length (U (bs ++ s.data.toList)) := by
    rw [List.length_append, U_append, size_list]
    exact hown'
  have HP := Lib.hid (BL.put hb2 hown2 HB1.out.hB)
  have HO2 := Lib.hid ((HO1.out.grown hgrow (fun k hk => .inl (.inr hk))).setCell (p := ⟨b, 1, none⟩) (.inl (.inl rfl)) v')
  have d1 : w2.cell? ⟨b, 1, none⟩ = some v := by rw [hb2.cell]; rfl
  have g1 : w2.frozen? ⟨b, 1, none⟩ = false := hb2.frozen 1
  obtain ⟨ao, n', cap, rfl⟩ : ∃ ao n' cap, v' = .slice ao n' cap := by
    rcases hown'.2 with ⟨hv, _⟩ | ⟨g, cap, cur, hv, _⟩
    · exact ⟨_, _, _, hv⟩
    · exact ⟨_, _, _, hv⟩
  clear hown' hgrow hb2 hown2
  go_wp2_with fail
  go_ret2
  exact ⟨rfl, _, HP.out, HO2.out⟩
set_option maxHeartbeats 2000000 in
theorem wbyte_any {w : World} {B b : Nat} {p v : Value} {bs : List UInt8} (c : UInt8) (h : BL w B b p v bs) (hp : p = .pointer none ∨ p = .pointer (some ⟨b, 0, none⟩)) (hlen : bs.length + 1 ≤ 140737488355328) (hBw : B ≤ w.heap.size) :
    Calls Tryd.prog 77 #[.pointer (some ⟨b, 0, none⟩), .int .u8 (c.toNat : Int)] w (WriteRet .nilIface B b v (bs ++ [c]) w) := by
  obtain ⟨i0, hi0, hz0, hz1, hz2⟩ := info_parts byte_info
  have HC := Lib.hid (check_any h hp)
  clear h hp
  go_enter Tryd.func77, Tryd.ntmps77
  go_wp2_with fail
  refine HC.out.mono ?_
  rintro e w1 ⟨rfl, h1, ho1⟩
  have HB1 := Lib.hid h1
  have HO1 := Lib.hid ho1
  obtain ⟨c0, c1, f0, f1⟩ := h1.c
  have hsz : w.heap.size ≤ w1.heap.size := ho1.size
  have hbl := h1.blk.lt
  clear h1 ho1 HC
  go_wp2_with (at_builtin; refine wpList_append_own _ rfl _ _ 63 rfl B 5 i0 (.int .u8 0) 1 1 Tryd.underlying63 hi0 hz0 hz1 hz2 rfl (by decide) _ _ _ rfl (HB1.out.own.alloc _) ⟨w1.heap.size, 0, none⟩ 1 1 [.int .u8 (c.toNat : Int)] rfl rfl (cell_one_new _ _ _) (by simp [Value.oneCell']) (by unfold maxLen; omega) (by omega) (by simp; omega) ?_)
  intro v' w2 hown' hgrow _
  have hb2 : Blk w2 b 67 #[.pointer (some ⟨b, 0, none⟩), v] := (hgrow.block b (by simp; omega) (fun e => HB1.out.ne e.symm)).trans (HB1.out.blk.alloc _)
  have hown2 : w2.ownsRow B 5 1 v' (bs ++ [c]).length (U (bs ++ [c])) := by
    rw [List.length_append, U_append]
    exact hown'
  have HP := Lib.hid (BL.put hb2 hown2 HB1.out.hB)
  have HO2 := Lib.hid (((HO1.out.alloc _).grown hgrow (fun k hk => .inl (.inr hk))).setCell (p := ⟨b, 1, none⟩) (.inl (.inl rfl)) v')
  have d1 : w2.cell? ⟨b, 1, none⟩ = some v := by rw [hb2.cell]; rfl
  have g1 : w2.frozen? ⟨b, 1, none⟩ = false := hb2.frozen 1
  obtain ⟨ao, n', cap, rfl⟩ : ∃ ao n' cap, v' = .slice ao n' cap := by
    rcases hown'.2 with ⟨hv, _⟩ | ⟨g, cap, cur, hv, _⟩
    · exact ⟨_, _, _, hv⟩
    · exact ⟨_, _, _, hv⟩
  clear hown' hgrow hb2 hown2
  go_wp2_with fail
  go_ret
  exact ⟨rfl, _, HP.out, HO2.out⟩
theorem BL.form {w : World} {B b : Nat} {p v : Value} {bs : List UInt8} (h : BL w B b p v bs) : ∃ A c, v = .slice A bs.length c := by
  rcases h.own.2 with ⟨h, h0⟩ | ⟨g, cap, cur, h, _⟩
  · exact ⟨none, 0, by rw [h, h0]⟩
  · exact ⟨_, _, h⟩
theorem blen_any {w : World} {B b : Nat} {p v : Value} {bs : List UInt8} (h : BL w B b p v bs) : Calls Tryd.prog 35 #[.pointer (some ⟨b, 0, none⟩)] w (fun e w' => e = .returned (.int .i64 bs.length) ∧ w' = w) := by
  obtain ⟨c0, c1, f0, f1⟩ := h.c
  obtain ⟨A, c, rfl⟩ := h.form
  clear h
  go_enter Tryd.func35, Tryd.ntmps35
  go_wp2_with fail
  go_ret
  exact ⟨rfl, rfl⟩
end Go.Proofs.YtfmdbmalmeimbaaDoor
/- The library contracts that are used, laid at this dump (printed by the shelf's own tools). -/
namespace Go.Proofs
open Go.Shelf
def Tryd.lays156_ren : Go.Shelf.Ren := ⟨fun | 156 => 60 | 165 => 79 | 166 => 75 | 169 => 36 | 240 => 92 | 241 => 96 | 276 => 100 | 277 => 108 | n => n, fun | 31 => 33 | 9 => 9 | 3 => 3 | 4 => 4 | 0 => 0 | 20 => 20 | 72 => 65 | 76 => 119 | 70 => 62 | 37 => 63 | 75 => 118 | 127 => 99 | 164 => 133 | 5 => 5 | 80 => 69 | n => n, fun | n => n⟩
theorem Tryd.lays156 : Go.Proofs.Lays.n156 Tryd.prog Tryd.lays156_ren := {
  mixed := by kernel_rfl
  f156 := Tryd.func60.trans (congrArg some (by kernel_rfl))
  f165 := Tryd.func79.trans (congrArg some (by kernel_rfl))
  f166 := Tryd.func75.trans (congrArg some (by kernel_rfl))
  f169 := Tryd.func36.trans (congrArg some (by kernel_rfl))
  f240 := Tryd.func92.trans (congrArg some (by kernel_rfl))
  f241 := Tryd.func96.trans (congrArg some (by kernel_rfl))
  f276 := Tryd.func100.trans (congrArg some (by kernel_rfl))
  f277 := Tryd.func108.trans (congrArg some (by kernel_rfl))
  t0 := Tryd.underlying0
  a0 := Tryd.isAgg0
  z0 := Tryd.sizeOf0
  v0 := Tryd.zeroValue0
  t3 := Tryd.underlying3
  a3 := Tryd.isAgg3
  z3 := Tryd.sizeOf3
  v3 := Tryd.zeroValue3
  t4 := Tryd.underlying4
  a4 := Tryd.isAgg4
  z4 := Tryd.sizeOf4
  v4 := Tryd.zeroValue4
  t9 := Tryd.underlying9
  a9 := Tryd.isAgg9
  z9 := Tryd.sizeOf9
  v9 := Tryd.zeroValue9
  t20 := Tryd.underlying20
  a20 := Tryd.isAgg20
  z20 := Tryd.sizeOf20
  v20 := Tryd.zeroValue20
  t31 := Tryd.underlying33
  a31 := Tryd.isAgg33
  z31 := Tryd.sizeOf33
  v31 := Tryd.zeroValue33
  t37 := Tryd.underlying63
  a37 := Tryd.isAgg63
  z37 := Tryd.sizeOf63
  v37 := Tryd.zeroValue63
  t70 := Tryd.underlying62
  a70 := Tryd.isAgg62
  z70 := Tryd.sizeOf62
  v70 := Tryd.zeroValue62
  t72 := Tryd.underlying65
  a72 := Tryd.isAgg65
  z72 := Tryd.sizeOf65
  v72 := Tryd.zeroValue65
  t75 := Tryd.underlying118
  a75 := Tryd.isAgg118
  z75 := Tryd.sizeOf118
  v75 := Tryd.zeroValue118
  t76 := Tryd.underlying119
  a76 := Tryd.isAgg119
  z76 := Tryd.sizeOf119
  v76 := Tryd.zeroValue119
  t127 := Tryd.underlying99
  a127 := Tryd.isAgg99
  z127 := Tryd.sizeOf99
  v127 := Tryd.zeroValue99
  t164 := Tryd.underlying133
  a164 := Tryd.isAgg133
  z164 := Tryd.sizeOf133
  v164 := Tryd.zeroValue133 }
theorem Tryd.Builder_Extra_156 : Builder.Extra Tryd.prog Tryd.lays156_ren := {
  sizeBuilder := by kernel_rfl
  liesBuilder := by kernel_rfl
  t5 := Tryd.underlying5
  a5 := Tryd.isAgg5
  z5 := Tryd.sizeOf5
  v5 := Tryd.zeroValue5
  infoByte := by kernel_rfl
  cellsByte := by kernel_rfl
  sizeByte := by kernel_rfl
  neB5 := by decide }
open Go.RowKit in
theorem Tryd.strings_Join_none (a : Option Addr) (c : Nat) (sep : ByteArray) (w : World) :
    Calls Tryd.prog 60 #[.slice a 0 c, .string sep] w fun e w' => e = .returned (.string ⟨#[]⟩) ∧ w' = w := Any.strings_Join_none Tryd.lays156 Tryd.Builder_Extra_156 a c sep w
open Go.RowKit in
theorem Tryd.strings_Join (bk o c : Nat) (xs : List ByteArray) (sep : ByteArray) (w : World) (hcells : ∀ (j : Nat) x, xs[j]? = some x → w.cell? ⟨bk, o + j, none⟩ = some (.string x)) (hbk : bk < w.heap.size) (hN : xs.length ≤ 140737488355328) (hcap : xs.length ≤ c) (hlen : (Lib.join (xs.map (·.data.toList)) sep.data.toList).length ≤ 140737488355328) :
    Calls Tryd.prog 60 #[.slice (some ⟨bk, o, none⟩) xs.length c, .string sep] w fun e w' => e = .returned (.string ⟨(Lib.join (xs.map (·.data.toList)) sep.data.toList).toArray⟩) ∧ Below w.heap.size w w' := Any.strings_Join Tryd.lays156 Tryd.Builder_Extra_156 bk o c xs sep w hcells hbk hN hcap hlen
def Tryd.laysM171_ren : Go.Shelf.Ren := ⟨fun | 171 => 58 | 243 => 78 | 246 => 95 | 283 => 104 | 284 => 105 | 285 => 106 | 286 => 107 | 129 => 112 | 317 => 111 | 318 => 113 | 319 => 114 | 320 => 115 | 337 => 118 | 338 => 119 | n => n, fun | 3 => 3 | 9 => 9 | 2 => 2 | 4 => 4 | 171 => 141 | 0 => 0 | 53 => 138 | 37 => 63 | 5 => 5 | 173 => 144 | 212 => 149 | 51 => 135 | 20 => 20 | 213 => 150 | 46 => 127 | 232 => 154 | 233 => 155 | n => n, fun | 17 => 0 | 18 => 2 | 19 => 3 | n => n⟩
theorem Tryd.laysM171 : Go.Proofs.LaysM.n171 Tryd.prog Tryd.laysM171_ren := {
  mixed := by kernel_rfl
  f129 := Tryd.func112.trans (congrArg some (by kernel_rfl))
  f171 := Tryd.func58.trans (congrArg some (by kernel_rfl))
  f243 := Tryd.func78.trans (congrArg some (by kernel_rfl))
  f246 := Tryd.func95.trans (congrArg some (by kernel_rfl))
  f283 := Tryd.func104.trans (congrArg some (by kernel_rfl))
  f284 := Tryd.func105.trans (congrArg some (by kernel_rfl))
  f285 := Tryd.func106.trans (congrArg some (by kernel_rfl))
  f286 := Tryd.func107.trans (congrArg some (by kernel_rfl))
  f317 := Tryd.func111.trans (congrArg some (by kernel_rfl))
  f318 := Tryd.func113.trans (congrArg some (by kernel_rfl))
  f319 := Tryd.func114.trans (congrArg some (by kernel_rfl))
  f320 := Tryd.func115.trans (congrArg some (by kernel_rfl))
  f337 := Tryd.func118.trans (congrArg some (by kernel_rfl))
  f338 := Tryd.func119.trans (congrArg some (by kernel_rfl))
  t0 := Tryd.underlying0
  a0 := Tryd.isAgg0
  z0 := Tryd.sizeOf0
  v0 := Tryd.zeroValue0
  t2 := Tryd.underlying2
  a2 := Tryd.isAgg2
  z2 := Tryd.sizeOf2
  v2 := Tryd.zeroValue2
  t3 := Tryd.underlying3
  a3 := Tryd.isAgg3
  z3 := Tryd.sizeOf3
  v3 := Tryd.zeroValue3
  t4 := Tryd.underlying4
  a4 := Tryd.isAgg4
  z4 := Tryd.sizeOf4
  v4 := Tryd.zeroValue4
  t5 := Tryd.underlying5
  a5 := Tryd.isAgg5
  z5 := Tryd.sizeOf5
  v5 := Tryd.zeroValue5
  t9 := Tryd.underlying9
  a9 := Tryd.isAgg9
  z9 := Tryd.sizeOf9
  v9 := Tryd.zeroValue9
  t20 := Tryd.underlying20
  a20 := Tryd.isAgg20
  z20 := Tryd.sizeOf20
  v20 := Tryd.zeroValue20
  t37 := Tryd.underlying63
  a37 := Tryd.isAgg63
  z37 := Tryd.sizeOf63
  v37 := Tryd.zeroValue63
  t46 := Tryd.underlying127
  a46 := Tryd.isAgg127
  z46 := Tryd.sizeOf127
  v46 := Tryd.zeroValue127
  t51 := Tryd.underlying135
  a51 := Tryd.isAgg135
  z51 := Tryd.sizeOf135
  v51 := Tryd.zeroValue135
  t53 := Tryd.underlying138
  a53 := Tryd.isAgg138
  z53 := Tryd.sizeOf138
  v53 := Tryd.zeroValue138
  t171 := Tryd.underlying141
  a171 := Tryd.isAgg141
  z171 := Tryd.sizeOf141
  v171 := Tryd.zeroValue141
  t173 := Tryd.underlying144
  a173 := Tryd.isAgg144
  z173 := Tryd.sizeOf144
  v173 := Tryd.zeroValue144
  t212 := Tryd.underlying149
  a212 := Tryd.isAgg149
  z212 := Tryd.sizeOf149
  v212 := Tryd.zeroValue149
  t213 := Tryd.underlying150
  a213 := Tryd.isAgg150
  z213 := Tryd.sizeOf150
  t232 := Tryd.underlying154
  a232 := Tryd.isAgg154
  z232 := Tryd.sizeOf154
  v232 := Tryd.zeroValue154
  t233 := Tryd.underlying155
  a233 := Tryd.isAgg155
  z233 := Tryd.sizeOf155
  v233 := Tryd.zeroValue155
  g17 := by kernel_rfl
  g18 := by kernel_rfl
  g19 := by kernel_rfl
  i0 := by kernel_rfl
  i2 := by kernel_rfl
  i3 := by kernel_rfl
  i4 := by kernel_rfl
  i5 := by kernel_rfl
  i9 := by kernel_rfl
  i20 := by kernel_rfl
  i37 := by kernel_rfl
  i46 := by kernel_rfl
  i51 := by kernel_rfl
  i53 := by kernel_rfl
  i171 := by kernel_rfl
  i173 := by kernel_rfl
  i212 := by kernel_rfl
  i232 := by kernel_rfl
  i233 := by kernel_rfl
  m17 := by kernel_rfl
  m18 := by kernel_rfl
  m19 := by kernel_rfl }
open Go.RowKit Go.Sort Go.Lib in
theorem Tryd.strconv_Itoa (n : Int) (h0 : -9223372036854775808 ≤ n) (h1 : n ≤ 9223372036854775807) (w : World) (htab : Lib.TabIs Tryd.prog w "internal/strconv.uint64pow10" .u64 Lib.pow10Tab) :
    Calls Tryd.prog 58 #[.int .i64 n] w fun e w' => e = .returned (.string ⟨(Lib.itoa n).toArray⟩) ∧ ∃ k os, w' = grow (w.drewN k) os := Any.strconv_Itoa Tryd.laysM171 n h0 h1 w htab
def Tryd.lays105_ren : Go.Shelf.Ren := ⟨fun | 105 => 76 | 212 => 93 | 99 => 94 | 165 => 79 | 166 => 75 | 170 => 35 | 169 => 36 | 263 => 101 | 264 => 102 | 206 => 103 | 240 => 92 | 241 => 96 | 276 => 100 | 277 => 108 | n => n, fun | 9 => 9 | 3 => 3 | 4 => 4 | 20 => 20 | 0 => 0 | 46 => 127 | 109 => 128 | 5 => 5 | 72 => 65 | 76 => 119 | 51 => 135 | 146 => 136 | 53 => 138 | 148 => 139 | 70 => 62 | 37 => 63 | 75 => 118 | 127 => 99 | 164 => 133 | 80 => 69 | n => n, fun | n => n⟩
theorem Tryd.lays105 : Go.Proofs.Lays.n105 Tryd.prog Tryd.lays105_ren := {
  mixed := by kernel_rfl
  f99 := Tryd.func94.trans (congrArg some (by kernel_rfl))
  f105 := Tryd.func76.trans (congrArg some (by kernel_rfl))
  f165 := Tryd.func79.trans (congrArg some (by kernel_rfl))
  f166 := Tryd.func75.trans (congrArg some (by kernel_rfl))
  f169 := Tryd.func36.trans (congrArg some (by kernel_rfl))
  f170 := Tryd.func35.trans (congrArg some (by kernel_rfl))
  f206 := Tryd.func103.trans (congrArg some (by kernel_rfl))
  f212 := Tryd.func93.trans (congrArg some (by kernel_rfl))
  f240 := Tryd.func92.trans (congrArg some (by kernel_rfl))
  f241 := Tryd.func96.trans (congrArg some (by kernel_rfl))
  f263 := Tryd.func101.trans (congrArg some (by kernel_rfl))
  f264 := Tryd.func102.trans (congrArg some (by kernel_rfl))
  f276 := Tryd.func100.trans (congrArg some (by kernel_rfl))
  f277 := Tryd.func108.trans (congrArg some (by kernel_rfl))
  t0 := Tryd.underlying0
  a0 := Tryd.isAgg0
  z0 := Tryd.sizeOf0
  v0 := Tryd.zeroValue0
  t3 := Tryd.underlying3
  a3 := Tryd.isAgg3
  z3 := Tryd.sizeOf3
  v3 := Tryd.zeroValue3
  t4 := Tryd.underlying4
  a4 := Tryd.isAgg4
  z4 := Tryd.sizeOf4
  v4 := Tryd.zeroValue4
  t5 := Tryd.underlying5
  a5 := Tryd.isAgg5
  z5 := Tryd.sizeOf5
  v5 := Tryd.zeroValue5
  t9 := Tryd.underlying9
  a9 := Tryd.isAgg9
  z9 := Tryd.sizeOf9
  v9 := Tryd.zeroValue9
  t20 := Tryd.underlying20
  a20 := Tryd.isAgg20
  z20 := Tryd.sizeOf20
  v20 := Tryd.zeroValue20
  t37 := Tryd.underlying63
  a37 := Tryd.isAgg63
  z37 := Tryd.sizeOf63
  v37 := Tryd.zeroValue63
  t46 := Tryd.underlying127
  a46 := Tryd.isAgg127
  z46 := Tryd.sizeOf127
  v46 := Tryd.zeroValue127
  t51 := Tryd.underlying135
  a51 := Tryd.isAgg135
  z51 := Tryd.sizeOf135
  v51 := Tryd.zeroValue135
  t53 := Tryd.underlying138
  a53 := Tryd.isAgg138
  z53 := Tryd.sizeOf138
  v53 := Tryd.zeroValue138
  t70 := Tryd.underlying62
  a70 := Tryd.isAgg62
  z70 := Tryd.sizeOf62
  v70 := Tryd.zeroValue62
  t72 := Tryd.underlying65
  a72 := Tryd.isAgg65
  z72 := Tryd.sizeOf65
  v72 := Tryd.zeroValue65
  t75 := Tryd.underlying118
  a75 := Tryd.isAgg118
  z75 := Tryd.sizeOf118
  v75 := Tryd.zeroValue118
  t76 := Tryd.underlying119
  a76 := Tryd.isAgg119
  z76 := Tryd.sizeOf119
  v76 := Tryd.zeroValue119
  t109 := Tryd.underlying128
  a109 := Tryd.isAgg128
  z109 := Tryd.sizeOf128
  v109 := Tryd.zeroValue128
  t127 := Tryd.underlying99
  a127 := Tryd.isAgg99
  z127 := Tryd.sizeOf99
  v127 := Tryd.zeroValue99
  t146 := Tryd.underlying136
  a146 := Tryd.isAgg136
  z146 := Tryd.sizeOf136
  v146 := Tryd.zeroValue136
  t148 := Tryd.underlying139
  a148 := Tryd.isAgg139
  z148 := Tryd.sizeOf139
  v148 := Tryd.zeroValue139
  t164 := Tryd.underlying133
  a164 := Tryd.isAgg133
  z164 := Tryd.sizeOf133
  v164 := Tryd.zeroValue133 }
theorem Tryd.Builder_Extra_105 : Builder.Extra Tryd.prog Tryd.lays105_ren := {
  sizeBuilder := by kernel_rfl
  liesBuilder := by kernel_rfl
  t5 := Tryd.underlying5
  a5 := Tryd.isAgg5
  z5 := Tryd.sizeOf5
  v5 := Tryd.zeroValue5
  infoByte := by kernel_rfl
  cellsByte := by kernel_rfl
  sizeByte := by kernel_rfl
  neB5 := by decide }
open Go.RowKit Go.Lib in
theorem Tryd.strings_Repeat_zero (s : ByteArray) (w : World) :
    Calls Tryd.prog 76 #[.string s, .int .i64 0] w fun e w' => e = .returned (.string ⟨#[]⟩) ∧ w' = w := Any.strings_Repeat_zero Tryd.lays105 s w
open Go.RowKit Go.Lib in
theorem Tryd.strings_Repeat (s : ByteArray) (c : Nat) (w : World) (hc : c ≤ 9223372036854775807) (hlen : s.size * c ≤ 140737488355328) :
    Calls Tryd.prog 76 #[.string s, .int .i64 c] w fun e w' => e = .returned (.string ⟨(Lib.repeatL s.data.toList c).toArray⟩) ∧ Below w.heap.size w w' := Any.strings_Repeat Tryd.lays105 Tryd.Builder_Extra_105 s c w hc hlen
end Go.Proofs
/- line of the printer. -/
namespace Go.Proofs.YtfmdbmalmeimbaaDoor
open Go.RowKit
set_option maxRecDepth 100000

/-- what is no row of bytes and not the printer lies as it lay -/
def OK (b : Nat) (w w' : World) : Prop := w.heap.size ≤ w'.heap.size ∧ ∀ (g : Nat) (t : TypeId) (cs : Array Value), t ≠ 5 → g ≠ b → Blk w g t cs → Blk w' g t cs
structure FR (B b : Nat) (w w' : World) : Prop where
  below : Below B w w'
  ok : OK b w w'
section
variable {w w' w'' : World} {B b : Nat} {p v : Value} {bs : List UInt8}
theorem OK.trans (h : OK b w w') (h2 : OK b w' w'') : OK b w w'' := ⟨Nat.le_trans h.1 h2.1, fun g t cs ht hg hb => h2.2 g t cs ht hg (h.2 g t cs ht hg hb)⟩
theorem OK.of_below (h : Below w.heap.size w w') : OK b w w' := ⟨h.size, fun _ _ _ _ _ hb => hb.below h hb.lt⟩
theorem FR.trans (h : FR B b w w') (h2 : FR B b w' w'') : FR B b w w'' := ⟨h.below.trans h2.below, h.ok.trans h2.ok⟩
theorem FR.next (h : FR B b w w') (hB : B ≤ w'.heap.size) (h2 : Below w'.heap.size w' w'') : FR B b w w'' := ⟨h.below.trans ((Only.of_below (fun _ => False) h2).below hB (fun _ h => h.elim)), h.ok.trans (OK.of_below h2)⟩
theorem FR.refl (B b : Nat) (w : World) : FR B b w w := ⟨Below.refl _ _, Nat.le_refl _, fun _ _ _ _ _ h => h⟩
theorem BL.fr (h : BL w B b p v bs) (ho : Only (PF b v) w w') (hB : B ≤ w.heap.size) : FR B b w w' :=
  ⟨ho.below hB (fun k hk => by rcases hk with hk | hk; rw [hk]; exact h.hB; exact (h.own.lt k hk).1), ho.size, fun g t cs ht hg hb => hb.only ho (fun hk => by rcases hk with hk | hk; exact hg hk; exact own_type h.own hb ht hk)⟩
end
def lineB (d : Nat) (ps : List ByteArray) : List UInt8 := Lib.repeatL [32, 32] d ++ ps.flatMap (fun s => s.data.toList) ++ [10]
def PRet (B b : Nat) (bs : List UInt8) (w : World) (e : Ending) (w' : World) : Prop := e = .returned (.tuple #[]) ∧ ∃ v', BL w' B b (.pointer (some ⟨b, 0, none⟩)) v' bs ∧ FR B b w w'
theorem rep_len (d : Nat) : (Lib.repeatL [32, 32] d).length = 2 * d := by
  rw [Lib.repeatL_length]
  show d * 2 = 2 * d
  omega
theorem flat_take {ps : List ByteArray} {k : Nat} {s : ByteArray} (h : ps[k]? = some s) : (ps.take (k + 1)).flatMap (fun s => s.data.toList) = (ps.take k).flatMap (fun s => s.data.toList) ++ s.data.toList := by
  obtain ⟨hk, e⟩ := List.getElem?_eq_some_iff.1 h
  rw [List.take_succ_eq_append_getElem hk, e, List.flatMap_append]
  simp
theorem flat_le {ps : List ByteArray} (k : Nat) : ((ps.take k).flatMap (fun s => s.data.toList)).length ≤ (ps.flatMap (fun s => s.data.toList)).length := by
  conv => rhs; rw [← List.take_append_drop k ps, List.flatMap_append, List.length_append]
  omega
set_option maxHeartbeats 4000000 in
theorem line_any {w : World} {B b pb d : Nat} {p v : Value} {bs : List UInt8} {ps : List ByteArray} (h : BL w B b p v bs) (hp : p = .pointer none ∨ p = .pointer (some ⟨b, 0, none⟩)) (hd : d ≤ 100) (hpb : Blk w pb 9 (ps.map Value.string).toArray)
    (hlen : bs.length + (2 * d + (ps.flatMap (fun s => s.data.toList)).length + 1) ≤ 140737488355328) (hn : ps.length ≤ 1000000) (hBw : B ≤ w.heap.size) :
    Calls Tryd.prog 57 #[.pointer (some ⟨b, 0, none⟩), .int .i64 (d : Int), .slice (some ⟨pb, 0, none⟩) ps.length ps.length] w (PRet B b (bs ++ lineB d ps) w) := by
  have HB := Lib.hid h
  have HP := Lib.hid hp
  have HPB := Lib.hid hpb
  have HR := Lib.hid (fun w => Tryd.strings_Repeat ⟨#[32, 32]⟩ d w (by omega) (by show 2 * d ≤ _; omega))
  have hrl := rep_len d
  have HRL := Lib.hid hrl
  clear h hp hpb hrl
  go_enter Tryd.func57, Tryd.ntmps57
  go_wp2_with fail
  go_region_held3 (fun w' => True) (trivial)
    (first
      | (go_at_call 76; refine (HR.out _).mono ?_; rintro e w1 ⟨rfl, hb1⟩; have HB1 := Lib.hid (HB.out.drew.up hb1); have HF1 := Lib.hid (show FR B b w w1 from (FR.refl B b w).next hBw ((Below.refl _ _).drew.next hb1)); have hw1 := hb1.size; clear hb1)
      | (go_at_call 75; refine (wstring_any _ HB1.out HP.out (by show bs.length + (Lib.repeatL [32, 32] d).toArray.size ≤ _; rw [List.size_toArray, HRL.out]; omega) (by have h1 : w.drew.heap.size = w.heap.size := rfl; omega)).mono ?_; rintro e w2 ⟨rfl, v2, h2, ho2⟩; have HB2 := Lib.hid h2; have HF2 := Lib.hid (HF1.out.trans (HB1.out.fr ho2 (by have h1 : w.drew.heap.size = w.heap.size := rfl; omega))); have hw2 := ho2.size; clear h2 ho2))
  all_goals
    go_wp2_with fail
  have hne : pb ≠ b := HPB.out.ne_ HB.out.blk (by decide)
  have hpd : pb < w.heap.size := HPB.out.lt
  go_loopw [16] (fun i wr => ∃ (k : Nat) (v' : Value), k ≤ ps.length ∧ i = .int .i64 (k : Int) ∧ BL wr B b (.pointer (some ⟨b, 0, none⟩)) v' (bs ++ Lib.repeatL [32, 32] d ++ (ps.take k).flatMap (fun s => s.data.toList)) ∧ FR B b w wr) (fun i _ => ps.length - (intOf i).toNat)
  case atStart => exact ⟨0, v2, Nat.zero_le _, rfl, by rw [List.take_zero, List.flatMap_nil, List.append_nil]; exact HB2.out, HF2.out⟩
  case round =>
    obtain ⟨k, v', hk, rfl, hb3, hf3⟩ := hrel
    have HB3 := Lib.hid hb3
    have HF3 := Lib.hid hf3
    have hz3 : w.heap.size ≤ wr.heap.size := hf3.ok.1
    clear hb3 hf3
    by_cases hlt : k < ps.length
    · have j0 : (k : Int) < (ps.length : Int) := by omega
      have j1 : (0 : Int) ≤ (k : Int) := by omega
      obtain ⟨s, hs⟩ : ∃ s, ps[k]? = some s := ⟨_, List.getElem?_eq_getElem hlt⟩
      have hbk := HF3.out.ok.2 pb _ _ (by decide) hne HPB.out
      have c1 : wr.cell? ⟨pb, k, none⟩ = some (.string s) := by rw [hbk.cell]; simp [List.getElem?_map, hs]
      have hfl := flat_take hs
      have hle := flat_le (ps := ps) (k + 1)
      rw [hfl, List.length_append, size_list] at hle
      have HW := Lib.hid (wstring_any s HB3.out (.inr rfl) (by rw [List.length_append, List.length_append, HRL.out]; omega) (by omega))
      rw [List.append_assoc, ← hfl] at HW
      have HRS := Lib.hid hfl
      clear hbk hfl hle hs
      go_wp2_with fail
      refine HW.out.mono ?_
      rintro e w4 ⟨rfl, v4, h4, ho4⟩
      have HB4 := Lib.hid h4
      have HF4 := Lib.hid (HF3.out.trans (HB3.out.fr ho4 (by omega)))
      clear h4 ho4 c1 HW
      go_wp2_with fail
      exact ⟨⟨k + 1, v4, by omega, by go_num, HB4.out, HF4.out⟩, by simp [intOf]; omega⟩
    · obtain rfl : k = ps.length := by omega
      have HB5 := Lib.hid (show BL wr B b (.pointer (some ⟨b, 0, none⟩)) v' (bs ++ Lib.repeatL [32, 32] d ++ ps.flatMap (fun s => s.data.toList)) by have h := HB3.out; rw [List.take_length] at h; exact h)
      have HW := Lib.hid (wbyte_any 10 HB5.out (.inr rfl) (by rw [List.length_append, List.length_append, HRL.out]; omega) (by omega))
      have HE := Lib.hid (show bs ++ Lib.repeatL [32, 32] d ++ ps.flatMap (fun s => s.data.toList) ++ [10] = bs ++ lineB d ps by unfold lineB; simp)
      rw [HE.out] at HW
      clear HB3
      go_wp2_with fail
      refine HW.out.mono ?_
      rintro e w4 ⟨rfl, v4, h4, ho4⟩
      have HB4 := Lib.hid h4
      have HF4 := Lib.hid (HF3.out.trans (HB5.out.fr ho4 (by omega)))
      clear h4 ho4 HW
      go_wp2_with fail
      go_end0
      exact ⟨rfl, _, HB4.out, HF4.out⟩
end Go.Proofs.YtfmdbmalmeimbaaDoor
