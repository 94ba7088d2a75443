/- Merged: Make0, Make. -/
import Derived.Test.YtfmdbmalmeimbaaDoorMRt
import Derived.Test.YtfmdbmalmeimbaaDoorPSectW
import Derived.Test.YtfmdbmalmeimbaaDoorWord
import Derived.Deep.QuietTactic
import Derived.BigQuiet
import Derived.OwnWalk
import Derived.Deep.DeepCutAuto
import Derived.Deep.CutBlock
import Derived.Deep.RegionHeld3
import Derived.Deep.AppendLies
/- The maker of trees of the laws: plain, and what lies in memory. -/
namespace Go.Proofs.YtfmdbmalmeimbaaDoor
open Go.RowKit
set_option maxRecDepth 100000

/-- what is true of every node that the maker makes -/
def madeN (sub : List Nd → Prop) (x : Nd) : Prop := x.name.size ≤ 41 ∧ (-9007199254740993 ≤ x.num ∧ x.num ≤ 9007199254740993) ∧ x.text.size ≤ 8 ∧ x.list.length ≤ 3 ∧ (∀ s ∈ x.list, s.size ≤ 8) ∧ sub x.nodes
/-- what is true of every tree that the maker makes -/
def Made : Nat → List Nd → Prop
  | 0, l => l.length ≤ 3 ∧ ∀ x ∈ l, madeN (· = []) x
  | d + 1, l => l.length ≤ 3 ∧ ∀ x ∈ l, madeN (Made d) x
def subM (d : Nat) : List Nd → Prop := match d with | 0 => (· = []) | d + 1 => Made d
theorem made_eq (d : Nat) (l : List Nd) : Made d l = (l.length ≤ 3 ∧ ∀ x ∈ l, madeN (subM d) x) := by cases d <;> rfl
theorem made_nil (d : Nat) : Made d [] := by rw [made_eq]; exact ⟨Nat.zero_le _, by simp⟩
theorem subM_nil (d : Nat) : subM d [] := by
  cases d with
  | zero => rfl
  | succ d => exact made_nil d
theorem made_sz {x : Nd} {sub : List Nd → Prop} (h : madeN sub x) (hs : x.nodes.length ≤ 1000000) : Sz x :=
  ⟨by have := h.1; omega, by have := h.2.2.1; omega, by have := h.2.2.2.1; omega, fun s hm => by have := h.2.2.2.2.1 s hm; omega, hs, by have := h.2.1; omega⟩
theorem made_all : ∀ (d : Nat) (l : List Nd), Made d l → AllN Sz l := by
  intro d
  induction d with
  | zero =>
    intro l h
    rw [made_eq] at h
    refine .mk l (fun t ht => ?_) (fun t ht => ?_)
    · have h1 := h.2 t ht
      have e : t.nodes = [] := h1.2.2.2.2.2
      exact made_sz h1 (by rw [e]; simp)
    · have e : t.nodes = [] := (h.2 t ht).2.2.2.2.2
      rw [e]; exact .nil
  | succ d ih =>
    intro l h
    rw [made_eq] at h
    refine .mk l (fun t ht => ?_) (fun t ht => ?_)
    · have h1 := h.2 t ht
      have e : Made d t.nodes := h1.2.2.2.2.2
      rw [made_eq] at e
      exact made_sz h1 (by have := e.1; omega)
    · exact ih _ (h.2 t ht).2.2.2.2.2
theorem made_len {d : Nat} {l : List Nd} (h : Made d l) : l.length ≤ 3 := by rw [made_eq] at h; exact h.1
theorem made_small {d : Nat} {l : List Nd} (h : Made d l) : Small l := (made_all d l h).small (by have := made_len h; omega)
theorem made_fit {d : Nat} {l : List Nd} (h : Made d l) : Fit l := (made_all d l h).fit (by have := made_len h; omega)
theorem cnt_le {K : Nat} : ∀ l : List Nd, (∀ t ∈ l, cntL t.nodes ≤ K) → cntL l ≤ l.length * (1 + K)
  | [], _ => by rw [cntL]; omega
  | t :: l, h => by
    have h1 := cnt_le l (fun x hx => h x (by simp [hx]))
    have h2 := h t (by simp)
    rw [cntL, cntN_eq, List.length_cons, Nat.add_mul]
    omega
theorem made_cnt0 : ∀ l, Made 0 l → cntL l ≤ 3 := fun l h => by
  rw [made_eq] at h
  have h1 := cnt_le (K := 0) l (fun t ht => by have e : t.nodes = [] := (h.2 t ht).2.2.2.2.2; rw [e, cntL]; omega)
  have := h.1
  omega
theorem made_cntS {d K : Nat} (ih : ∀ l, Made d l → cntL l ≤ K) (l : List Nd) (h : Made (d + 1) l) : cntL l ≤ 3 * (1 + K) := by
  rw [made_eq] at h
  have h1 := cnt_le (K := K) l (fun t ht => ih _ (h.2 t ht).2.2.2.2.2)
  exact Nat.le_trans h1 (Nat.mul_le_mul_right _ h.1)
theorem made_cnt {l : List Nd} (h : Made 3 l) : cntL l ≤ 120 := made_cntS (made_cntS (made_cntS made_cnt0)) l h
theorem made_lines {l : List Nd} (h : Made 3 l) : (linesF 8 0 l).length ≤ 140737488355328 := by
  have h1 := lines_len 8 0 (Nat.le_refl _) l (made_all 3 l h)
  have h2 := made_cnt h
  have h3 : cntL l * 20000000000 ≤ 120 * 20000000000 := Nat.mul_le_mul_right _ h2
  omega
/-! In memory. -/
def namesC : Array Value := #[.string ⟨#[97]⟩, .string ⟨#[98]⟩, .string ⟨#[99]⟩, .string ⟨#[120, 95, 49]⟩, .string ⟨#[116, 97, 103, 115]⟩, .string ⟨#[115, 101, 103, 109, 101, 110, 116, 48]⟩, .string ⟨#[49, 50, 97]⟩, .string ⟨#[45]⟩]
theorem names_at (j : Nat) (h : j < 8) : ∃ nm : ByteArray, nm.size ≤ 41 ∧ namesC[j]? = some (.string nm) := by
  match j, h with
  | 0, _ => exact ⟨_, by decide, rfl⟩
  | 1, _ => exact ⟨_, by decide, rfl⟩
  | 2, _ => exact ⟨_, by decide, rfl⟩
  | 3, _ => exact ⟨_, by decide, rfl⟩
  | 4, _ => exact ⟨_, by decide, rfl⟩
  | 5, _ => exact ⟨_, by decide, rfl⟩
  | 6, _ => exact ⟨_, by decide, rfl⟩
  | 7, _ => exact ⟨_, by decide, rfl⟩
/-- a call of the maker -/
def TreeRet (d B sb : Nat) (w : World) (e : Ending) (w' : World) : Prop :=
  ∃ v l, e = .returned v ∧ Made d l ∧ NL w' (fun g => w.heap.size ≤ g) v l ∧ SrcOk B w' sb ∧ Only (· = sb) w w'
/-- the maker at a round's head -/
structure KS (B sb d : Nat) (w wr : World) (v : Value) (x : List (Nd × Value × Value)) : Prop where
  nb : Blk wr w.heap.size 9 namesC
  no : NO wr (w.heap.size + 1) v x
  src : SrcOk B wr sb
  only : Only (· = sb) w wr
  md : ∀ t ∈ x.map (·.1), madeN (subM d) t
theorem KS.next {B sb d : Nat} {w wr wc : World} {v : Value} {x : List (Nd × Value × Value)} (h : KS B sb d w wr v x) (hsb : sb < w.heap.size) (hs : SrcOk B wc sb) (ho : Only (· = sb) wr wc) : KS B sb d w wc v x :=
  ⟨h.nb.only ho (by omega), h.no.only ho (fun k e => by omega), hs, h.only.trans ho, h.md⟩
theorem own_ne {w : World} {B g n : Nat} {t e : TypeId} {sz : Nat} {cs : Array Value} {v : Value} {xs : List Value} (h : w.ownsRow B e sz v n xs) (hb : Blk w g t cs) (ht : t ≠ e) : v.ownBlock ≠ some g := by
  rcases h.2 with ⟨rfl, _⟩ | ⟨k, cap, cur, rfl, hg, hh, _⟩
  · intro h; cases h
  · intro h
    injection h with h
    subst h
    have := hb.symm.trans hh
    injection this with this
    injection this with _ this
    exact ht this
/-- a node in the making -/
structure TN (B sb g : Nat) (wr wc : World) (nm : ByteArray) (kd nu : Int) (tx : ByteArray) (vl : Value) (ls : List ByteArray) (vn : Value) (ns : List Nd) : Prop where
  blk : Blk wc g 48 #[.string nm, .int .i64 kd, .int .i64 nu, .string tx, vl, vn]
  hg : wr.heap.size ≤ g
  src : SrcOk B wc sb
  only : Only (· = sb) wr wc
  lo : TO wc wr.heap.size vl ls
  vn : NL wc (fun k => wr.heap.size ≤ k ∧ k ≠ g ∧ vl.ownBlock ≠ some k) vn ns
section
variable {B sb g : Nat} {wr wc w' : World} {nm : ByteArray} {kd nu : Int} {tx : ByteArray} {vl : Value} {ls : List ByteArray} {vn : Value} {ns : List Nd}
theorem TN.next (h : TN B sb g wr wc nm kd nu tx vl ls vn ns) (hsb : sb < wr.heap.size) (hs : SrcOk B w' sb) (ho : Only (· = sb) wc w') : TN B sb g wr w' nm kd nu tx vl ls vn ns :=
  ⟨h.blk.only ho (by have := h.hg; omega), h.hg, hs, h.only.trans ho, own_only h.lo ho (fun k hk e => by have := (World.ownsRow.lt h.lo k hk).1; omega), h.vn.keep (Kept.of_only ho (fun k hk e => by have := hk.1; omega)) (fun _ h => h)⟩
theorem TN.below (h : TN B sb g wr wc nm kd nu tx vl ls vn ns) (hsb : sb < wr.heap.size) (hb : Below wc.heap.size wc w') : TN B sb g wr w' nm kd nu tx vl ls vn ns :=
  h.next hsb (h.src.below hb) (Only.of_below _ hb)
theorem TN.ne (h : TN B sb g wr wc nm kd nu tx vl ls vn ns) : vl.ownBlock ≠ some g := own_ne h.lo h.blk (by decide)
theorem TN.put (h : TN B sb g wr wc nm kd nu tx vl ls vn ns) (hsb : sb < wr.heap.size) (hB : B ≤ sb) {k : Nat} {u : Value} {nm' : ByteArray} {kd' nu' : Int} {tx' : ByteArray}
    (e : (#[Value.string nm, .int .i64 kd, .int .i64 nu, .string tx, vl, vn] : Array Value).setIfInBounds k u = #[Value.string nm', .int .i64 kd', .int .i64 nu', .string tx', vl, vn]) : TN B sb g wr (wc.setCell ⟨g, k, none⟩ u) nm' kd' nu' tx' vl ls vn ns := by
  have hg := h.hg
  have ho : Only (· = g) wc (wc.setCell ⟨g, k, none⟩ u) := (Only.refl (· = g) wc).setCell (p := ⟨g, k, none⟩) (.inl rfl) u
  refine ⟨?_, hg, h.src.only ho (by omega) (fun k e => by omega), h.only.setCell (p := ⟨g, k, none⟩) (.inr hg) u, own_only h.lo ho (fun k hk e => h.ne (e ▸ hk)), h.vn.keep (Kept.of_only ho (fun k hk e => hk.2.1 e)) (fun _ h => h)⟩
  have := h.blk.set_ k u
  rw [e] at this
  exact this
theorem TN.c (h : TN B sb g wr wc nm kd nu tx vl ls vn ns) : (wc.cell? ⟨g, 0, none⟩ = some (.string nm) ∧ wc.cell? ⟨g, 1, none⟩ = some (.int .i64 kd) ∧ wc.cell? ⟨g, 2, none⟩ = some (.int .i64 nu) ∧ wc.cell? ⟨g, 3, none⟩ = some (.string tx) ∧ wc.cell? ⟨g, 4, none⟩ = some vl ∧ wc.cell? ⟨g, 5, none⟩ = some vn) ∧ (wc.frozen? ⟨g, 0, none⟩ = false ∧ wc.frozen? ⟨g, 1, none⟩ = false ∧ wc.frozen? ⟨g, 2, none⟩ = false ∧ wc.frozen? ⟨g, 3, none⟩ = false ∧ wc.frozen? ⟨g, 4, none⟩ = false ∧ wc.frozen? ⟨g, 5, none⟩ = false) :=
  ⟨⟨by rw [h.blk.cell]; rfl, by rw [h.blk.cell]; rfl, by rw [h.blk.cell]; rfl, by rw [h.blk.cell]; rfl, by rw [h.blk.cell]; rfl, by rw [h.blk.cell]; rfl⟩, h.blk.frozen 0, h.blk.frozen 1, h.blk.frozen 2, h.blk.frozen 3, h.blk.frozen 4, h.blk.frozen 5⟩
/-- a text is appended to its list -/
theorem TN.push (h : TN B sb g wr wc nm kd nu tx vl ls vn ns) (hsb : sb < wr.heap.size) (hB : B ≤ sb) {vl' : Value} {s : ByteArray} (ho : w'.ownsRow wr.heap.size 9 1 vl' (ls.length + 1) (ls.map Value.string ++ [.string s])) (hg : wc.grownBy w' vl.ownBlock) (hd : vl'.ownBlock = vl.ownBlock ∨ vl'.ownBlock = some wc.heap.size) :
    TN B sb g wr (w'.setCell ⟨g, 4, none⟩ vl') nm kd nu tx vl' (ls ++ [s]) vn ns := by
  have hgw := h.hg
  have hlt : ∀ k, vl.ownBlock = some k → wr.heap.size ≤ k := fun k hk => (World.ownsRow.lt h.lo k hk).1
  have h1 : Only (fun k => vl.ownBlock = some k) wc w' := (Only.refl (fun k => vl.ownBlock = some k) wc).grown hg (fun k e => .inl e)
  have hb1 : Blk w' g 48 #[.string nm, .int .i64 kd, .int .i64 nu, .string tx, vl, vn] := h.blk.only h1 h.ne
  have hlo1 : TO w' wr.heap.size vl' (ls ++ [s]) := by
    show w'.ownsRow _ _ _ _ _ _
    rw [List.length_append, List.map_append]
    exact ho
  have hne1 : vl'.ownBlock ≠ some g := own_ne hlo1 hb1 (by decide)
  have h2 : Only (· = g) w' (w'.setCell ⟨g, 4, none⟩ vl') := (Only.refl (· = g) w').setCell (p := ⟨g, 4, none⟩) (.inl rfl) vl'
  have hvn1 : NL w' (fun k => wr.heap.size ≤ k ∧ k ≠ g ∧ vl'.ownBlock ≠ some k) vn ns :=
    (NL.low (P := fun k => wr.heap.size ≤ k) (Q := fun k => k ≠ g ∧ vl.ownBlock ≠ some k) h.vn).keep (Kept.of_only h1 (fun k hk e => hk.2.1.2 e)) (fun k hk => ⟨hk.1, hk.2.1.1, fun e => by
      rcases hd with hd | hd
      · exact hk.2.1.2 (hd ▸ e)
      · rw [hd] at e
        injection e with e
        have := hk.2.2
        omega⟩)
  refine ⟨?_, hgw, ?_, ?_, own_only hlo1 h2 (fun k hk e => hne1 (e ▸ hk)), hvn1.keep (Kept.of_only h2 (fun k hk e => hk.2.1 e)) (fun _ h => h)⟩
  · exact hb1.set_ 4 vl'
  · exact (h.src.only h1 (fun e => by have := hlt _ e; omega) (fun k e => by have := hlt _ e; omega)).only h2 (by omega) (fun k e => by omega)
  · exact (h.only.grown hg (fun k e => .inr (hlt k e))).setCell (p := ⟨g, 4, none⟩) (.inr hgw) vl'
/-- its nodes are stored -/
theorem TN.nodes {vn' : Value} {ns' : List Nd} (h : TN B sb g wr wc nm kd nu tx vl ls vn ns) (hsb : sb < wr.heap.size) (hB : B ≤ sb) (hs : SrcOk B w' sb) (ho : Only (· = sb) wc w') (hn : NL w' (fun k => wc.heap.size ≤ k) vn' ns') :
    TN B sb g wr (w'.setCell ⟨g, 5, none⟩ vn') nm kd nu tx vl ls vn' ns' := by
  have h1 := h.next hsb hs ho
  have hg := h.hg
  have hgl := h.blk.lt
  have hs1 := h.only.size
  have h2 : Only (· = g) w' (w'.setCell ⟨g, 5, none⟩ vn') := (Only.refl (· = g) w').setCell (p := ⟨g, 5, none⟩) (.inl rfl) vn'
  refine ⟨h1.blk.set_ 5 vn', hg, hs.only h2 (by omega) (fun k e => by omega), h1.only.setCell (p := ⟨g, 5, none⟩) (.inr hg) vn', own_only h1.lo h2 (fun k hk e => h1.ne (e ▸ hk)), ?_⟩
  refine hn.keep (Kept.of_only h2 (fun k hk e => by omega)) (fun k hk => ⟨by omega, by omega, fun e => ?_⟩)
  have := (World.ownsRow.lt h.lo k e).2
  omega
end
/-- the node is complete: what lies in it, for the row that it goes into -/
theorem TN.fin {B sb g base : Nat} {wr wc : World} {nm : ByteArray} {kd nu : Int} {tx : ByteArray} {vl : Value} {ls : List ByteArray} {vn : Value} {ns : List Nd} {v : Value} (h : TN B sb g wr wc nm kd nu tx vl ls vn ns) (hb : base ≤ wr.heap.size) (hv : ∀ k, v.ownBlock = some k → k < wr.heap.size) :
    TL wc (fun k => base ≤ k ∧ v.ownBlock ≠ some k) vl ls ∧ NL wc (fun k => base ≤ k ∧ v.ownBlock ≠ some k) vn ns :=
  ⟨h.lo.tl (fun k hk => ⟨by omega, fun e => by have := hv k e; omega⟩), h.vn.mono (fun k hk => ⟨by have := hk.1; omega, fun e => by have := hv k e; have := hk.1; omega⟩)⟩
end Go.Proofs.YtfmdbmalmeimbaaDoor
/- The maker of trees of the laws: the walk. -/
namespace Go.Proofs.YtfmdbmalmeimbaaDoor
open Go.RowKit
set_option maxRecDepth 100000

/-- the first look at a node: what the region that makes it leaves -/
def NewN (B sb : Nat) (wr : World) (p : Value) (wx : World) : Prop := ∃ (g : Nat) (nm : ByteArray) (kd : Int), p = .pointer (some ⟨g, 0, none⟩) ∧ nm.size ≤ 41 ∧ 1 ≤ kd ∧ kd ≤ 4 ∧ TN B sb g wr wx nm kd 0 ⟨#[]⟩ (.slice none 0 0) [] (.slice none 0 0) []
theorem src_drew {B sb : Nat} {w : World} (h : SrcOk B w sb) : SrcOk B w.drew sb := h.below (Below.refl _ _).drew
theorem src_al {B sb : Nat} {w : World} {o : Obj} (h : SrcOk B w sb) : SrcOk B (w.alloc o) sb := h.below ((Below.refl _ _).al _)
theorem zc {W : World} {g : Nat} {T : TypeId} (h : Blk W g T Z6) : (W.cell? ⟨g, 0, none⟩ = some (.string ⟨#[]⟩) ∧ W.cell? ⟨g, 1, none⟩ = some (.int .i64 0) ∧ W.cell? ⟨g, 2, none⟩ = some (.int .i64 0) ∧ W.cell? ⟨g, 3, none⟩ = some (.string ⟨#[]⟩) ∧ W.cell? ⟨g, 4, none⟩ = some (.slice none 0 0) ∧ W.cell? ⟨g, 5, none⟩ = some (.slice none 0 0)) ∧ (W.frozen? ⟨g, 0, none⟩ = false ∧ W.frozen? ⟨g, 1, none⟩ = false ∧ W.frozen? ⟨g, 2, none⟩ = false ∧ W.frozen? ⟨g, 3, none⟩ = false ∧ W.frozen? ⟨g, 4, none⟩ = false ∧ W.frozen? ⟨g, 5, none⟩ = false) :=
  ⟨⟨by rw [h.cell]; rfl, by rw [h.cell]; rfl, by rw [h.cell]; rfl, by rw [h.cell]; rfl, by rw [h.cell]; rfl, by rw [h.cell]; rfl⟩, h.frozen 0, h.frozen 1, h.frozen 2, h.frozen 3, h.frozen 4, h.frozen 5⟩
theorem reads_one (W : World) (z : ByteArray) : Reads (W.alloc (.cells #[.string z] 9)) (W.alloc (.cells #[.string z] 9)).heap.size 1 (some ⟨W.heap.size, 0, none⟩) 1 [.string z] :=
  ⟨rfl, fun _ => ⟨_, rfl, by simp, cell_one_at (.string z) 9 rfl⟩⟩
theorem one_text (z : ByteArray) : ∀ u ∈ [Value.string z], u.oneCell' = true := by intro u hu; rw [List.mem_singleton.1 hu]; rfl
theorem sizes_push {ls : List ByteArray} {z : ByteArray} (h : ∀ s ∈ ls, s.size ≤ 8) (hz : z.size ≤ 8) : ∀ s ∈ ls ++ [z], s.size ≤ 8 := fun s hs => by
  rcases List.mem_append.1 hs with hs | hs
  · exact h s hs
  · rw [List.mem_singleton.1 hs]; exact hz
theorem TO.nil (w : World) (base : Nat) : TO w base (.slice none 0 0) [] := World.ownsRow_nil _ _ _ _
theorem TN.new {B sb : Nat} {wr wc : World} (nm : ByteArray) (kd : Int) (hs : SrcOk B wc sb) (ho : Only (· = sb) wr wc) : TN B sb wc.heap.size wr (wc.alloc (.cells #[.string nm, .int .i64 kd, .int .i64 0, .string ⟨#[]⟩, .slice none 0 0, .slice none 0 0] 48)) nm kd 0 ⟨#[]⟩ (.slice none 0 0) [] (.slice none 0 0) [] :=
  ⟨Blk.new _ _ _, ho.size, src_al hs, ho.alloc _, TO.nil _ _, .nil _ _⟩
theorem TN.stored {B sb g : Nat} {wr wc : World} (nm : ByteArray) (kd : Int) (hs : SrcOk B wc sb) (ho : Only (· = sb) wr wc) (hb : Blk wc g 48 Z6) (hg : wr.heap.size ≤ g) (hsb : sb < wr.heap.size) (hB : B ≤ sb) : TN B sb g wr (put6 wc g (.string nm) (.int .i64 kd) (.int .i64 0) (.string ⟨#[]⟩) (.slice none 0 0) (.slice none 0 0)) nm kd 0 ⟨#[]⟩ (.slice none 0 0) [] (.slice none 0 0) [] :=
  ⟨put6_blk hb, hg, hs.only (put6_only wc g _ _ _ _ _ _) (by omega) (fun k e => by omega), put6_from ho hg _ _ _ _ _ _, TO.nil _ _, .nil _ _⟩
set_option maxHeartbeats 16000000 in
theorem tree_step (B sb d : Nat) (w : World) (hd : d ≤ 3) (ih : ∀ d', d = d' + 1 → ∀ w, SrcOk B w sb → Calls Tryd.prog 15 #[.pointer (some ⟨sb, 0, none⟩), .int .i64 d', .int .i64 3] w (TreeRet d' B sb w)) (h : SrcOk B w sb) :
    Calls Tryd.prog 15 #[.pointer (some ⟨sb, 0, none⟩), .int .i64 d, .int .i64 3] w (TreeRet d B sb w) := by
    have hlt := h.lt
    obtain ⟨i0, hi0, hz0, hz1, hz2⟩ := info_parts node_info
    obtain ⟨j0, hj0, jz0, jz1, jz2⟩ := info_parts string_info
    have H := Lib.hid h
    have IH := Lib.hid ih
    clear h ih
    go_enter Tryd.func15, Tryd.ntmps15
    go_wp2_with fail
    refine (srcN_any B sb _ _ (H.out.below ((Below.refl _ _).al _)) (by omega) (by omega)).mono ?_
    rintro e w1 ⟨n, ⟨hn0, hn1⟩, rfl, hok, ho⟩
    obtain ⟨n, rfl⟩ := Int.eq_ofNat_of_zero_le hn0
    have HOK := Lib.hid hok
    have HO := Lib.hid ho
    clear hok ho
    go_wp2_with fail
    go_loopw [7, 9] (fun v i wr => ∃ (k : Nat) (x : List (Nd × Value × Value)), k + x.length ≤ 3 ∧ i = .int .i64 (k : Int) ∧ KS B sb d w wr v x) (fun _ i _ => (intOf i).toNat)
    case atStart => exact ⟨n, [], by rw [List.length_nil]; omega, rfl, ⟨(Blk.new w 9 namesC).only HO.out (by omega), ⟨World.ownsRow_nil _ _ _ _, fun k y hy => by simp at hy, fun k y hy => by simp at hy⟩, HOK.out, ((Only.refl _ _).alloc _).trans_ HO.out (fun _ _ h => h), by simp⟩⟩
    case round =>
    obtain ⟨k, x, hkx, rfl, hks⟩ := hrel
    have HKS := Lib.hid hks
    obtain ⟨Av, cv, ev⟩ := hks.no.form
    have hsr : w.heap.size < wr.heap.size := hks.nb.lt
    have hsb2 : sb < wr.heap.size := by omega
    have HEV := Lib.hid ev
    clear hks HO HOK H ev
    by_cases hk0 : 0 < k
    case neg =>
      obtain rfl : k = 0 := by omega
      have ev := HEV.out
      subst ev
      go_wp2_with fail
      go_ret
      exact ⟨_, x.map (·.1), rfl, by rw [made_eq]; exact ⟨by rw [List.length_map]; omega, HKS.out.md⟩, HKS.out.no.nl.mono (fun g hg => by omega), HKS.out.src, HKS.out.only⟩
    have k0 : (0 : Int) < (k : Int) := by omega
    have HN := Lib.hid (show ∀ y : Int, 0 ≤ y → y < 2 → ∃ (j : Nat) (nm : ByteArray), j < 8 ∧ ((k : Int) * 3 + y).tmod 8 = j ∧ IntKind.i64.wrap ((k : Int) * 3 + y) = (k : Int) * 3 + y ∧ nm.size ≤ 41 ∧ ∀ w' : World, Only (· = sb) wr w' → w'.cell? ⟨w.heap.size, j, none⟩ = some (.string nm) from fun y hy0 hy1 => by
      have h0 : ((k : Int) * 3 + y).tmod 8 = ((k : Int) * 3 + y) % 8 := Int.tmod_eq_emod_of_nonneg (by omega)
      obtain ⟨j, hj⟩ := Int.eq_ofNat_of_zero_le (show 0 ≤ ((k : Int) * 3 + y) % 8 by omega)
      obtain ⟨nm, hn1, hn2⟩ := names_at j (by omega)
      exact ⟨j, nm, by omega, h0.trans hj, IntWalk.i64_in _ (by omega), hn1, fun w' ho => by rw [((HKS.out.nb).only ho (by omega)).cell]; exact hn2⟩)
    have w3 : IntKind.i64.wrap ((k : Int) * 3) = (k : Int) * 3 := IntWalk.i64_in _ (by omega)
    go_upto_region 6 with fail
    go_cut [10] (fun p wx => NewN B sb wr p wx)
    case first =>
      have HS := Lib.hid HKS.out.src
      have HZ := Lib.hid (show ∀ w' : World, Only (· = sb) (wr.alloc (.cells Z6 48)).drew w' → Blk w' wr.heap.size 48 Z6 from fun w' ho => ((Blk.new wr 48 Z6).below (Below.refl _ _).drew (Blk.new wr 48 Z6).lt).only ho (by omega))
      clear HKS
      go_region_law (first
        | (go_simp; go_at_call 17; refine (srcN_any B sb 2 _ (by first | exact src_drew HS.out | exact src_drew (src_al HS.out)) (by omega) (by omega)).mono ?_; rintro e w2 ⟨y, ⟨hy1, hy2⟩, rfl, hok2, ho2⟩; obtain ⟨j, nm, hj, e1, e2, hnm, hcj⟩ := HN.out y hy1 hy2; have hj2 : (j : Int) < 8 := (by omega); have HCJ := Lib.hid hcj; have HS2 := Lib.hid hok2; have HO2 := Lib.hid (show Only (· = sb) wr w2 from (by first | exact ((Only.refl _ wr).drew).trans ho2 | exact (((Only.refl _ wr).alloc _).drew).trans ho2)); (try have HA := Lib.hid (HZ.out w2 ho2)); have c2 := hcj w2 HO2.out; have hz2 : w.heap.size < w2.heap.size := (by have := HO2.out.size; omega); have HNM := Lib.hid hnm; have hsw2 : sb < w2.heap.size := (by omega); have hw2 : wr.heap.size ≤ w2.heap.size := HO2.out.size; clear hcj hok2 ho2 hnm; skip)
        | (go_simp; go_at_call 30; refine (srcRange_any B sb 1 4 _ (by first | exact HS2.out | exact src_al HS2.out) (by omega) (by omega) (by omega)).mono ?_; rintro e w5 ⟨kd, ⟨hkd1, hkd2⟩, rfl, hok5, ho5⟩; have HO5 := Lib.hid (show Only (· = sb) wr w5 from (by first | exact HO2.out.trans ho5 | exact (HO2.out.alloc _).trans ho5)); have c5 := HCJ.out w5 HO5.out; have HS5 := Lib.hid hok5; (first | (have HA5 := Lib.hid (HA.out.only ho5 (by omega)); obtain ⟨⟨a0, a1, a2, a3, a4, a5⟩, b0, b1, b2, b3, b4, b5⟩ := zc HA5.out) | (have HA5 := Lib.hid ((Blk.new w2 48 Z6).only ho5 (by omega)); obtain ⟨⟨a0, a1, a2, a3, a4, a5⟩, b0, b1, b2, b3, b4, b5⟩ := zc HA5.out) | skip); have hz5 : w.heap.size < w5.heap.size := (by have := HO5.out.size; omega); skip))
      all_goals
        first
          | (have HA6 := HA5.out
             go_wp2_with fail
             go_meet
             case rel => exact ⟨_, nm, kd, rfl, HNM.out, by omega, by omega, TN.stored nm kd HS5.out HO5.out HA6 (by omega) hsb2 (by omega)⟩)
          | (go_wp2_with fail
             go_meet
             case rel => exact ⟨_, nm, kd, rfl, HNM.out, by omega, by omega, TN.new nm kd HS5.out HO5.out⟩)
    case rest =>
      obtain ⟨g, nm, kd, rfl, hnm, hkd1, hkd2, htn⟩ := hcut
      have HTN := Lib.hid htn
      obtain ⟨⟨p0, p1, p2, p3, p4, p5⟩, f0, f1, f2, f3, f4, f5⟩ := htn.c
      clear htn HN
      go_upto_region 7 with fail
      go_cut [39] (fun b wx => wx = wc ∧ b = .bool (decide (d = 0) && decide (kd = 4)))
      case first =>
        by_cases hd0 : d = 0
        · have z : ((d : Int) == 0) = true := beq_iff_eq.2 (by omega)
          by_cases h4 : kd = 4
          · have z2 : (kd == 4) = true := beq_iff_eq.2 h4
            have HE := Lib.hid (show (decide (d = 0) && decide (kd = 4)) = true by rw [decide_eq_true hd0, decide_eq_true h4]; rfl)
            clear hd0 h4
            go_wp2_with fail
            go_meet
            case rel => exact ⟨rfl, by rw [HE.out]⟩
          · have z2 : (kd == 4) = false := beq_eq_false_iff_ne.2 h4
            have HE := Lib.hid (show (decide (d = 0) && decide (kd = 4)) = false by rw [decide_eq_false h4, Bool.and_false])
            clear hd0 h4
            go_wp2_with fail
            go_meet
            case rel => exact ⟨rfl, by rw [HE.out]⟩
        · have z : ((d : Int) == 0) = false := beq_eq_false_iff_ne.2 (by omega)
          have HE := Lib.hid (show (decide (d = 0) && decide (kd = 4)) = false by rw [decide_eq_false hd0, Bool.false_and])
          clear hd0
          go_wp2_with fail
          go_meet
          case rel => exact ⟨rfl, by rw [HE.out]⟩
      case rest =>
      obtain ⟨rfl, rfl⟩ := hcut
      obtain ⟨q, hq⟩ : ∃ q, (decide (d = 0) && decide (kd = 4)) = q := ⟨_, rfl⟩
      have HQ := Lib.hid hq
      rw [hq]
      clear hq
      go_upto_if 39 with fail
      go_cut [] (fun wx => ∃ kd' : Int, (kd' = 4 → d ≠ 0) ∧ 1 ≤ kd' ∧ kd' ≤ 4 ∧ TN B sb g wr wx nm kd' 0 ⟨#[]⟩ (.slice none 0 0) [] (.slice none 0 0) [])
      case first =>
        cases q with
        | true =>
          go_wp2_with fail
          go_meet
          case rel => exact ⟨1, by omega, by omega, by omega, HTN.out.put hsb2 hlt.1 rfl⟩
        | false =>
          go_wp2_with fail
          go_meet
          case rel => exact ⟨kd, (fun h4 h0 => by have := HQ.out; rw [decide_eq_true h0, decide_eq_true h4] at this; cases this), by omega, by omega, HTN.out⟩
      case rest =>
      clear HQ p0 p1 p2 p3 p4 p5 f0 f1 f2 f3 f4 f5 HTN hkd1 hkd2
      obtain ⟨kd, hk4, hkd1, hkd2, htn⟩ := hcut
      have HTN := Lib.hid htn
      have HK4 := Lib.hid hk4
      obtain ⟨⟨p0, p1, p2, p3, p4, p5⟩, f0, f1, f2, f3, f4, f5⟩ := htn.c
      have hgl := htn.blk.lt
      have hgw := htn.hg
      clear htn hk4
      go_upto_block 2 with fail
      go_cut [] (fun wx => ∃ (nu : Int) (tx : ByteArray) (vl : Value) (ls : List ByteArray) (vn : Value) (ns : List Nd), (-9007199254740993 ≤ nu ∧ nu ≤ 9007199254740993) ∧ tx.size ≤ 8 ∧ ls.length ≤ 2 ∧ (∀ s ∈ ls, s.size ≤ 8) ∧ subM d ns ∧ TN B sb g wr wx nm kd nu tx vl ls vn ns)
      case first =>
        rcases (show kd = 1 ∨ kd = 2 ∨ kd = 3 ∨ kd = 4 by omega) with rfl | rfl | rfl | rfl
        · have HL := Lib.hid (ints_reads wc [0, 1, -1, 12, 9007199254740992, -9007199254740992, 7, 300] (by decide))
          go_wp2_with fail
          refine (srcPick_any B sb _ 8 8 [0, 1, -1, 12, 9007199254740992, -9007199254740992, 7, 300] _ (src_al HTN.out.src) (fun z => -9007199254740993 ≤ z ∧ z ≤ 9007199254740993) (by omega) (by omega) HL.out (fun ad e => by injection e with e; rw [← e]; show wc.heap.size ≠ sb; omega) (by intro z hz; simp at hz; omega)).mono ?_
          rintro e w4 ⟨z, hz, rfl, hs4, ho4⟩
          have HT4 := Lib.hid ((HTN.out.below hsb2 ((Below.refl _ _).al _)).next hsb2 hs4 ho4)
          obtain ⟨⟨q0, q1, q2, q3, q4, q5⟩, g0, g1, g2, g3, g4, g5⟩ := HT4.out.c
          clear hs4 ho4 HL
          go_wp2_with fail
          go_meet
          case rel => exact ⟨z, _, _, _, _, _, hz, by decide, by decide, by simp, subM_nil d, HT4.out.put hsb2 hlt.1 rfl⟩
        · have HL := Lib.hid (texts_reads wc [⟨#[]⟩, ⟨#[116]⟩, ⟨#[97, 32, 98]⟩, ⟨#[34, 113, 34]⟩, ⟨#[92]⟩, ⟨#[108, 10, 108]⟩, ⟨#[126]⟩] (by decide))
          go_wp2_with fail
          refine (srcWord_any B sb _ 7 7 [⟨#[]⟩, ⟨#[116]⟩, ⟨#[97, 32, 98]⟩, ⟨#[34, 113, 34]⟩, ⟨#[92]⟩, ⟨#[108, 10, 108]⟩, ⟨#[126]⟩] _ (src_al HTN.out.src) (fun z => z.size ≤ 8) (by omega) (by omega) HL.out (fun ad e => by injection e with e; rw [← e]; show wc.heap.size ≠ sb; omega) (by intro z hz; simp at hz; rcases hz with rfl | rfl | rfl | rfl | rfl | rfl | rfl <;> decide)).mono ?_
          rintro e w4 ⟨z, hz, rfl, hs4, ho4⟩
          have HT4 := Lib.hid ((HTN.out.below hsb2 ((Below.refl _ _).al _)).next hsb2 hs4 ho4)
          have HZ := Lib.hid hz
          obtain ⟨⟨q0, q1, q2, q3, q4, q5⟩, g0, g1, g2, g3, g4, g5⟩ := HT4.out.c
          clear hs4 ho4 HL hz
          go_wp2_with fail
          go_meet
          case rel => exact ⟨0, z, _, _, _, _, by omega, HZ.out, by decide, by simp, subM_nil d, HT4.out.put hsb2 hlt.1 rfl⟩
        · obtain ⟨wo, hwo⟩ : ∃ wo, wo = wr := ⟨_, rfl⟩
          subst hwo
          go_wp2_with fail
          refine (srcN_any B sb 3 _ HTN.out.src (by omega) (by omega)).mono ?_
          rintro e w4 ⟨m, ⟨hm0, hm1⟩, rfl, hs4, ho4⟩
          obtain ⟨m, rfl⟩ := Int.eq_ofNat_of_zero_le hm0
          have HT4 := Lib.hid (HTN.out.next hsb2 hs4 ho4)
          clear hs4 ho4
          go_wp2_with fail
          go_loopw [11] (fun i wx => ∃ (j : Nat) (vl : Value) (ls : List ByteArray), j + ls.length ≤ 2 ∧ i = .int .i64 (j : Int) ∧ (∀ s ∈ ls, s.size ≤ 8) ∧ TN B sb g wo wx nm 3 0 ⟨#[]⟩ vl ls (.slice none 0 0) []) (fun i _ => (intOf i).toNat)
          case atStart => exact ⟨m, _, [], by rw [List.length_nil]; omega, rfl, by simp, HT4.out⟩
          case round =>
            clear HT4 HTN p0 p1 p2 p3 p4 p5 f0 f1 f2 f3 f4 f5
            obtain ⟨j, vl, ls, hjl, rfl, hls, htn⟩ := hrel
            have HT := Lib.hid htn
            have HLS := Lib.hid hls
            obtain ⟨⟨p0, p1, p2, p3, p4, p5⟩, f0, f1, f2, f3, f4, f5⟩ := htn.c
            clear htn hls
            by_cases hjp : 0 < j
            · have z0 : (0 : Int) < (j : Int) := by omega
              have HTX := Lib.hid (HT.out.below hsb2 ((Below.refl _ _).al (.cells (T [⟨#[]⟩, ⟨#[116]⟩, ⟨#[34]⟩, ⟨#[97, 44, 32, 98]⟩]).toArray 9)).drew)
              have HL := Lib.hid (show Reads (wr.alloc (.cells (T [⟨#[]⟩, ⟨#[116]⟩, ⟨#[34]⟩, ⟨#[97, 44, 32, 98]⟩]).toArray 9)).drew (wr.alloc (.cells (T [⟨#[]⟩, ⟨#[116]⟩, ⟨#[34]⟩, ⟨#[97, 44, 32, 98]⟩]).toArray 9)).drew.heap.size 1 (some ⟨wr.heap.size, 0, none⟩) 4 (T [⟨#[]⟩, ⟨#[116]⟩, ⟨#[34]⟩, ⟨#[97, 44, 32, 98]⟩]) from texts_reads wr [⟨#[]⟩, ⟨#[116]⟩, ⟨#[34]⟩, ⟨#[97, 44, 32, 98]⟩] (by decide))
              have hsr4 : sb < wr.heap.size := by have := HT.out.only.size; omega
              go_wp2_with fail
              have r4 : (wr.alloc (.cells #[.string ⟨#[]⟩, .string ⟨#[116]⟩, .string ⟨#[34]⟩, .string ⟨#[97, 44, 32, 98]⟩] 9)).cell? ⟨g, 4, none⟩ = some vl := HTX.out.c.1.2.2.2.2.1
              go_region_law (first
                | (go_simp; go_at_call 16; refine (srcWord_any B sb _ 4 4 [⟨#[]⟩, ⟨#[116]⟩, ⟨#[34]⟩, ⟨#[97, 44, 32, 98]⟩] _ HTX.out.src (fun z => z.size ≤ 8) (by omega) (by omega) HL.out (fun ad e => by injection e with e; rw [← e]; show wr.heap.size ≠ sb; omega) (by intro z hz; simp at hz; rcases hz with rfl | rfl | rfl | rfl <;> decide)).mono ?_; rintro e w6 ⟨z, hz, rfl, hs6, ho6⟩; have HW6 := Lib.hid (HTX.out.next hsb2 hs6 ho6); have HT6 := Lib.hid (HW6.out.below hsb2 ((Below.refl _ _).al (.cells #[.string z] 9))); have HZ6 := Lib.hid hz; have r6 := HW6.out.c.1.2.2.2.2.1; have r7 := HT6.out.c.1.2.2.2.2.1; clear hs6 ho6 hz; skip)
                | (refine step_append_any _ rfl (.tmp 70) (.tmp 74) 33 rfl wo.heap.size 9 j0 _ 1 16 Tryd.underlying33 hj0 jz0 jz1 jz2 rfl (by decide) vl ls.length (ls.map Value.string) (by simp [Act.eval]) HT6.out.lo _ _ 1 1 [.string z] (by simp [Act.eval]) (reads_one w6 z) (one_text z) (by unfold maxLen; omega) (by omega) HT6.out.only.size ?_; intro v8 w8 ho8 hg8 hd8; obtain ⟨A8, d8, e8⟩ := own_form ho8; subst e8; have HB8 := Lib.hid (HT6.out.blk.only ((Only.refl (fun k => vl.ownBlock = some k) _).grown hg8 (fun k e => .inl e)) HT6.out.ne); have HP8 := Lib.hid (HT6.out.push hsb2 hlt.1 ho8 hg8 hd8); have q4 : w8.cell? ⟨g, 4, none⟩ = some vl := (by rw [HB8.out.cell]; rfl); have g4 := HB8.out.frozen 4; clear ho8 hg8 hd8))
              all_goals
                go_wp2_with fail
                go_roundw
                case rel => exact ⟨j - 1, _, ls ++ [z], by rw [List.length_append, List.length_cons, List.length_nil]; omega, by go_num, sizes_push HLS.out HZ6.out, HP8.out⟩
                case measure => simp [intOf]; omega
            · obtain rfl : j = 0 := by omega
              go_wp2_with fail
              go_meet
              case rel => exact ⟨0, _, vl, ls, _, _, by omega, by decide, by omega, HLS.out, subM_nil d, HT.out⟩
        · obtain ⟨d', hd'⟩ : ∃ d', d = d' + 1 := ⟨d - 1, by have := HK4.out rfl; omega⟩
          have HIH := Lib.hid (IH.out d' hd')
          have HD := Lib.hid hd'
          have z : (d : Int) - 1 = (d' : Int) := by omega
          clear hd'
          go_wp2_with fail
          refine (HIH.out wc HTN.out.src).mono ?_
          rintro e w4 ⟨v4, l4, rfl, hm4, hn4, hs4, ho4⟩
          have HT4 := Lib.hid (HTN.out.next hsb2 hs4 ho4)
          have HT5 := Lib.hid (HTN.out.nodes hsb2 hlt.1 hs4 ho4 hn4)
          have HM := Lib.hid (show subM d l4 by rw [HD.out]; exact hm4)
          obtain ⟨⟨q0, q1, q2, q3, q4, q5⟩, g0, g1, g2, g3, g4, g5⟩ := HT4.out.c
          obtain ⟨A4, c4, rfl, _⟩ := hn4.form
          clear hs4 ho4 hm4 hn4
          go_wp2_with fail
          go_meet
          case rel => exact ⟨0, _, _, _, _, l4, by omega, by decide, by decide, by simp, HM.out, HT5.out⟩
      case rest =>
      obtain ⟨nu, tx, vl, ls, vn, ns, hnu, htx, hll, hls, hns, htn⟩ := hcut
      have HT := Lib.hid htn
      have HLS := Lib.hid hls
      have HNS := Lib.hid hns
      have HNM := Lib.hid hnm
      have HTXT := Lib.hid htx
      have HNU := Lib.hid hnu
      have hgl := htn.blk.lt
      have hwc : wr.heap.size ≤ wc.heap.size := htn.only.size
      clear htn hls hns hnm htx hnu HTN HK4 p0 p1 p2 p3 p4 p5 f0 f1 f2 f3 f4 f5
      go_wp2_with fail
      refine (srcN_any B sb 40 wc HT.out.src (by omega) (by omega)).mono ?_
      rintro e w5 ⟨y, ⟨hy0, hy1⟩, rfl, hs5, ho5⟩
      have HT5 := Lib.hid (HT.out.next hsb2 hs5 ho5)
      clear hs5 ho5 HT
      obtain ⟨⟨p0, p1, p2, p3, p4, p5⟩, f0, f1, f2, f3, f4, f5⟩ := HT5.out.c
      have hgl5 := HT5.out.blk.lt
      have hs5 : sb < w5.heap.size := by have := HT5.out.only.size; omega
      go_upto_block 5 with fail
      go_cut [] (fun wx => ∃ (nm : ByteArray) (kd nu : Int) (tx : ByteArray) (vl : Value) (ls : List ByteArray), nm.size ≤ 41 ∧ (-9007199254740993 ≤ nu ∧ nu ≤ 9007199254740993) ∧ tx.size ≤ 8 ∧ ls.length ≤ 3 ∧ (∀ s ∈ ls, s.size ≤ 8) ∧ TN B sb g wr wx nm kd nu tx vl ls vn ns)
      case first =>
        rcases (show y = 0 ∨ y = 1 ∨ y = 2 ∨ y = 3 ∨ y = 4 ∨ 5 ≤ y by omega) with rfl | rfl | rfl | rfl | rfl | hy5
        · have HL := Lib.hid (texts_reads w5 [⟨#[]⟩, ⟨#[49]⟩, ⟨#[97, 32, 98]⟩, ⟨#[123]⟩, ⟨#[97, 97, 97, 97, 97, 97, 97, 97, 97, 97, 97, 97, 97, 97, 97, 97, 97, 97, 97, 97, 97, 97, 97, 97, 97, 97, 97, 97, 97, 97, 97, 97, 97, 97, 97, 97, 97, 97, 97, 97, 97]⟩] (by decide))
          go_wp2_with fail
          refine (srcWord_any B sb _ 5 5 [⟨#[]⟩, ⟨#[49]⟩, ⟨#[97, 32, 98]⟩, ⟨#[123]⟩, ⟨#[97, 97, 97, 97, 97, 97, 97, 97, 97, 97, 97, 97, 97, 97, 97, 97, 97, 97, 97, 97, 97, 97, 97, 97, 97, 97, 97, 97, 97, 97, 97, 97, 97, 97, 97, 97, 97, 97, 97, 97, 97]⟩] _ (src_al HT5.out.src) (fun z => z.size ≤ 41) (by omega) (by omega) HL.out (fun ad e => by injection e with e; rw [← e]; show w5.heap.size ≠ sb; omega) (by intro z hz; simp at hz; rcases hz with rfl | rfl | rfl | rfl | rfl <;> decide)).mono ?_
          rintro e w6 ⟨z, hz, rfl, hs6, ho6⟩
          have HT6 := Lib.hid ((HT5.out.below hsb2 ((Below.refl _ _).al _)).next hsb2 hs6 ho6)
          have HZ := Lib.hid hz
          obtain ⟨⟨q0, q1, q2, q3, q4, q5⟩, g0, g1, g2, g3, g4, g5⟩ := HT6.out.c
          clear hs6 ho6 HL hz
          go_wp2_with fail
          go_meet
          case rel => exact ⟨z, _, _, _, _, _, HZ.out, HNU.out, HTXT.out, by omega, HLS.out, HT6.out.put hsb2 hlt.1 rfl⟩
        · have HL := Lib.hid (ints_reads w5 [0, 5, -1] (by decide))
          go_wp2_with fail
          refine (srcPick_any B sb _ 3 3 [0, 5, -1] _ (src_al HT5.out.src) (fun z => True) (by omega) (by omega) HL.out (fun ad e => by injection e with e; rw [← e]; show w5.heap.size ≠ sb; omega) (fun _ _ => trivial)).mono ?_
          rintro e w6 ⟨z, _, rfl, hs6, ho6⟩
          have HT6 := Lib.hid ((HT5.out.below hsb2 ((Below.refl _ _).al _)).next hsb2 hs6 ho6)
          obtain ⟨⟨q0, q1, q2, q3, q4, q5⟩, g0, g1, g2, g3, g4, g5⟩ := HT6.out.c
          clear hs6 ho6 HL
          go_wp2_with fail
          go_meet
          case rel => exact ⟨_, z, _, _, _, _, HNM.out, HNU.out, HTXT.out, by omega, HLS.out, HT6.out.put hsb2 hlt.1 rfl⟩
        · have HL := Lib.hid (ints_reads w5 [9007199254740993, -9007199254740993, 5] (by decide))
          go_wp2_with fail
          refine (srcPick_any B sb _ 3 3 [9007199254740993, -9007199254740993, 5] _ (src_al HT5.out.src) (fun z => -9007199254740993 ≤ z ∧ z ≤ 9007199254740993) (by omega) (by omega) HL.out (fun ad e => by injection e with e; rw [← e]; show w5.heap.size ≠ sb; omega) (by intro z hz; simp at hz; omega)).mono ?_
          rintro e w6 ⟨z, hz, rfl, hs6, ho6⟩
          have HT6 := Lib.hid ((HT5.out.below hsb2 ((Below.refl _ _).al _)).next hsb2 hs6 ho6)
          obtain ⟨⟨q0, q1, q2, q3, q4, q5⟩, g0, g1, g2, g3, g4, g5⟩ := HT6.out.c
          have HZ := Lib.hid hz
          clear hs6 ho6 HL hz
          go_wp2_with fail
          go_meet
          case rel => exact ⟨_, _, z, _, _, _, HNM.out, HZ.out, HTXT.out, by omega, HLS.out, HT6.out.put hsb2 hlt.1 rfl⟩
        · have HL := Lib.hid (texts_reads w5 [⟨#[13]⟩, ⟨#[127]⟩, ⟨#[120]⟩] (by decide))
          go_wp2_with fail
          refine (srcWord_any B sb _ 3 3 [⟨#[13]⟩, ⟨#[127]⟩, ⟨#[120]⟩] _ (src_al HT5.out.src) (fun z => z.size ≤ 8) (by omega) (by omega) HL.out (fun ad e => by injection e with e; rw [← e]; show w5.heap.size ≠ sb; omega) (by intro z hz; simp at hz; rcases hz with rfl | rfl | rfl <;> decide)).mono ?_
          rintro e w6 ⟨z, hz, rfl, hs6, ho6⟩
          have HT6 := Lib.hid ((HT5.out.below hsb2 ((Below.refl _ _).al _)).next hsb2 hs6 ho6)
          have HZ := Lib.hid hz
          obtain ⟨⟨q0, q1, q2, q3, q4, q5⟩, g0, g1, g2, g3, g4, g5⟩ := HT6.out.c
          clear hs6 ho6 HL hz
          go_wp2_with fail
          go_meet
          case rel => exact ⟨_, _, _, z, _, _, HNM.out, HNU.out, HZ.out, by omega, HLS.out, HT6.out.put hsb2 hlt.1 rfl⟩
        · have HT6 := Lib.hid (HT5.out.below hsb2 ((Below.refl _ _).al (.cells #[.string ⟨#[9]⟩] 9)))
          go_wp2_with (at_builtin; refine wpList_append_any _ rfl _ _ 33 rfl wr.heap.size 9 j0 _ 1 16 Tryd.underlying33 hj0 jz0 jz1 jz2 rfl (by decide) _ _ _ rfl HT6.out.lo _ (some ⟨w5.heap.size, 0, none⟩) 1 1 [.string ⟨#[9]⟩] rfl (reads_one w5 ⟨#[9]⟩) (one_text _) (by unfold maxLen; omega) (by omega) (by simp; omega) ?_; intro v8 w8 ho8 hg8 hd8; obtain ⟨A8, d8, e8⟩ := own_form ho8; subst e8; have HB8 := Lib.hid (HT6.out.blk.only ((Only.refl (fun k => vl.ownBlock = some k) _).grown hg8 (fun k e => .inl e)) HT6.out.ne); have HP8 := Lib.hid (HT6.out.push hsb2 hlt.1 ho8 hg8 hd8); have q4 : w8.cell? ⟨g, 4, none⟩ = some vl := (by rw [HB8.out.cell]; rfl); have g4 := HB8.out.frozen 4; clear ho8 hg8 hd8)
          go_wp2_with fail
          go_meet
          case rel => exact ⟨_, _, _, _, _, ls ++ [⟨#[9]⟩], HNM.out, HNU.out, HTXT.out, by rw [List.length_append, List.length_cons, List.length_nil]; omega, sizes_push HLS.out (by decide), HP8.out⟩
        · have c0 : (y == 0) = false := beq_eq_false_iff_ne.2 (by omega)
          have c1 : (y == 1) = false := beq_eq_false_iff_ne.2 (by omega)
          have c2 : (y == 2) = false := beq_eq_false_iff_ne.2 (by omega)
          have c3 : (y == 3) = false := beq_eq_false_iff_ne.2 (by omega)
          have c4 : (y == 4) = false := beq_eq_false_iff_ne.2 (by omega)
          go_wp2_with fail
          go_meet
          case rel => exact ⟨_, _, _, _, _, ls, HNM.out, HNU.out, HTXT.out, by omega, HLS.out, HT5.out⟩
      case rest =>
      clear HT5 p0 p1 p2 p3 p4 p5 f0 f1 f2 f3 f4 f5 HNM HTXT HNU HLS hll hgl hgl5 hwc hs5 hy0 hy1
      obtain ⟨nm, kd, nu, tx, vl, ls, hnm, hnu, htx, hll, hls, htn⟩ := hcut
      have HT := Lib.hid htn
      have HMD := Lib.hid (show madeN (subM d) (.mk nm kd nu tx ls ns) from ⟨hnm, hnu, htx, hll, hls, HNS.out⟩)
      obtain ⟨⟨p0, p1, p2, p3, p4, p5⟩, f0, f1, f2, f3, f4, f5⟩ := htn.c
      obtain ⟨A4, c4, e4⟩ := own_form htn.lo
      obtain ⟨A5, c5, e5, _⟩ := htn.vn.form
      subst e4 e5
      have HK := Lib.hid (HKS.out.next hlt.2.1 htn.src htn.only)
      have hlow : ∀ k, u7.ownBlock = some k → k < wr.heap.size := fun k hk => (World.ownsRow.lt HKS.out.no.own k hk).2
      have HF := Lib.hid (htn.fin (base := w.heap.size + 1) (v := u7) (by omega) hlow)
      have hwc : w.heap.size < wc.heap.size := HK.out.nb.lt
      have ev := HEV.out
      subst ev
      have hbl := (Below.refl wc.heap.size wc).al (.cells (ncA (.mk nm kd nu tx ls ns) (.slice A4 ls.length c4) (.slice A5 ns.length c5)) 48)
      have HK6 := Lib.hid (HK.out.next hlt.2.1 (HK.out.src.below hbl) (Only.of_below _ hbl))
      have HTL := Lib.hid (HF.out.1.up hbl)
      have HNL := Lib.hid (HF.out.2.up hbl)
      have hxl : x.length ≤ 2 := by omega
      clear hnm hnu htx hll hls htn HK HF hbl HEV hlow
      unfold ncA at HK6 HTL HNL
      go_wp2_with (at_builtin; refine wpList_append_any _ rfl _ _ 30 rfl (w.heap.size + 1) 48 i0 _ 6 96 Tryd.underlying30 hi0 hz0 hz1 hz2 rfl (by decide) _ _ _ rfl HK6.out.no.own _ (some ⟨wc.heap.size, 0, none⟩) 1 1 (ncells (.mk nm kd nu tx ls ns) (.slice A4 ls.length c4) (.slice A5 ns.length c5)) rfl (reads_node (.mk nm kd nu tx ls ns) _ _ rfl) (ncells_one rfl rfl) (by unfold maxLen; omega) (by omega) (by simp; omega) ?_; intro v6 w6 ho6 hg6 hd6)
      have HN7 := Lib.hid (HK6.out.no.push ho6 hg6 hd6 HTL.out HNL.out)
      have HO6 := Lib.hid (HK6.out.only.grown hg6 (fun k hk => .inr (by have := (World.ownsRow.lt HK6.out.no.own k hk).1; omega)))
      have HX6 := Lib.hid (show Only (fun k => (Value.slice Av x.length cv).ownBlock = some k) _ w6 from (Only.refl (fun k => (Value.slice Av x.length cv).ownBlock = some k) _).grown hg6 (fun k e => .inl e))
      have HS6 := Lib.hid (HK6.out.src.only HX6.out (fun e => by have := (World.ownsRow.lt HK6.out.no.own _ e).1; omega) (fun k e => by have := (World.ownsRow.lt HK6.out.no.own _ e).1; omega))
      have HB6 := Lib.hid (HK6.out.nb.only HX6.out (fun e => by have := (World.ownsRow.lt HK6.out.no.own _ e).1; omega))
      have HM6 := Lib.hid (show ∀ t ∈ (x ++ [((.mk nm kd nu tx ls ns : Nd), Value.slice A4 ls.length c4, Value.slice A5 ns.length c5)]).map (·.1), madeN (subM d) t from fun t ht => by
        rw [List.map_append, List.mem_append] at ht
        rcases ht with ht | ht
        · exact HKS.out.md t ht
        · have : t = .mk nm kd nu tx ls ns := by simpa using ht
          rw [this]; exact HMD.out)
      obtain ⟨A7, c7, e7⟩ := HN7.out.form
      have hl7 : (x ++ [((.mk nm kd nu tx ls ns : Nd), Value.slice A4 ls.length c4, Value.slice A5 ns.length c5)]).length = x.length + 1 := by simp
      rw [hl7] at e7
      subst e7
      clear ho6 hg6 hd6
      go_roundw
      case rel => exact ⟨k - 1, x ++ [((.mk nm kd nu tx ls ns : Nd), Value.slice A4 ls.length c4, Value.slice A5 ns.length c5)], by rw [hl7]; omega, by go_num, ⟨HB6.out, HN7.out, HS6.out, HO6.out, HM6.out⟩⟩
      case measure => simp [intOf]; omega
theorem tree_any (B sb : Nat) : ∀ (d : Nat) (w : World), d ≤ 3 → SrcOk B w sb → Calls Tryd.prog 15 #[.pointer (some ⟨sb, 0, none⟩), .int .i64 d, .int .i64 3] w (TreeRet d B sb w) := by
  intro d
  induction d with
  | zero => exact fun w hd h => tree_step B sb 0 w hd (fun d' e => by omega) h
  | succ d ih => exact fun w hd h => tree_step B sb (d + 1) w hd (fun d' e w' h' => by have e2 : d = d' := (by omega); subst e2; exact ih w' (by omega) h') h
end Go.Proofs.YtfmdbmalmeimbaaDoor
