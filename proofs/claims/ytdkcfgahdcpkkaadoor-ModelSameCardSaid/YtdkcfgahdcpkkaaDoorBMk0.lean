/- The builder of groups: its state in memory. -/
import Derived.Test.YtdkcfgahdcpkkaaDoorBSrc
import Derived.Test.YtdkcfgahdcpkkaaDoorBRCut
import Derived.Test.YtdkcfgahdcpkkaaDoorBOwnS
import Derived.Test.YtdkcfgahdcpkkaaDoorBClone
import Derived.Deep.RegionHeld3
import Derived.MapKept
import Derived.BigQuiet
import Derived.Deep.QuietTactic
set_option linter.all false
set_option linter.unusedVariables false
set_option linter.unusedSimpArgs false
namespace Go.Proofs.YtdkcfgahdcpkkaaDoor
open Go.RowKit
set_option maxRecDepth 100000
theorem elevM {W : World} {g : Nat} {T : TypeId} {v0 v1 v2 v3 v4 v5 v6 v7 v8 v9 v10 : Value} (h : Blk W g T #[v0, v1, v2, v3, v4, v5, v6, v7, v8, v9, v10]) : W.cell? ⟨g, 0, none⟩ = some v0 ∧ W.cell? ⟨g, 1, none⟩ = some v1 ∧ W.cell? ⟨g, 2, none⟩ = some v2 ∧ W.cell? ⟨g, 3, none⟩ = some v3 ∧ W.cell? ⟨g, 4, none⟩ = some v4 ∧ W.cell? ⟨g, 5, none⟩ = some v5 ∧ W.cell? ⟨g, 6, none⟩ = some v6 ∧ W.cell? ⟨g, 7, none⟩ = some v7 ∧ W.cell? ⟨g, 8, none⟩ = some v8 ∧ W.cell? ⟨g, 9, none⟩ = some v9 ∧ W.cell? ⟨g, 10, none⟩ = some v10 :=
 ⟨by rw [h.cell 0]; rfl, by rw [h.cell 1]; rfl, by rw [h.cell 2]; rfl, by rw [h.cell 3]; rfl, by rw [h.cell 4]; rfl, by rw [h.cell 5]; rfl, by rw [h.cell 6]; rfl, by rw [h.cell 7]; rfl, by rw [h.cell 8]; rfl, by rw [h.cell 9]; rfl, by rw [h.cell 10]; rfl⟩
theorem sixM {W : World} {g : Nat} {T : TypeId} {v0 v1 v2 v3 v4 v5 : Value} (h : Blk W g T #[v0, v1, v2, v3, v4, v5]) : W.cell? ⟨g, 0, none⟩ = some v0 ∧ W.cell? ⟨g, 1, none⟩ = some v1 ∧ W.cell? ⟨g, 2, none⟩ = some v2 ∧ W.cell? ⟨g, 3, none⟩ = some v3 ∧ W.cell? ⟨g, 4, none⟩ = some v4 ∧ W.cell? ⟨g, 5, none⟩ = some v5 :=
 ⟨by rw [h.cell 0]; rfl, by rw [h.cell 1]; rfl, by rw [h.cell 2]; rfl, by rw [h.cell 3]; rfl, by rw [h.cell 4]; rfl, by rw [h.cell 5]; rfl⟩
theorem own_formGM {w : World} {base n size : Nat} {T : TypeId} {v : Value} {xs : List Value} (h : w.ownsRow base T size v n xs) : ∃ A c, v = .slice A n c := by
 rcases h.2 with ⟨h, h0⟩ | ⟨g, cap, cur, h, _⟩
 ·exact ⟨none, 0, by rw [h, h0]⟩
 ·exact ⟨_, _, h⟩
theorem reads_newM {w : World} {cs : Array Value} {T : TypeId} {n : Nat} (hn : cs.size = n) : Reads (w.alloc (.cells cs T)) (w.alloc (.cells cs T)).heap.size n (some ⟨w.heap.size, 0, none⟩) 1 cs.toList := by
 refine ⟨by simp [hn], fun _ => ⟨_, rfl, by simp, fun j u hu => ?_⟩⟩
 rw [add_zero, (Blk.new w T cs).cell]
 simpa using hu
/-- a call of the reader returns a text with property p -/
def SrcText (p : ByteArray → Prop) (B sb : Nat) (w : World) (e : Ending) (w' : World) : Prop := ∃ x : ByteArray, p x ∧ e = .returned (.string x) ∧ SrcOk B w' sb ∧ Only (· = sb) w w'
set_option maxHeartbeats 400000 in
theorem srcWord_any (B sb : Nat) (A : Option Addr) (n c : Nat) (ts : List ByteArray) (w : World) (h : SrcOk B w sb) (p : ByteArray → Prop) (hn : 1 ≤ n) (hn2 : n ≤ 1000000) (hr : Reads w w.heap.size 1 A n (T ts)) (hsb : ∀ ad, A = some ad → ad.block ≠ sb) (hp : ∀ z ∈ ts, p z) :
  Calls Tryd.prog 23 #[.pointer (some ⟨sb, 0, none⟩), .slice A n c] w (SrcText p B sb w) := by
 have H := Lib.hid h
 have HR := Lib.hid hr
 clear h hr
 go_enter Tryd.func23, Tryd.ntmps23
 go_wp2_with fail
 refine (srcN_any B sb _ _ H.out (by omega) (by omega)).mono ?_
 rintro e w1 ⟨x, ⟨hx1, hx2⟩, rfl, hok, ho⟩
 obtain ⟨k, rfl⟩ := Int.eq_ofNat_of_zero_le hx1
 have hkn : k < n := by omega
 obtain ⟨ad, u, rfl, hab, hx, hc⟩ := HR.out.at_ hkn
 obtain ⟨t, ht, rfl⟩ := T_at hx
 have hc1 : w1.cell? (ad.add k) = some (.string t) := (ho.cell (by rw [block_of_add]; exact hab) (by rw [block_of_add]; exact hsb ad rfl)).trans hc
 have HOK := Lib.hid hok
 have HO := Lib.hid ho
 have HZ := Lib.hid (hp t (List.mem_of_getElem? ht))
 clear hok ho hx hc ht hp
 go_wp2_with fail
 go_ret
 exact ⟨t, HZ.out, rfl, HOK.out, HO.out⟩
end Go.Proofs.YtdkcfgahdcpkkaaDoor
namespace Go.Proofs.YtdkcfgahdcpkkaaDoor
open Go.RowKit
set_option maxRecDepth 100000
def idV (g n : Int) : Int := IntKind.u64.wrap (IntKind.u64.wrap (g * 2862933555777941757) + IntKind.u64.wrap (IntKind.u64.wrap n * 3037000493))
theorem rident_any (g n : Int) (w : World) : Calls Tryd.prog 100 #[.int .u64 g, .int .i64 n] w (fun e w' => e = .returned (.int .u64 (idV g n)) ∧ w = w') := by
 go_enter Tryd.func100, Tryd.ntmps100
 go_wp2_with fail
 go_ret
 exact ⟨rfl, rfl⟩
/-- a builder in plain words -/
structure Be where
 g : Gr
 next : List Int
/-- the blocks that turn -/
def Mt (bb sb : Nat) (vv vn : Value) : Nat → Prop := fun k => k = bb ∨ k = sb ∨ vv.ownBlock = some k ∨ vn.ownBlock = some k
/-- the numbers of a builder fit -/
structure BeOk (β : Be) : Prop where
 nd : 1 ≤ β.g.disks.length ∧ β.g.disks.length ≤ 4
 nn : β.next.length = β.g.disks.length
 ext : ∀ d ∈ β.g.disks, 0 ≤ d.ext ∧ d.ext ≤ 60
 nz : ∀ (i : Nat) (z : Int) (d : Dk), β.next[i]? = some z → β.g.disks[i]? = some d → 0 ≤ z ∧ z ≤ d.ext
 ex : 1 ≤ β.g.extent ∧ β.g.extent ≤ 16
/-- a builder in memory; what lies deep lies in blocks of S -/
structure BU (B : Nat) (S : Nat → Prop) (w : World) (bb sb : Nat) (β : Be) (vt vd vv vn : Value) (css : List (List Value)) : Prop where
 blk : Blk w bb 75 #[.pointer (some ⟨sb, 0, none⟩), .string β.g.name, .int .u64 β.g.id, .int .i64 β.g.seq, .int .i64 β.g.extent, .int .i64 β.g.next, vt, vd, vv, .slice none 0 0, vn]
 src : SrcOk B w sb
 tl : TL w S vt β.g.tags
 dl : DL w S vd β.g.disks
 vs : OS voW S w B 53 6 vv β.g.vols css
 nx : w.ownsRow B 3 1 vn β.next.length (I β.next)
 sd : ∀ k, S k → ¬ Mt bb sb vv vn k
 low : B ≤ bb
 d1 : bb ≠ sb
 d2 : vv.ownBlock ≠ some bb ∧ vv.ownBlock ≠ some sb
 d3 : vn.ownBlock ≠ some bb ∧ vn.ownBlock ≠ some sb
 d4 : ∀ k, vv.ownBlock = some k → vn.ownBlock ≠ some k
 hist : β.g.hist = []
 ok : BeOk β
section
variable {B : Nat} {S S' : Nat → Prop} {w w' : World} {bb sb : Nat} {β : Be} {vt vd vv vn : Value} {css : List (List Value)}
theorem BU.src_ (h : BU B S w bb sb β vt vd vv vn css) (hs : SrcOk B w' sb) (ho : Only (· = sb) w w') : BU B S w' bb sb β vt vd vv vn css :=
 ⟨h.blk.only ho h.d1, hs, TL.keep h.tl (Kept.of_only ho fun _ hg e => h.sd _ hg (.inr (.inl e))) (fun _ h => h), DL.keep h.dl (Kept.of_only ho fun _ hg e => h.sd _ hg (.inr (.inl e))) (fun _ h => h),
  h.vs.only voL ho (fun _ hk e => h.d2.2 (e ▸ hk)) (fun _ hk e => h.sd _ hk (.inr (.inl e))) (fun _ h => h), own_only h.nx ho (fun _ hk e => h.d3.2 (e ▸ hk)), h.sd, h.low, h.d1, h.d2, h.d3, h.d4, h.hist, h.ok⟩
theorem BU.up (h : BU B S w bb sb β vt vd vv vn css) (hb : Bel w w') : BU B S w' bb sb β vt vd vv vn css :=
 ⟨h.blk.below hb h.blk.lt, h.src.below hb, TL.up h.tl hb, DL.up h.dl hb, h.vs.up voL hb, own_only h.nx (Only.of_below (fun _ => False) hb) (fun _ _ h => h), h.sd, h.low, h.d1, h.d2, h.d3, h.d4, h.hist, h.ok⟩
theorem BU.lowS (h : BU B S w bb sb β vt vd vv vn css) : BU B (fun k => S k ∧ k < w.heap.size) w bb sb β vt vd vv vn css :=
 ⟨h.blk, h.src, h.tl.low1, h.dl.low (fun _ _ _ _ h => h.low), h.vs.imp voL (fun _ h1 h2 => ⟨h1, h2⟩), h.nx, fun k hk => h.sd k hk.1, h.low, h.d1, h.d2, h.d3, h.d4, h.hist, h.ok⟩
theorem BU.weak (h : BU B S w bb sb β vt vd vv vn css) (hS : ∀ k, S k → S' k) (hs : ∀ k, S' k → ¬ Mt bb sb vv vn k) : BU B S' w bb sb β vt vd vv vn css :=
 ⟨h.blk, h.src, TL.keep h.tl Kept.same hS, DL.keep h.dl Kept.same hS, h.vs.imp voL (fun k h1 _ => hS k h1), h.nx, hs, h.low, h.d1, h.d2, h.d3, h.d4, h.hist, h.ok⟩
theorem BU.far {F : Nat → Prop} (h : BU B S w bb sb β vt vd vv vn css) (ho : Only F w w') (h1 : ∀ k, F k → ¬ Mt bb sb vv vn k) (h2 : ∀ k, F k → ¬ S k) (h3 : ∀ k, F k → B ≤ k) : BU B S w' bb sb β vt vd vv vn css :=
 ⟨h.blk.only ho (fun hf => h1 _ hf (.inl rfl)), h.src.only ho (fun hf => h1 _ hf (.inr (.inl rfl))) h3, TL.keep h.tl (Kept.of_only ho fun _ hg e => h2 _ e hg) (fun _ h => h), DL.keep h.dl (Kept.of_only ho fun _ hg e => h2 _ e hg) (fun _ h => h),
  h.vs.only voL ho (fun k hk e => h1 k e (.inr (.inr (.inl hk)))) (fun _ hk e => h2 _ e hk) (fun _ h => h), own_only h.nx ho (fun k hk e => h1 k e (.inr (.inr (.inr hk)))), h.sd, h.low, h.d1, h.d2, h.d3, h.d4, h.hist, h.ok⟩
theorem BU.mlt (h : BU B S w bb sb β vt vd vv vn css) {k : Nat} (hk : Mt bb sb vv vn k) : B ≤ k ∧ k < w.heap.size := by
 rcases hk with rfl | rfl | hk | hk
 ·exact ⟨h.low, h.blk.lt⟩
 ·exact ⟨h.src.lt.1, h.src.lt.2.1⟩
 ·exact h.vs.lt hk
 ·exact World.ownsRow.lt h.nx k hk
theorem BU.base (h : BU B S w bb sb β vt vd vv vn css) : B ≤ w.heap.size := h.src.lt.2.2
theorem BU.cells (h : BU B S w bb sb β vt vd vv vn css) : w.cell? ⟨bb, 0, none⟩ = some (.pointer (some ⟨sb, 0, none⟩)) ∧ w.cell? ⟨bb, 1, none⟩ = some (.string β.g.name) ∧ w.cell? ⟨bb, 2, none⟩ = some (.int .u64 β.g.id) ∧ w.cell? ⟨bb, 3, none⟩ = some (.int .i64 β.g.seq) ∧ w.cell? ⟨bb, 4, none⟩ = some (.int .i64 β.g.extent) ∧ w.cell? ⟨bb, 5, none⟩ = some (.int .i64 β.g.next) ∧ w.cell? ⟨bb, 6, none⟩ = some vt ∧ w.cell? ⟨bb, 7, none⟩ = some vd ∧ w.cell? ⟨bb, 8, none⟩ = some vv ∧ w.cell? ⟨bb, 9, none⟩ = some (.slice none 0 0) ∧ w.cell? ⟨bb, 10, none⟩ = some vn := elevM h.blk
/-- only the builder's own block and the row of the next extents have turned -/
theorem BU.turn {β' : Be} {F : Nat → Prop} (h : BU B S w bb sb β vt vd vv vn css) (ho : Only F w w') (hF : ∀ k, F k → k = bb ∨ vn.ownBlock = some k)
  (hb : Blk w' bb 75 #[.pointer (some ⟨sb, 0, none⟩), .string β'.g.name, .int .u64 β'.g.id, .int .i64 β'.g.seq, .int .i64 β'.g.extent, .int .i64 β'.g.next, vt, vd, vv, .slice none 0 0, vn])
  (hn : w'.ownsRow B 3 1 vn β'.next.length (I β'.next)) (e1 : β'.g.tags = β.g.tags) (e2 : β'.g.disks = β.g.disks) (e3 : β'.g.vols = β.g.vols) (e4 : β'.g.hist = β.g.hist) (hok : BeOk β') : BU B S w' bb sb β' vt vd vv vn css := by
 have hst : ∀ k, S k → ¬ F k := fun k hk hf => h.sd k hk ((hF k hf).elim .inl fun e => .inr (.inr (.inr e)))
 have hlow : ∀ k, F k → B ≤ k := fun k hf => (hF k hf).elim (fun e => e ▸ h.low) fun e => (World.ownsRow.lt h.nx k e).1
 refine ⟨hb, h.src.only ho (fun hf => (hF sb hf).elim (fun e => h.d1 e.symm) h.d3.2) hlow, e1 ▸ TL.keep h.tl (Kept.of_only ho hst) (fun _ h => h), e2 ▸ DL.keep h.dl (Kept.of_only ho hst) (fun _ h => h),
  e3 ▸ h.vs.only voL ho (fun k hk hf => (hF k hf).elim (fun e => h.d2.1 (e ▸ hk)) (h.d4 k hk)) hst (fun _ h => h), hn, h.sd, h.low, h.d1, h.d2, h.d3, h.d4, e4.trans h.hist, hok⟩
/-- the next extent of a disk is set -/
theorem BU.setNext {gn n c d : Nat} {z : Int} (h : BU B S w bb sb β vt vd vv (.slice (some ⟨gn, 0, none⟩) n c) css) (hn : n = β.next.length) (hok : BeOk ⟨β.g, β.next.set d z⟩) :
  BU B S (w.setCell ⟨gn, d, none⟩ (.int .i64 z)) bb sb ⟨β.g, β.next.set d z⟩ vt vd vv (.slice (some ⟨gn, 0, none⟩) n c) css ∧ Only (Mt bb sb vv (.slice (some ⟨gn, 0, none⟩) n c)) w (w.setCell ⟨gn, d, none⟩ (.int .i64 z)) := by
 subst hn
 have ho : Only (· = gn) w (w.setCell ⟨gn, d, none⟩ (.int .i64 z)) := (Only.refl (· = gn) w).setCell (p := ⟨gn, d, none⟩) (.inl rfl) _
 have hgn : (Value.slice (some ⟨gn, 0, none⟩) β.next.length c).ownBlock = some gn := rfl
 have hs := (World.ownsRow.stored h.nx d (.int .i64 z)).1
 refine ⟨h.turn ho (fun _ e => .inr (e ▸ hgn)) (h.blk.only ho (fun e => h.d3.1 (e ▸ hgn))) ?_ rfl rfl rfl rfl hok, ho.mono fun _ _ e => .inr (.inr (.inr (e ▸ hgn)))⟩
 show (w.setCell ⟨gn, d, none⟩ (.int .i64 z)).ownsRow B 3 1 _ (β.next.set d z).length (I (β.next.set d z))
 rw [List.length_set, ← I_set]
 exact hs
/-- the next identity is set -/
theorem BU.setId {z : Int} (h : BU B S w bb sb β vt vd vv vn css) :
  BU B S (w.setCell ⟨bb, 5, none⟩ (.int .i64 z)) bb sb ⟨{ β.g with next := z }, β.next⟩ vt vd vv vn css ∧ Only (Mt bb sb vv vn) w (w.setCell ⟨bb, 5, none⟩ (.int .i64 z)) := by
 have ho : Only (· = bb) w (w.setCell ⟨bb, 5, none⟩ (.int .i64 z)) := (Only.refl (· = bb) w).setCell (p := ⟨bb, 5, none⟩) (.inl rfl) _
 exact ⟨h.turn ho (fun _ e => .inl e) (h.blk.set_ 5 _) (own_only h.nx ho (fun _ hk e => h.d3.1 (e ▸ hk))) rfl rfl rfl rfl ⟨h.ok.nd, h.ok.nn, h.ok.ext, h.ok.nz, h.ok.ex⟩, ho.mono fun _ _ e => .inl e⟩
end
end Go.Proofs.YtdkcfgahdcpkkaaDoor
