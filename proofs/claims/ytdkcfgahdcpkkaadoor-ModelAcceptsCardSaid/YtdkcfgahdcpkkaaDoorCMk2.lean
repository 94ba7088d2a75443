/- The builder: a volume is added. -/
import Derived.Test.YtdkcfgahdcpkkaaDoorCSrc
import Derived.Test.YtdkcfgahdcpkkaaDoorCRCut
import Derived.Test.YtdkcfgahdcpkkaaDoorCOwnS
import Derived.Test.YtdkcfgahdcpkkaaDoorCClone
import Derived.Deep.RegionHeld3
import Derived.MapKept
import Derived.BigQuiet
import Derived.Deep.QuietTactic
import Derived.Test.YtdkcfgahdcpkkaaDoorCCalm
import Derived.Deep.QuietTactic
import Derived.BigQuiet
import Derived.Deep.RegionHeld3
set_option linter.all false
namespace Go.Proofs.YtdkcfgahdcpkkaaDoor
open Go.RowKit
set_option maxRecDepth 100000
theorem kc_ {W : World} {g : Nat} {T : TypeId} {v0 v1 v2 v3 v4 v5 v6 v7 v8 v9 v10 : Value} (h : Blk W g T #[v0, v1, v2, v3, v4, v5, v6, v7, v8, v9, v10]) : W.cell? ⟨g, 0, none⟩ = some v0 ∧ W.cell? ⟨g, 1, none⟩ = some v1 ∧ W.cell? ⟨g, 2, none⟩ = some v2 ∧ W.cell? ⟨g, 3, none⟩ = some v3 ∧ W.cell? ⟨g, 4, none⟩ = some v4 ∧ W.cell? ⟨g, 5, none⟩ = some v5 ∧ W.cell? ⟨g, 6, none⟩ = some v6 ∧ W.cell? ⟨g, 7, none⟩ = some v7 ∧ W.cell? ⟨g, 8, none⟩ = some v8 ∧ W.cell? ⟨g, 9, none⟩ = some v9 ∧ W.cell? ⟨g, 10, none⟩ = some v10 :=
 ⟨by rw [h.cell 0]; rfl, by rw [h.cell 1]; rfl, by rw [h.cell 2]; rfl, by rw [h.cell 3]; rfl, by rw [h.cell 4]; rfl, by rw [h.cell 5]; rfl, by rw [h.cell 6]; rfl, by rw [h.cell 7]; rfl, by rw [h.cell 8]; rfl, by rw [h.cell 9]; rfl, by rw [h.cell 10]; rfl⟩
theorem sixM {W : World} {g : Nat} {T : TypeId} {v0 v1 v2 v3 v4 v5 : Value} (h : Blk W g T #[v0, v1, v2, v3, v4, v5]) : W.cell? ⟨g, 0, none⟩ = some v0 ∧ W.cell? ⟨g, 1, none⟩ = some v1 ∧ W.cell? ⟨g, 2, none⟩ = some v2 ∧ W.cell? ⟨g, 3, none⟩ = some v3 ∧ W.cell? ⟨g, 4, none⟩ = some v4 ∧ W.cell? ⟨g, 5, none⟩ = some v5 :=
 ⟨by rw [h.cell 0]; rfl, by rw [h.cell 1]; rfl, by rw [h.cell 2]; rfl, by rw [h.cell 3]; rfl, by rw [h.cell 4]; rfl, by rw [h.cell 5]; rfl⟩
theorem z1_ {w : World} {base n size : Nat} {T : TypeId} {v : Value} {xs : List Value} (h : w.ownsRow base T size v n xs) : ∃ A c, v = .slice A n c := by
 rcases h.2 with ⟨h, h0⟩ | ⟨g, cap, cur, h, _⟩
 ·exact ⟨none, 0, by rw [h, h0]⟩
 ·exact ⟨_, _, h⟩
theorem y7_ {w : World} {cs : Array Value} {T : TypeId} {n : Nat} (hn : cs.size = n) : Reads (w.alloc (.cells cs T)) (w.alloc (.cells cs T)).heap.size n (some ⟨w.heap.size, 0, none⟩) 1 cs.toList := by
 refine ⟨by simp [hn], fun _ => ⟨_, rfl, by simp, fun j u hu => ?_⟩⟩
 rw [add_zero, (Blk.new w T cs).cell]
 simpa using hu
def idV (g n : Int) : Int := IntKind.u64.wrap (IntKind.u64.wrap (g * 2862933555777941757) + IntKind.u64.wrap (IntKind.u64.wrap n * 3037000493))
theorem Zx_ (g n : Int) (w : World) : Calls Tryd.prog 100 #[.int .u64 g, .int .i64 n] w (fun e w' => e = .returned (.int .u64 (idV g n)) ∧ w = w') := by
 go_enter Tryd.func100, Tryd.ntmps100
 go_wp2_with fail
 go_ret
 exact ⟨rfl, rfl⟩
structure Be where
 g : Gr
 next : List Int
def Mt (bb sb : Nat) (vv vn : Value) : Nat → Prop := fun k => k = bb ∨ k = sb ∨ vv.ownBlock = some k ∨ vn.ownBlock = some k
structure BeOk (β : Be) : Prop where
 nd : 1 ≤ β.g.disks.length ∧ β.g.disks.length ≤ 4
 nn : β.next.length = β.g.disks.length
 ext : ∀ d ∈ β.g.disks, 0 ≤ d.ext ∧ d.ext ≤ 60
 nz : ∀ (i : Nat) (z : Int) (d : Dk), β.next[i]? = some z → β.g.disks[i]? = some d → 0 ≤ z ∧ z ≤ d.ext
 ex : 1 ≤ β.g.extent ∧ β.g.extent ≤ 16
structure BU (B : Nat) (S : Nat → Prop) (w : World) (bb sb : Nat) (β : Be) (vt vd vv vn : Value) (css : List (List Value)) : Prop where
 blk : Blk w bb 75 #[.pointer (some ⟨sb, 0, none⟩), .string β.g.name, .int .u64 β.g.id, .int .i64 β.g.seq, .int .i64 β.g.extent, .int .i64 β.g.next, vt, vd, vv, .slice none 0 0, vn]
 src : SrcOk B w sb
 tl : TL w S vt β.g.tags
 dl : DL w S vd β.g.disks
 vs : OS voW S w B 53 6 vv β.g.vols css
 nx : w.ownsRow B 3 1 vn β.next.length (I β.next)
 sd : ∀ k, S k → ¬ Mt bb sb vv vn k
 low : B ≤ bb
 d1 : bb ≠ sb
 d2 : vv.ownBlock ≠ some bb ∧ vv.ownBlock ≠ some sb
 d3 : vn.ownBlock ≠ some bb ∧ vn.ownBlock ≠ some sb
 d4 : ∀ k, vv.ownBlock = some k → vn.ownBlock ≠ some k
 hist : β.g.hist = []
 ok : BeOk β
section
variable {B : Nat} {S S' : Nat → Prop} {w w' : World} {bb sb : Nat} {β : Be} {vt vd vv vn : Value} {css : List (List Value)}
theorem BU.src_ (h : BU B S w bb sb β vt vd vv vn css) (hs : SrcOk B w' sb) (ho : Only (· = sb) w w') : BU B S w' bb sb β vt vd vv vn css :=
 ⟨h.blk.only ho h.d1, hs, TL.keep h.tl (Kept.of_only ho fun _ hg e => h.sd _ hg (.inr (.inl e))) (fun _ h => h), DL.keep h.dl (Kept.of_only ho fun _ hg e => h.sd _ hg (.inr (.inl e))) (fun _ h => h),
  h.vs.only voL ho (fun _ hk e => h.d2.2 (e ▸ hk)) (fun _ hk e => h.sd _ hk (.inr (.inl e))) (fun _ h => h), zb_ h.nx ho (fun _ hk e => h.d3.2 (e ▸ hk)), h.sd, h.low, h.d1, h.d2, h.d3, h.d4, h.hist, h.ok⟩
theorem BU.up (h : BU B S w bb sb β vt vd vv vn css) (hb : Bel w w') : BU B S w' bb sb β vt vd vv vn css :=
 ⟨h.blk.below hb h.blk.lt, h.src.below hb, TL.up h.tl hb, DL.up h.dl hb, h.vs.up voL hb, zb_ h.nx (Only.of_below (fun _ => False) hb) (fun _ _ h => h), h.sd, h.low, h.d1, h.d2, h.d3, h.d4, h.hist, h.ok⟩
theorem BU.lowS (h : BU B S w bb sb β vt vd vv vn css) : BU B (fun k => S k ∧ k < w.heap.size) w bb sb β vt vd vv vn css :=
 ⟨h.blk, h.src, h.tl.low1, h.dl.low (fun _ _ _ _ h => h.low), h.vs.imp voL (fun _ h1 h2 => ⟨h1, h2⟩), h.nx, fun k hk => h.sd k hk.1, h.low, h.d1, h.d2, h.d3, h.d4, h.hist, h.ok⟩
theorem BU.weak (h : BU B S w bb sb β vt vd vv vn css) (hS : ∀ k, S k → S' k) (hs : ∀ k, S' k → ¬ Mt bb sb vv vn k) : BU B S' w bb sb β vt vd vv vn css :=
 ⟨h.blk, h.src, TL.keep h.tl Kept.same hS, DL.keep h.dl Kept.same hS, h.vs.imp voL (fun k h1 _ => hS k h1), h.nx, hs, h.low, h.d1, h.d2, h.d3, h.d4, h.hist, h.ok⟩
theorem BU.far {F : Nat → Prop} (h : BU B S w bb sb β vt vd vv vn css) (ho : Only F w w') (h1 : ∀ k, F k → ¬ Mt bb sb vv vn k) (h2 : ∀ k, F k → ¬ S k) (h3 : ∀ k, F k → B ≤ k) : BU B S w' bb sb β vt vd vv vn css :=
 ⟨h.blk.only ho (fun hf => h1 _ hf (.inl rfl)), h.src.only ho (fun hf => h1 _ hf (.inr (.inl rfl))) h3, TL.keep h.tl (Kept.of_only ho fun _ hg e => h2 _ e hg) (fun _ h => h), DL.keep h.dl (Kept.of_only ho fun _ hg e => h2 _ e hg) (fun _ h => h),
  h.vs.only voL ho (fun k hk e => h1 k e (.inr (.inr (.inl hk)))) (fun _ hk e => h2 _ e hk) (fun _ h => h), zb_ h.nx ho (fun k hk e => h1 k e (.inr (.inr (.inr hk)))), h.sd, h.low, h.d1, h.d2, h.d3, h.d4, h.hist, h.ok⟩
theorem BU.mlt (h : BU B S w bb sb β vt vd vv vn css) {k : Nat} (hk : Mt bb sb vv vn k) : B ≤ k ∧ k < w.heap.size := by
 rcases hk with rfl | rfl | hk | hk
 ·exact ⟨h.low, h.blk.lt⟩
 ·exact ⟨h.src.lt.1, h.src.lt.2.1⟩
 ·exact h.vs.lt hk
 ·exact World.ownsRow.lt h.nx k hk
theorem BU.base (h : BU B S w bb sb β vt vd vv vn css) : B ≤ w.heap.size := h.src.lt.2.2
theorem BU.cells (h : BU B S w bb sb β vt vd vv vn css) : w.cell? ⟨bb, 0, none⟩ = some (.pointer (some ⟨sb, 0, none⟩)) ∧ w.cell? ⟨bb, 1, none⟩ = some (.string β.g.name) ∧ w.cell? ⟨bb, 2, none⟩ = some (.int .u64 β.g.id) ∧ w.cell? ⟨bb, 3, none⟩ = some (.int .i64 β.g.seq) ∧ w.cell? ⟨bb, 4, none⟩ = some (.int .i64 β.g.extent) ∧ w.cell? ⟨bb, 5, none⟩ = some (.int .i64 β.g.next) ∧ w.cell? ⟨bb, 6, none⟩ = some vt ∧ w.cell? ⟨bb, 7, none⟩ = some vd ∧ w.cell? ⟨bb, 8, none⟩ = some vv ∧ w.cell? ⟨bb, 9, none⟩ = some (.slice none 0 0) ∧ w.cell? ⟨bb, 10, none⟩ = some vn := kc_ h.blk
theorem BU.turn {β' : Be} {F : Nat → Prop} (h : BU B S w bb sb β vt vd vv vn css) (ho : Only F w w') (hF : ∀ k, F k → k = bb ∨ vn.ownBlock = some k)
  (hb : Blk w' bb 75 #[.pointer (some ⟨sb, 0, none⟩), .string β'.g.name, .int .u64 β'.g.id, .int .i64 β'.g.seq, .int .i64 β'.g.extent, .int .i64 β'.g.next, vt, vd, vv, .slice none 0 0, vn])
  (hn : w'.ownsRow B 3 1 vn β'.next.length (I β'.next)) (e1 : β'.g.tags = β.g.tags) (e2 : β'.g.disks = β.g.disks) (e3 : β'.g.vols = β.g.vols) (e4 : β'.g.hist = β.g.hist) (hok : BeOk β') : BU B S w' bb sb β' vt vd vv vn css := by
 have hst : ∀ k, S k → ¬ F k := fun k hk hf => h.sd k hk ((hF k hf).elim .inl fun e => .inr (.inr (.inr e)))
 have hlow : ∀ k, F k → B ≤ k := fun k hf => (hF k hf).elim (fun e => e ▸ h.low) fun e => (World.ownsRow.lt h.nx k e).1
 refine ⟨hb, h.src.only ho (fun hf => (hF sb hf).elim (fun e => h.d1 e.symm) h.d3.2) hlow, e1 ▸ TL.keep h.tl (Kept.of_only ho hst) (fun _ h => h), e2 ▸ DL.keep h.dl (Kept.of_only ho hst) (fun _ h => h),
  e3 ▸ h.vs.only voL ho (fun k hk hf => (hF k hf).elim (fun e => h.d2.1 (e ▸ hk)) (h.d4 k hk)) hst (fun _ h => h), hn, h.sd, h.low, h.d1, h.d2, h.d3, h.d4, e4.trans h.hist, hok⟩
theorem BU.setNext {gn n c d : Nat} {z : Int} (h : BU B S w bb sb β vt vd vv (.slice (some ⟨gn, 0, none⟩) n c) css) (hn : n = β.next.length) (hok : BeOk ⟨β.g, β.next.set d z⟩) :
  BU B S (w.setCell ⟨gn, d, none⟩ (.int .i64 z)) bb sb ⟨β.g, β.next.set d z⟩ vt vd vv (.slice (some ⟨gn, 0, none⟩) n c) css ∧ Only (Mt bb sb vv (.slice (some ⟨gn, 0, none⟩) n c)) w (w.setCell ⟨gn, d, none⟩ (.int .i64 z)) := by
 subst hn
 have ho : Only (· = gn) w (w.setCell ⟨gn, d, none⟩ (.int .i64 z)) := (Only.refl (· = gn) w).setCell (p := ⟨gn, d, none⟩) (.inl rfl) _
 have hgn : (Value.slice (some ⟨gn, 0, none⟩) β.next.length c).ownBlock = some gn := rfl
 have hs := (World.ownsRow.stored h.nx d (.int .i64 z)).1
 refine ⟨h.turn ho (fun _ e => .inr (e ▸ hgn)) (h.blk.only ho (fun e => h.d3.1 (e ▸ hgn))) ?_ rfl rfl rfl rfl hok, ho.mono fun _ _ e => .inr (.inr (.inr (e ▸ hgn)))⟩
 show (w.setCell ⟨gn, d, none⟩ (.int .i64 z)).ownsRow B 3 1 _ (β.next.set d z).length (I (β.next.set d z))
 rw [List.length_set, ← I_set]
 exact hs
theorem BU.setId {z : Int} (h : BU B S w bb sb β vt vd vv vn css) :
  BU B S (w.setCell ⟨bb, 5, none⟩ (.int .i64 z)) bb sb ⟨{ β.g with next := z }, β.next⟩ vt vd vv vn css ∧ Only (Mt bb sb vv vn) w (w.setCell ⟨bb, 5, none⟩ (.int .i64 z)) := by
 have ho : Only (· = bb) w (w.setCell ⟨bb, 5, none⟩ (.int .i64 z)) := (Only.refl (· = bb) w).setCell (p := ⟨bb, 5, none⟩) (.inl rfl) _
 exact ⟨h.turn ho (fun _ e => .inl e) (h.blk.set_ 5 _) (zb_ h.nx ho (fun _ hk e => h.d3.1 (e ▸ hk))) rfl rfl rfl rfl ⟨h.ok.nd, h.ok.nn, h.ok.ext, h.ok.nz, h.ok.ex⟩, ho.mono fun _ _ e => .inl e⟩
end
def zK_ (β : Be) : Be := ⟨{ β.g with next := β.g.next + 1 }, β.next⟩
def idB (β : Be) : Int := idV β.g.id (β.g.next + 1)
set_option maxHeartbeats 4000000 in
theorem yM_ {B : Nat} {S : Nat → Prop} {w : World} {bb sb : Nat} {β : Be} {vt vd vv vn : Value} {css : List (List Value)} (h : BU B S w bb sb β vt vd vv vn css) (hn : 0 ≤ β.g.next ∧ β.g.next ≤ 1000000) :
  Calls Tryd.prog 65 #[.pointer (some ⟨bb, 0, none⟩)] w (fun e w' => e = .returned (.int .u64 (idB β)) ∧ BU B S w' bb sb (zK_ β) vt vd vv vn css ∧ Only (Mt bb sb vv vn) w w') := by
 obtain ⟨b0, b1, b2, b3, b4, b5, b6, b7, b8, b9, b10⟩ := h.cells
 have f5 := h.blk.frozen 5
 have HS := hD (h.setId (z := β.g.next + 1))
 have HI := hD (fun w' => Zx_ β.g.id (β.g.next + 1) w')
 obtain ⟨c0, c1, c2, c3, c4, c5, c6, c7, c8, c9, c10⟩ := HS.out.1.cells
 have wm : IntKind.i64.wrap (β.g.next + 1) = β.g.next + 1 := IntWalk.i64_in _ (by omega)
 clear h
 go_enter Tryd.func65, Tryd.ntmps65
 go_wp2_with fail
 have e0 := CalmW.cell c2
 have e1 := CalmW.cell c5
 refine ze_ (by kernel_rfl) (by kernel_rfl) ?_
 repeat (go_big_quiet_step ((go_at_call 100; exact Calls.calm_same (HI.out _))))
 refine wpQuiet_nil ?_
 rintro _ ⟨n5, rfl⟩
 have HB := hD (HS.out.1.up n5.ok)
 have HO := hD (HS.out.2.next n5.ok)
 clear e0 e1
 generalize n5.w = w5 at *
 go_wp2_with fail
 go_ret
 exact ⟨rfl, HB.out, HO.out⟩
theorem zx_ {w : World} {base n size : Nat} {T : TypeId} {v : Value} {xs : List Value} (h : w.ownsRow base T size v n xs) : ∃ A c, v = .slice A n c ∧ n ≤ c := by
 rcases h.2 with ⟨h, h0⟩ | ⟨g, cap, cur, h, _, _, hc, _⟩
 ·exact ⟨none, 0, by rw [h, h0], by omega⟩
 ·exact ⟨_, _, h, hc⟩
theorem xj_ {w : World} {base n size : Nat} {T : TypeId} {v : Value} {xs : List Value} (h : w.ownsRow base T size v n xs) (hn : 0 < n) : ∃ g c, v = .slice (some ⟨g, 0, none⟩) n c ∧ n ≤ c := by
 rcases h.2 with ⟨h, h0⟩ | ⟨g, cap, cur, h, _, _, hc, _⟩
 ·omega
 ·exact ⟨_, _, h, hc⟩
def AreaR (β : Be) (d : Nat) (n : Int) (r : Option Ar) (β' : Be) : Prop :=
 ∃ dk z, β.g.disks[d]? = some dk ∧ β.next[d]? = some z ∧
  ((r = none ∧ β' = β ∧ dk.ext < z + n) ∨ ∃ gap, 0 ≤ gap ∧ gap ≤ 1 ∧ z + gap + n ≤ dk.ext ∧ r = some ⟨false, dk.name, z + gap⟩ ∧ β' = ⟨β.g, β.next.set d (z + gap + n)⟩)
def zAr : Ar := ⟨false, ⟨#[]⟩, 0⟩
theorem AreaR.ok {β β' : Be} {d : Nat} {n : Int} {r : Option Ar} (h : AreaR β d n r β') (hn : 0 ≤ n) (hb : BeOk β) : BeOk β' := by
 obtain ⟨dk, z, hd, hz, ⟨_, rfl, _⟩ | ⟨gap, h0, h1, h2, _, rfl⟩⟩ := h
 ·exact hb
 ·refine ⟨hb.nd, by simpa using hb.nn, hb.ext, fun i z' d' hi hd' => ?_, hb.ex⟩
  have hz0 := hb.nz d z dk hz hd;by_cases e : d = i
  ·subst e
   have hlt := (List.getElem?_eq_some_iff.1 hz).1;rw [List.getElem?_set_self hlt] at hi;rw [hd] at hd';injection hi with hi;injection hd' with hd';subst hi hd';omega
  ·rw [List.getElem?_set_ne e] at hi
   exact hb.nz i z' d' hi hd'
theorem AreaR.g {β β' : Be} {d : Nat} {n : Int} {r : Option Ar} (h : AreaR β d n r β') : β'.g = β.g := by
 obtain ⟨_, _, _, _, ⟨_, rfl, _⟩ | ⟨_, _, _, _, _, rfl⟩⟩ := h <;> rfl
theorem bkeep {w w' : World} {a : Addr} {v : Value} (hb : Bel w w') (h : w.cell? a = some v) : w'.cell? a = some v := (hb.cell (xV_ h)).trans h
set_option maxHeartbeats 8000000 in
theorem xF_ {B : Nat} {S : Nat → Prop} {w : World} {bb sb : Nat} {β : Be} {vt vd vv vn : Value} {css : List (List Value)} (h : BU B S w bb sb β vt vd vv vn css) {d : Nat} (hd : d < β.g.disks.length) {n : Int} (hn : 0 ≤ n ∧ n ≤ 1000) :
  Calls Tryd.prog 66 #[.pointer (some ⟨bb, 0, none⟩), .int .i64 (d : Int), .int .i64 n] w (fun e w' => ∃ r β', AreaR β d n r β' ∧ e = .returned (.tuple #[.agg (arA (r.getD zAr)), .bool r.isSome]) ∧ BU B S w' bb sb β' vt vd vv vn css ∧ Only (Mt bb sb vv vn) w w') := by
 obtain ⟨Ad, cd, rfl⟩ := h.dl.form
 obtain ⟨gn, cn, rfl, hcn⟩ := xj_ h.nx (by have := h.ok.nn; have := h.ok.nd; omega)
 have hsd := hD h.sd
 have hz := Blk.new w 60 #[.bool false, .string ⟨#[]⟩, .int .i64 0]
 have h1 := h.lowS.up ((Below.refl _ _).al (.cells #[.bool false, .string ⟨#[]⟩, .int .i64 0] 60))
 have hnb : ¬ Mt bb sb vv (.slice (some ⟨gn, 0, none⟩) β.next.length cn) w.heap.size := fun e => by have := (h.mlt e).2; omega
 have hbs := h.base
 have hgn : gn < w.heap.size := (World.ownsRow.lt h.nx gn rfl).2
 obtain ⟨b0, b1, b2, b3, b4, b5, b6, b7, b8, b9, b10⟩ := h1.cells
 have HO1 := hD (show Only (Mt bb sb vv (.slice (some ⟨gn, 0, none⟩) β.next.length cn)) w (w.alloc (.cells #[.bool false, .string ⟨#[]⟩, .int .i64 0] 60)) from (Only.refl _ _).alloc _)
 have H := hD h
 have H1 := hD h1
 have HZ := hD hz
 have HNB := hD hnb
 have HN := hD (zO_ B sb 3 _ h1.src (by decide) (by decide))
 have hnd := h.ok.nd
 have hnn := h.ok.nn
 clear h h1 hz hnb
 go_enter Tryd.func66, Tryd.ntmps66
 go_wp2_with fail
 refine HN.out.mono ?_
 rintro e w1 ⟨x, hx, rfl, hok, ho⟩
 have hu1 := H1.out.src_ hok ho
 have H2 := hD hu1
 have HO2 := hD (HO1.out.trans (ho.mono fun _ _ e => .inr (.inl e)))
 have HZ2 := hD (HZ.out.only ho (fun e => HNB.out (.inr (.inl e))))
 obtain ⟨gap, hgap⟩ : ∃ gap, x.tdiv 2 = gap := ⟨_, rfl⟩
 have hg01 : 0 ≤ gap ∧ gap ≤ 1 := by rw [← hgap]; rw [Int.tdiv_eq_ediv_of_nonneg hx.1]; omega
 have wx : IntKind.i64.wrap (x.tdiv 2) = gap := by rw [hgap]; exact IntWalk.i64_in _ (by omega)
 clear ho hok
 obtain ⟨c0, c1, c2, c3, c4, c5, c6, c7, c8, c9, c10⟩ := hu1.cells
 obtain ⟨ad, dk, rfl, hdk, _, had, v0, h7, _⟩ := hu1.dl.at_ hd
 obtain ⟨d0, d1, d2, d3, d4, d5, d6⟩ := h7
 obtain ⟨z, hzz⟩ : ∃ z, β.next[d]? = some z := ⟨_, List.getElem?_eq_getElem (by omega)⟩
 have hnz := hu1.ok.nz d z dk hzz hdk
 have hex := hu1.ok.ext dk (List.mem_of_getElem? hdk)
 have n0 : w1.cell? ⟨gn, d, none⟩ = some (.int .i64 z) := by
  rw [World.ownsRow.cellAt hu1.nx d (by omega)];simp [I, hzz]
 have n1 : w1.cell? ((⟨gn, 0, none⟩ : Addr).add d) = some (.int .i64 z) := by rw [add0]; exact n0
 have HD := hD hdk
 have HZZ := hD hzz
 have i0 : (d : Int) < (β.g.disks.length : Int) := by omega
 have i1 : (d : Int) < (β.next.length : Int) := by omega
 have i2 : (0 : Int) ≤ (d : Int) := by omega
 have w2 : IntKind.i64.wrap (z + gap) = z + gap := IntWalk.i64_in _ (by omega)
 have w3 : IntKind.i64.wrap (z + gap + n) = z + gap + n := IntWalk.i64_in _ (by omega)
 have w4 : IntKind.i64.wrap (z + n) = z + n := IntWalk.i64_in _ (by omega)
 have w6 : IntKind.i64.wrap z = z := IntWalk.i64_in _ (by omega)
 have hb1 : bb < w1.heap.size := H2.out.blk.lt
 have hg1 : gn < w1.heap.size := (World.ownsRow.lt H2.out.nx gn rfl).2
 have hw1 : w.heap.size < w1.heap.size := HZ2.out.lt
 have w5' : IntKind.i64.wrap (gap + n) = gap + n := IntWalk.i64_in _ (by omega)
 clear b0 b1 b2 b3 b4 b5 b6 b7 b8 b9 b10 hdk hzz hu1
 have nf : w1.frozen? ⟨gn, d, none⟩ = false := World.ownsRow.frozenAt H2.out.nx d
 by_cases hF : dk.ext < z + n
 ·have tA : decide (dk.ext < z + gap + n) = true := decide_eq_true (by omega)
  have tF : decide (dk.ext < z + n) = true := decide_eq_true hF;have r0 : w1.cell? ⟨w.heap.size, 0, none⟩ = some (.bool false) := by rw [HZ2.out.cell]; rfl
  have r1 : w1.cell? ⟨w.heap.size, 1, none⟩ = some (.string ⟨#[]⟩) := by rw [HZ2.out.cell]; rfl
  have r2 : w1.cell? ⟨w.heap.size, 2, none⟩ = some (.int .i64 0) := by rw [HZ2.out.cell]; rfl
  have g0 := HZ2.out.frozen 0;have g1 := HZ2.out.frozen 1;have g2 := HZ2.out.frozen 2;go_wp2_with fail
  go_quiet (fail)
  obtain ⟨m, hm⟩ : ∃ m, m = nq := ⟨_, rfl⟩;subst hm;go_wp2_with fail
  go_quiet (fail)
  go_wp2_with fail
  have b3 := (((HZ2.out.drewN (m + nq)).set_ 0 (.bool false)).set_ 1 (.string ⟨#[]⟩)).set_ 2 (.int .i64 0);have ho3 := (((Only.refl (· = w.heap.size) (w1.drewN (m + nq))).setCell (p := ⟨w.heap.size, 0, none⟩) (.inl rfl) (.bool false)).setCell (p := ⟨w.heap.size, 1, none⟩) (.inl rfl) (.string ⟨#[]⟩)).setCell (p := ⟨w.heap.size, 2, none⟩) (.inl rfl) (.int .i64 0);have hbq : Bel w1 (w1.drewN (m + nq)) := zg_ (Below.refl _ _) _;have hf := ((H2.out.up hbq).far ho3 (fun k e => e ▸ HNB.out) (fun k e hk => by have := hk.2; omega) (fun k e => by omega)).weak (fun _ h => h.1) hsd.out
  (try simp only [Exit.inBlock, Exit.then])
  refine bodyPost_ret (zu_ rfl _ _ w.heap.size 60 #[.bool false, .string ⟨#[]⟩, .int .i64 0] _ rfl b3 Tryd.underlying60 rfl (by kernel_rfl)) rfl ⟨none, β, ⟨dk, z, HD.out, HZZ.out, .inl ⟨rfl, rfl, hF⟩⟩, rfl, hf, ?_⟩;exact (HO2.out.next hbq).trans_ ho3 (fun k hk e => by omega)
 ·have tF : decide (dk.ext < z + n) = false := decide_eq_false hF
  by_cases hA : dk.ext < z + gap + n
  ·have tA : decide (dk.ext < z + gap + n) = true := decide_eq_true hA
   go_wp2_with fail
   go_quiet (fail)
   obtain ⟨m, hm⟩ : ∃ m, m = nq := ⟨_, rfl⟩;subst hm;go_wp2_with fail
   go_quiet (fail)
   go_wp2_with fail
   have hbq : Bel w1 ((w1.drewN m).drewN nq) := zg_ (zg_ (Below.refl _ _) _) _;obtain ⟨w5, hw5⟩ : ∃ w5, (w1.drewN m).drewN nq = w5 := ⟨_, rfl⟩;rw [hw5] at hbq ⊢;clear hw5;have k7 := bkeep hbq c7;have k10 := bkeep hbq c10;have kn0 := bkeep hbq n0;have kn1 := bkeep hbq n1;have kd := bkeep hbq d0;have a7 := bkeep (hbq.al (.cells #[.bool false, .string ⟨#[]⟩, .int .i64 0] 60)) c7;have a10 := bkeep (hbq.al (.cells #[.bool false, .string ⟨#[]⟩, .int .i64 0] 60)) c10;have an0 := bkeep (hbq.al (.cells #[.bool false, .string ⟨#[]⟩, .int .i64 0] 60)) n0;have an1 := bkeep (hbq.al (.cells #[.bool false, .string ⟨#[]⟩, .int .i64 0] 60)) n1;have adn := bkeep (hbq.al (.cells #[.bool false, .string ⟨#[]⟩, .int .i64 0] 60)) d0;have HBQ := hD hbq;have c7' := c7;have c10' := c10;have n0' := n0;have n1' := n1;clear c0 c1 c2 c3 c4 c5 c6 c7 c8 c9 c10 n0 n1 d0 d1 d2 d3 d4 d5 d6 nf hb1 hg1 hbq;go_cut [9] (fun p wx => ∃ q, p = .pointer (some ⟨q, 0, none⟩) ∧ w1.heap.size ≤ q ∧ Blk wx q 60 #[.bool false, .string dk.name, .int .i64 (z)] ∧ Bel w1 wx)
   case first =>
    go_region
    all_goals
     go_wp2_with fail
     go_meet
     case rel =>
      have hle := HBQ.out.size;exact ⟨w5.heap.size, rfl, hle, (Blk.new w5 _ _).drewN 1, (HBQ.out.al _).drew⟩
   case rest =>
    obtain ⟨q, rfl, hq, hbk, hbx⟩ := hcut;have k10 := bkeep hbx c10';have kn0 := bkeep hbx n0';have kn1 := bkeep hbx n1';have fz : wc.frozen? ⟨gn, d, none⟩ = false := World.ownsRow.frozenAt (H2.out.up hbx).nx d;have hgw : gn < w.heap.size := hgn;have hne1 : gn ≠ w.heap.size := by omega
    have hne2 : w.heap.size ≠ gn := by omega
    have hne3 : gn ≠ q := by omega
    have hne4 : q ≠ gn := by omega
    have hne5 : q ≠ w.heap.size := by omega
    have hne6 : w.heap.size ≠ q := by omega
    have hzc := HZ2.out.below hbx HZ2.out.lt;have r0 : wc.cell? ⟨w.heap.size, 0, none⟩ = some (.bool false) := by rw [hzc.cell]; rfl
    have r1 : wc.cell? ⟨w.heap.size, 1, none⟩ = some (.string ⟨#[]⟩) := by rw [hzc.cell]; rfl
    have r2 : wc.cell? ⟨w.heap.size, 2, none⟩ = some (.int .i64 0) := by rw [hzc.cell]; rfl
    have g0 := hzc.frozen 0;have g1 := hzc.frozen 1;have g2 := hzc.frozen 2;have q0 : wc.cell? ⟨q, 0, none⟩ = some (.bool false) := by rw [hbk.cell]; rfl
    have q1 : wc.cell? ⟨q, 1, none⟩ = some (.string dk.name) := by rw [hbk.cell]; rfl
    have q2 : wc.cell? ⟨q, 2, none⟩ = some (.int .i64 (z)) := by rw [hbk.cell]; rfl
    have har : AreaR β d n (some ⟨false, dk.name, z⟩) ⟨β.g, β.next.set d (z + n)⟩ := ⟨dk, z, HD.out, HZZ.out, .inr ⟨0, by omega, by omega, by omega, by simp, by simp⟩⟩;have hset := (H2.out.up hbx).setNext (d := d) (z := z + n) rfl (har.ok hn.1 H2.out.ok);have HSET := hD hset;have HBX := hD hbx;have HZC := hD hzc;have HAR := hD har;have w7 : IntKind.i64.wrap (z + n) = z + n := IntWalk.i64_in _ (by omega);have w8 : IntKind.i64.wrap n = n := IntWalk.i64_in _ (by omega);clear hbx hzc har hset hbk;go_wp2_with fail
    have b1 := HZC.out.only ((Only.refl (· = gn) wc).setCell (p := ⟨gn, d, none⟩) (.inl rfl) (.int .i64 (z + n))) hne2;have b3 := ((b1.set_ 0 (.bool false)).set_ 1 (.string dk.name)).set_ 2 (.int .i64 (z));have ho3 := (((Only.refl (· = w.heap.size) (wc.setCell ⟨gn, d, none⟩ (.int .i64 (z + n)))).setCell (p := ⟨w.heap.size, 0, none⟩) (.inl rfl) (.bool false)).setCell (p := ⟨w.heap.size, 1, none⟩) (.inl rfl) (.string dk.name)).setCell (p := ⟨w.heap.size, 2, none⟩) (.inl rfl) (.int .i64 (z));have hf := (HSET.out.1.far ho3 (fun k e => e ▸ HNB.out) (fun k e hk => by have := hk.2; omega) (fun k e => by omega)).weak (fun _ h => h.1) hsd.out
    (try simp only [Exit.inBlock, Exit.then])
    refine bodyPost_ret (zu_ rfl _ _ w.heap.size 60 #[.bool false, .string dk.name, .int .i64 (z)] _ rfl b3 Tryd.underlying60 rfl (by kernel_rfl)) rfl ⟨_, _, HAR.out, rfl, hf, ?_⟩;exact ((HO2.out.next HBX.out).trans_ HSET.out.2 (fun _ _ e => e)).trans_ ho3 (fun k hk e => by omega)
  ·have tA : decide (dk.ext < z + gap + n) = false := decide_eq_false hA
   go_wp2_with fail
   go_quiet (fail)
   obtain ⟨m, hm⟩ : ∃ m, m = nq := ⟨_, rfl⟩;subst hm;go_wp2_with fail
   go_quiet (fail)
   go_wp2_with fail
   have hbq : Bel w1 ((w1.drewN m).drewN nq) := zg_ (zg_ (Below.refl _ _) _) _;obtain ⟨w5, hw5⟩ : ∃ w5, (w1.drewN m).drewN nq = w5 := ⟨_, rfl⟩;rw [hw5] at hbq ⊢;clear hw5;have k7 := bkeep hbq c7;have k10 := bkeep hbq c10;have kn0 := bkeep hbq n0;have kn1 := bkeep hbq n1;have kd := bkeep hbq d0;have a7 := bkeep (hbq.al (.cells #[.bool false, .string ⟨#[]⟩, .int .i64 0] 60)) c7;have a10 := bkeep (hbq.al (.cells #[.bool false, .string ⟨#[]⟩, .int .i64 0] 60)) c10;have an0 := bkeep (hbq.al (.cells #[.bool false, .string ⟨#[]⟩, .int .i64 0] 60)) n0;have an1 := bkeep (hbq.al (.cells #[.bool false, .string ⟨#[]⟩, .int .i64 0] 60)) n1;have adn := bkeep (hbq.al (.cells #[.bool false, .string ⟨#[]⟩, .int .i64 0] 60)) d0;have HBQ := hD hbq;have c7' := c7;have c10' := c10;have n0' := n0;have n1' := n1;clear c0 c1 c2 c3 c4 c5 c6 c7 c8 c9 c10 n0 n1 d0 d1 d2 d3 d4 d5 d6 nf hb1 hg1 hbq;go_cut [9] (fun p wx => ∃ q, p = .pointer (some ⟨q, 0, none⟩) ∧ w1.heap.size ≤ q ∧ Blk wx q 60 #[.bool false, .string dk.name, .int .i64 (z + gap)] ∧ Bel w1 wx)
   case first =>
    go_region
    all_goals
     go_wp2_with fail
     go_meet
     case rel =>
      have hle := HBQ.out.size;exact ⟨w5.heap.size, rfl, hle, (Blk.new w5 _ _).drewN 1, (HBQ.out.al _).drew⟩
   case rest =>
    obtain ⟨q, rfl, hq, hbk, hbx⟩ := hcut;have k10 := bkeep hbx c10';have kn0 := bkeep hbx n0';have kn1 := bkeep hbx n1';have fz : wc.frozen? ⟨gn, d, none⟩ = false := World.ownsRow.frozenAt (H2.out.up hbx).nx d;have hgw : gn < w.heap.size := hgn;have hne1 : gn ≠ w.heap.size := by omega
    have hne2 : w.heap.size ≠ gn := by omega
    have hne3 : gn ≠ q := by omega
    have hne4 : q ≠ gn := by omega
    have hne5 : q ≠ w.heap.size := by omega
    have hne6 : w.heap.size ≠ q := by omega
    have hzc := HZ2.out.below hbx HZ2.out.lt;have r0 : wc.cell? ⟨w.heap.size, 0, none⟩ = some (.bool false) := by rw [hzc.cell]; rfl
    have r1 : wc.cell? ⟨w.heap.size, 1, none⟩ = some (.string ⟨#[]⟩) := by rw [hzc.cell]; rfl
    have r2 : wc.cell? ⟨w.heap.size, 2, none⟩ = some (.int .i64 0) := by rw [hzc.cell]; rfl
    have g0 := hzc.frozen 0;have g1 := hzc.frozen 1;have g2 := hzc.frozen 2;have q0 : wc.cell? ⟨q, 0, none⟩ = some (.bool false) := by rw [hbk.cell]; rfl
    have q1 : wc.cell? ⟨q, 1, none⟩ = some (.string dk.name) := by rw [hbk.cell]; rfl
    have q2 : wc.cell? ⟨q, 2, none⟩ = some (.int .i64 (z + gap)) := by rw [hbk.cell]; rfl
    have har : AreaR β d n (some ⟨false, dk.name, z + gap⟩) ⟨β.g, β.next.set d (z + (gap + n))⟩ := ⟨dk, z, HD.out, HZZ.out, .inr ⟨gap, by omega, by omega, by omega, rfl, by rw [Int.add_assoc]⟩⟩;have hset := (H2.out.up hbx).setNext (d := d) (z := z + (gap + n)) rfl (har.ok hn.1 H2.out.ok);have HSET := hD hset;have HBX := hD hbx;have HZC := hD hzc;have HAR := hD har;have w7 : IntKind.i64.wrap (z + (gap + n)) = z + (gap + n) := IntWalk.i64_in _ (by omega);have w8 : IntKind.i64.wrap n = n := IntWalk.i64_in _ (by omega);clear hbx hzc har hset hbk;go_wp2_with fail
    have b1 := HZC.out.only ((Only.refl (· = gn) wc).setCell (p := ⟨gn, d, none⟩) (.inl rfl) (.int .i64 (z + (gap + n)))) hne2;have b3 := ((b1.set_ 0 (.bool false)).set_ 1 (.string dk.name)).set_ 2 (.int .i64 (z + gap));have ho3 := (((Only.refl (· = w.heap.size) (wc.setCell ⟨gn, d, none⟩ (.int .i64 (z + (gap + n))))).setCell (p := ⟨w.heap.size, 0, none⟩) (.inl rfl) (.bool false)).setCell (p := ⟨w.heap.size, 1, none⟩) (.inl rfl) (.string dk.name)).setCell (p := ⟨w.heap.size, 2, none⟩) (.inl rfl) (.int .i64 (z + gap));have hf := (HSET.out.1.far ho3 (fun k e => e ▸ HNB.out) (fun k e hk => by have := hk.2; omega) (fun k e => by omega)).weak (fun _ h => h.1) hsd.out
    (try simp only [Exit.inBlock, Exit.then])
    refine bodyPost_ret (zu_ rfl _ _ w.heap.size 60 #[.bool false, .string dk.name, .int .i64 (z + gap)] _ rfl b3 Tryd.underlying60 rfl (by kernel_rfl)) rfl ⟨_, _, HAR.out, rfl, hf, ?_⟩;exact ((HO2.out.next HBX.out).trans_ HSET.out.2 (fun _ _ e => e)).trans_ ho3 (fun k hk e => by omega)
structure Nx (S M : Nat → Prop) (w : World) (S' M' : Nat → Prop) (w' : World) : Prop where
 only : Only M w w'
 deep : ∀ k, k < w.heap.size → S' k → S k
 turn : ∀ k, k < w.heap.size → M' k → M k
section
variable {S S' S2 M M' M2 : Nat → Prop} {w w' w2 : World}
theorem Nx.same (h : Only M w w') : Nx S M w S M w' := ⟨h, fun _ _ h => h, fun _ _ h => h⟩
theorem Nx.low (h : Only M w w') : Nx S M w (fun k => S k ∧ k < w.heap.size) M w' := ⟨h, fun _ _ h => h.1, fun _ _ h => h⟩
theorem Nx.trans (h1 : Nx S M w S' M' w') (h2 : Nx S' M' w' S2 M2 w2) : Nx S M w S2 M2 w2 :=
 ⟨h1.only.trans_ h2.only (fun k hk h => h1.turn k hk h), fun k hk h => h1.deep k hk (h2.deep k (Nat.lt_of_lt_of_le hk h1.only.size) h), fun k hk h => h1.turn k hk (h2.turn k (Nat.lt_of_lt_of_le hk h1.only.size) h)⟩
theorem Nx.below (h1 : Nx S M w S' M' w') (h2 : Bel w' w2) : Nx S M w S' M' w2 := ⟨h1.only.next h2, h1.deep, h1.turn⟩
theorem Nx.blk {g : Nat} {T : TypeId} {cs : Array Value} (h : Nx S M w S' M' w') (hb : Blk w g T cs) (hm : ¬ M g) (hs : ¬ S g) : Blk w' g T cs ∧ ¬ M' g ∧ ¬ S' g :=
 ⟨hb.only h.only hm, fun e => hm (h.turn g hb.lt e), fun e => hs (h.deep g hb.lt e)⟩
end
section
variable {B : Nat} {S S' : Nat → Prop} {w w' w8 : World} {bb sb : Nat} {β : Be} {vt vd vv vn vv' : Value} {css : List (List Value)}
def Be.add (β : Be) (x : Vo) : Be := ⟨{ β.g with vols := β.g.vols ++ [x] }, β.next⟩
theorem BU.push {x : Vo} {new : List Value} (h : BU B S w bb sb β vt vd vv vn css) (hn : voW w S new x) (ho : w8.ownsRow B 53 6 vv' (β.g.vols.length + 1) (css.flatten ++ new)) (hg : w.grownBy w8 vv.ownBlock)
  (hd : vv'.ownBlock = vv.ownBlock ∨ vv'.ownBlock = some w.heap.size) :
  BU B (fun k => S k ∧ k < w.heap.size) (w8.setCell ⟨bb, 8, none⟩ vv') bb sb (β.add x) vt vd vv' vn (css ++ [new]) ∧ Nx S (Mt bb sb vv vn) w (fun k => S k ∧ k < w.heap.size) (Mt bb sb vv' vn) (w8.setCell ⟨bb, 8, none⟩ vv') := by
 have hl := h.lowS
 have ho1 : Only (fun k => vv.ownBlock = some k) w w8 := (Only.refl (fun k => vv.ownBlock = some k) w).grown hg (fun k e => .inl e)
 have ho2 : Only (· = bb) w8 (w8.setCell ⟨bb, 8, none⟩ vv') := (Only.refl (· = bb) w8).setCell (p := ⟨bb, 8, none⟩) (.inl rfl) vv'
 have hbl := h.blk.lt
 have hsl := h.src.lt
 have hfresh : ∀ k, k < w.heap.size → vv'.ownBlock = some k → vv.ownBlock = some k := fun k hk e => by
  rcases hd with hd | hd
  ·exact hd ▸ e
  ·rw [hd] at e
   injection e with e;omega
 refine ⟨⟨(h.blk.only ho1 h.d2.1).set_ 8 vv', (h.src.only ho1 h.d2.2 (fun k e => (h.vs.lt e).1)).only ho2 (fun e => h.d1 e.symm) (fun k e => e ▸ h.low), ?_, ?_, ?_, ?_, ?_, h.low, h.d1, ?_, h.d3, ?_, h.hist, ⟨h.ok.nd, h.ok.nn, h.ok.ext, h.ok.nz, h.ok.ex⟩⟩, ⟨?_, fun k _ e => e.1, ?_⟩⟩
 ·exact TL.keep (TL.keep hl.tl (Kept.of_only ho1 fun k hk e => h.sd k hk.1 (.inr (.inr (.inl e)))) (fun _ h => h)) (Kept.of_only ho2 fun k hk e => h.sd k hk.1 (.inl e)) (fun _ h => h)
 ·exact DL.keep (DL.keep hl.dl (Kept.of_only ho1 fun k hk e => h.sd k hk.1 (.inr (.inr (.inl e)))) (fun _ h => h)) (Kept.of_only ho2 fun k hk e => h.sd k hk.1 (.inl e)) (fun _ h => h)
 ·exact (h.vs.push voL ho hg (fun k e hs => h.sd k hs (.inr (.inr (.inl e)))) hn (fun k h1 h2 => (⟨h1, h2⟩ : (fun k => S k ∧ k < w.heap.size) k))).only voL ho2 (fun k hk e => by
   subst e;exact h.d2.1 (hfresh _ hbl hk)) (fun k hk e => h.sd k hk.1 (.inl e)) (fun _ h => h)
 ·exact zb_ (zb_ h.nx ho1 (fun k hk e => h.d4 k e hk)) ho2 (fun k hk e => h.d3.1 (e ▸ hk))
 ·rintro k ⟨hk, hlt⟩ (e | e | e | e)
  ·exact h.sd k hk (.inl e)
  ·exact h.sd k hk (.inr (.inl e))
  ·exact h.sd k hk (.inr (.inr (.inl (hfresh k hlt e))))
  ·exact h.sd k hk (.inr (.inr (.inr e)))
 ·exact ⟨fun e => h.d2.1 (hfresh _ hbl e), fun e => h.d2.2 (hfresh _ hsl.2.1 e)⟩
 ·intro k hk e
  have := (World.ownsRow.lt h.nx k e).2;exact h.d4 k (hfresh k this hk) e
 ·exact (ho1.mono fun k _ e => .inr (.inr (.inl e))).trans_ ho2 (fun k _ e => .inl e)
 ·rintro k hk (e | e | e | e)
  ·exact .inl e
  ·exact .inr (.inl e)
  ·exact .inr (.inr (.inl (hfresh k hk e)))
  ·exact .inr (.inr (.inr e))
end
end Go.Proofs.YtdkcfgahdcpkkaaDoor
