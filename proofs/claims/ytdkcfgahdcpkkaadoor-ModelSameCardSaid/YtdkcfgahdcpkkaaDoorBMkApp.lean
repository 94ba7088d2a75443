/- The builder: the states of the region that appends a volume of one segment. -/
import Derived.Test.YtdkcfgahdcpkkaaDoorBMk2
import Derived.Test.YtdkcfgahdcpkkaaDoorBMk0
import Derived.Deep.RegionHeld3
import Derived.MapKept
import Derived.BigQuiet
import Derived.Deep.QuietTactic
import Derived.Test.YtdkcfgahdcpkkaaDoorBFlags
set_option linter.all false
set_option linter.unusedVariables false
set_option linter.unusedSimpArgs false
namespace Go.Proofs.YtdkcfgahdcpkkaaDoor
open Go.RowKit
set_option maxRecDepth 100000
theorem infoV : (Tryd.prog.info? 53).map (fun i => (i.zero, i.size, i.bytes)) = some (some (.agg #[.string ⟨#[]⟩, .int .u64 0, .bool false, .bool false, .slice none 0 0, .slice none 0 0]), 6, 80) := by kernel_rfl
def linSeg (n : Int) (a : Ar) : Sg := ⟨0, n, 1, [a], 0, [], ⟨#[]⟩, ⟨#[]⟩, 0, 0, 0⟩
def linVo (name : ByteArray) (id : Int) (hid : Bool) (n : Int) (a : Ar) : Vo := ⟨name, id, hid, false, [], [linSeg n a]⟩
/-- linear adds a volume, or does not -/
def LinR (β : Be) (name : ByteArray) (hid : Bool) (n : Int) (ok : Bool) (β' : Be) : Prop :=
  (ok = false ∧ β' = nextB β) ∨ (ok = true ∧ ∃ d a β2, AreaR (nextB β) d n (some a) β2 ∧ β' = β2.add (linVo name (idB β) hid n a))
set_option maxHeartbeats 16000000 in
theorem linear2_any {B : Nat} {S : Nat → Prop} {w : World} {bb sb : Nat} {β : Be} {vt vd vv vn : Value} {css : List (List Value)} (h : BU B S w bb sb β vt vd vv vn css) (hnx : 0 ≤ β.g.next ∧ β.g.next ≤ 1000000) (hvl : β.g.vols.length ≤ 1000) (name : ByteArray) (hid : Bool) {disk : Int} (hd : 0 ≤ disk ∧ disk ≤ 1000) {n : Int} (hn : 0 ≤ n ∧ n ≤ 1000) :
    Calls Tryd.prog 28 #[.pointer (some ⟨bb, 0, none⟩), .string name, .bool hid, .int .i64 disk, .int .i64 n] w (fun e w' => ∃ ok β' vv' css' S', LinR β name hid n ok β' ∧ e = .returned (.bool ok) ∧ BU B S' w' bb sb β' vt vd vv' vn css' ∧ Nx S (Mt bb sb vv vn) w S' (Mt bb sb vv' vn) w' ∧ (ok = true → ∃ g, css' = css ++ [[.string name, .int .u64 (idB β), .bool hid, .bool false, .slice none 0 0, .slice (some ⟨g, 0, none⟩) 1 1]])) := by
  obtain ⟨Ad, cd, rfl⟩ := h.dl.form
  have HI := Lib.hid (mkid_any h hnx)
  have hnd := h.ok.nd
  clear h
  go_enter Tryd.func28, Tryd.ntmps28
  go_wp2_with fail
  refine HI.out.mono ?_
  rintro e w1 ⟨rfl, hbu, ho⟩
  have hlow := hbu.lowS.up ((Below.refl _ _).al (.cells #[.string name, .int .u64 (idB β), .bool hid, .bool false, .slice none 0 0, .slice none 0 0] 53))
  have hq : ¬ Mt bb sb vv vn w1.heap.size := fun e => by have := (hbu.mlt e).2; omega
  have HQ := Lib.hid hq
  have HBQ := Lib.hid hbu.base
  have HW01 := Lib.hid ho.size
  have hblt := hbu.blk.lt
  have hnx0 : Nx S (Mt bb sb vv vn) w (fun k => S k ∧ k < w1.heap.size) (Mt bb sb vv vn) (w1.alloc (.cells #[.string name, .int .u64 (idB β), .bool hid, .bool false, .slice none 0 0, .slice none 0 0] 53)) := (Nx.same ho).trans ((Nx.low (Only.refl _ _)).below ((Below.refl _ _).al _))
  have HST := Lib.hid (show BU B (fun k => S k ∧ k < w1.heap.size) (w1.alloc (.cells #[.string name, .int .u64 (idB β), .bool hid, .bool false, .slice none 0 0, .slice none 0 0] 53)) bb sb (nextB β) vt (.slice Ad β.g.disks.length cd) vv vn css ∧ Blk (w1.alloc (.cells #[.string name, .int .u64 (idB β), .bool hid, .bool false, .slice none 0 0, .slice none 0 0] 53)) w1.heap.size 53 #[.string name, .int .u64 (idB β), .bool hid, .bool false, .slice none 0 0, .slice none 0 0] ∧ Nx S (Mt bb sb vv vn) w (fun k => S k ∧ k < w1.heap.size) (Mt bb sb vv vn) (w1.alloc (.cells #[.string name, .int .u64 (idB β), .bool hid, .bool false, .slice none 0 0, .slice none 0 0] 53)) from ⟨hlow, Blk.new w1 _ _, hnx0⟩)
  clear hbu ho hlow hq hnx0
  go_wp2_with fail
  go_loopw [12] (fun i wx => ∃ k : Nat, k ≤ β.g.disks.length ∧ i = .int .i64 (k : Int) ∧ BU B (fun k => S k ∧ k < w1.heap.size) wx bb sb (nextB β) vt (.slice Ad β.g.disks.length cd) vv vn css ∧ Blk wx w1.heap.size 53 #[.string name, .int .u64 (idB β), .bool hid, .bool false, .slice none 0 0, .slice none 0 0] ∧ Nx S (Mt bb sb vv vn) w (fun k => S k ∧ k < w1.heap.size) (Mt bb sb vv vn) wx) (fun i _ => β.g.disks.length - (intOf i).toNat)
  case atStart => exact ⟨0, Nat.zero_le _, rfl, HST.out.1, HST.out.2.1, HST.out.2.2⟩
  case round =>
    clear HST
    obtain ⟨k, hk, rfl, hbu, hvb, hnx⟩ := hrel
    have HBU := Lib.hid hbu
    have HVB := Lib.hid hvb
    have HNX := Lib.hid hnx
    obtain ⟨c0, c1, c2, c3, c4, c5, c6, c7, c8, c9, c10⟩ := hbu.cells
    have hqr : w1.heap.size < wr.heap.size := hvb.lt
    clear hbu hvb hnx
    by_cases hlt : k < β.g.disks.length
    · have z0 : (k : Int) < (β.g.disks.length : Int) := by omega
      obtain ⟨dd, hdd⟩ : ∃ dd : Nat, (disk + (k : Int)) % (β.g.disks.length : Int) = (dd : Int) := ⟨((disk + (k : Int)) % (β.g.disks.length : Int)).toNat, by
        have := Int.emod_nonneg (disk + (k : Int)) (b := (β.g.disks.length : Int)) (by omega)
        omega⟩
      have hdl : dd < β.g.disks.length := by
        have := Int.emod_lt_of_pos (disk + (k : Int)) (b := (β.g.disks.length : Int)) (by omega)
        omega
      have wa : IntKind.i64.wrap (disk + (k : Int)) = disk + (k : Int) := IntWalk.i64_in _ (by omega)
      have hne : ((β.g.disks.length : Int) == 0) = false := beq_eq_false_iff_ne.2 (by omega)
      have HA := Lib.hid (area_any HBU.out hdl hn)
      go_wp2_with fail
      refine HA.out.mono ?_
      rintro e w5 ⟨r, β2, hr, rfl, hbu5, ho5⟩
      cases r with
      | none =>
        have hb2 : β2 = nextB β := by
          obtain ⟨_, _, _, _, ⟨_, h, _⟩ | ⟨_, _, _, _, h, _⟩⟩ := hr
          · exact h
          · cases h
        subst hb2
        have HBU5 := Lib.hid (hbu5.up ((Below.refl _ _).al (.cells #[.bool false, .string ⟨#[]⟩, .int .i64 0] 60)))
        have HVB5 := Lib.hid ((HVB.out.only ho5 HQ.out).alloc (.cells #[.bool false, .string ⟨#[]⟩, .int .i64 0] 60))
        have HNX5 := Lib.hid ((HNX.out.trans (Nx.same ho5)).below ((Below.refl _ _).al (.cells #[.bool false, .string ⟨#[]⟩, .int .i64 0] 60)))
        clear hbu5 ho5 hr c0 c1 c2 c3 c4 c5 c6 c7 c8 c9 c10
        unfold arA zAr
        go_wp2_with fail
        go_roundw
        case rel => exact ⟨k + 1, by omega, by go_num, HBU5.out, HVB5.out, HNX5.out⟩
        case measure => simp [intOf]; omega
      | some a =>
        have hv5 := HVB.out.only ho5 HQ.out
        have hvs := ((hv5.alloc (.cells #[.bool a.vol, .string a.on, .int .i64 a.start] 60)).alloc (.cells #[.bool a.vol, .string a.on, .int .i64 a.start] 60)).alloc (.cells #[.int .i64 0, .int .i64 n, .int .i64 1, .slice (some ⟨w5.heap.size + 1, 0, none⟩) 1 1, .int .i64 0, .slice none 0 0, .string ⟨#[]⟩, .string ⟨#[]⟩, .int .i64 0, .int .i64 0, .int .i64 0] 58)
        obtain ⟨m0, m1, m2, m3, m4, m5⟩ := sixM hvs
        have f5 := hvs.frozen 5
        have hsz5 : w1.heap.size < w5.heap.size := hv5.lt
        have HBU5 := Lib.hid hbu5
        have HO5 := Lib.hid ho5
        have HR := Lib.hid hr
        have HV5 := Lib.hid hv5
        have hg2 := AreaR.g hr
        have hvl2 : β2.g.vols.length ≤ 1000 := by rw [hg2]; exact hvl
        have hsa : (((w5.alloc (.cells #[.bool a.vol, .string a.on, .int .i64 a.start] 60)).alloc (.cells #[.bool a.vol, .string a.on, .int .i64 a.start] 60)).alloc (.cells #[.int .i64 0, .int .i64 n, .int .i64 1, .slice (some ⟨w5.heap.size + 1, 0, none⟩) 1 1, .int .i64 0, .slice none 0 0, .string ⟨#[]⟩, .string ⟨#[]⟩, .int .i64 0, .int .i64 0, .int .i64 0] 58)).heap.size = w5.heap.size + 1 + 1 + 1 := by simp
        have hs9 : ((((w5.alloc (.cells #[.bool a.vol, .string a.on, .int .i64 a.start] 60)).alloc (.cells #[.bool a.vol, .string a.on, .int .i64 a.start] 60)).alloc (.cells #[.int .i64 0, .int .i64 n, .int .i64 1, .slice (some ⟨w5.heap.size + 1, 0, none⟩) 1 1, .int .i64 0, .slice none 0 0, .string ⟨#[]⟩, .string ⟨#[]⟩, .int .i64 0, .int .i64 0, .int .i64 0] 58)).setCell ⟨w1.heap.size, 5, none⟩ (.slice (some ⟨w5.heap.size + 1 + 1, 0, none⟩) 1 1)).heap.size = w5.heap.size + 1 + 1 + 1 := by simp
        have hmlt := fun k (e : Mt bb sb vv vn k) => (HBU5.out.mlt e).2
        have ho9 : Only (· = w1.heap.size) (((w5.alloc (.cells #[.bool a.vol, .string a.on, .int .i64 a.start] 60)).alloc (.cells #[.bool a.vol, .string a.on, .int .i64 a.start] 60)).alloc (.cells #[.int .i64 0, .int .i64 n, .int .i64 1, .slice (some ⟨w5.heap.size + 1, 0, none⟩) 1 1, .int .i64 0, .slice none 0 0, .string ⟨#[]⟩, .string ⟨#[]⟩, .int .i64 0, .int .i64 0, .int .i64 0] 58)) ((((w5.alloc (.cells #[.bool a.vol, .string a.on, .int .i64 a.start] 60)).alloc (.cells #[.bool a.vol, .string a.on, .int .i64 a.start] 60)).alloc (.cells #[.int .i64 0, .int .i64 n, .int .i64 1, .slice (some ⟨w5.heap.size + 1, 0, none⟩) 1 1, .int .i64 0, .slice none 0 0, .string ⟨#[]⟩, .string ⟨#[]⟩, .int .i64 0, .int .i64 0, .int .i64 0] 58)).setCell ⟨w1.heap.size, 5, none⟩ (.slice (some ⟨w5.heap.size + 1 + 1, 0, none⟩) 1 1)) := (Only.refl (· = w1.heap.size) (((w5.alloc (.cells #[.bool a.vol, .string a.on, .int .i64 a.start] 60)).alloc (.cells #[.bool a.vol, .string a.on, .int .i64 a.start] 60)).alloc (.cells #[.int .i64 0, .int .i64 n, .int .i64 1, .slice (some ⟨w5.heap.size + 1, 0, none⟩) 1 1, .int .i64 0, .slice none 0 0, .string ⟨#[]⟩, .string ⟨#[]⟩, .int .i64 0, .int .i64 0, .int .i64 0] 58))).setCell (p := ⟨w1.heap.size, 5, none⟩) (.inl rfl) _
        have hb9 : BU B (fun k => S k ∧ k < w1.heap.size) ((((w5.alloc (.cells #[.bool a.vol, .string a.on, .int .i64 a.start] 60)).alloc (.cells #[.bool a.vol, .string a.on, .int .i64 a.start] 60)).alloc (.cells #[.int .i64 0, .int .i64 n, .int .i64 1, .slice (some ⟨w5.heap.size + 1, 0, none⟩) 1 1, .int .i64 0, .slice none 0 0, .string ⟨#[]⟩, .string ⟨#[]⟩, .int .i64 0, .int .i64 0, .int .i64 0] 58)).setCell ⟨w1.heap.size, 5, none⟩ (.slice (some ⟨w5.heap.size + 1 + 1, 0, none⟩) 1 1)) bb sb β2 vt (.slice Ad β.g.disks.length cd) vv vn css := (HBU5.out.up ((((Below.refl _ _).al _).al _).al _)).far ho9 (fun k e => e ▸ HQ.out) (fun k e hk => by have := hk.2; omega) (fun k e => by have := HBQ.out; omega)
        have hb10 : BU B (fun k => (S k ∧ k < w1.heap.size) ∨ k = w5.heap.size + 1 ∨ k = w5.heap.size + 1 + 1) (((((w5.alloc (.cells #[.bool a.vol, .string a.on, .int .i64 a.start] 60)).alloc (.cells #[.bool a.vol, .string a.on, .int .i64 a.start] 60)).alloc (.cells #[.int .i64 0, .int .i64 n, .int .i64 1, .slice (some ⟨w5.heap.size + 1, 0, none⟩) 1 1, .int .i64 0, .slice none 0 0, .string ⟨#[]⟩, .string ⟨#[]⟩, .int .i64 0, .int .i64 0, .int .i64 0] 58)).setCell ⟨w1.heap.size, 5, none⟩ (.slice (some ⟨w5.heap.size + 1 + 1, 0, none⟩) 1 1)).alloc (.cells #[.string name, .int .u64 (idB β), .bool hid, .bool false, .slice none 0 0, .slice (some ⟨w5.heap.size + 1 + 1, 0, none⟩) 1 1] 53)).drew bb sb β2 vt (.slice Ad β.g.disks.length cd) vv vn css := ((hb9.up ((Below.refl _ _).al _)).weak (S' := (fun k => (S k ∧ k < w1.heap.size) ∨ k = w5.heap.size + 1 ∨ k = w5.heap.size + 1 + 1)) (fun k h => .inl h) (fun k hk e => by
          have h1 := hmlt k e
          rcases hk with hk | hk | hk
          · exact hb9.sd k hk e
          · omega
          · omega)).up (Below.refl _ _).drew
        have hsgb : Blk (((((w5.alloc (.cells #[.bool a.vol, .string a.on, .int .i64 a.start] 60)).alloc (.cells #[.bool a.vol, .string a.on, .int .i64 a.start] 60)).alloc (.cells #[.int .i64 0, .int .i64 n, .int .i64 1, .slice (some ⟨w5.heap.size + 1, 0, none⟩) 1 1, .int .i64 0, .slice none 0 0, .string ⟨#[]⟩, .string ⟨#[]⟩, .int .i64 0, .int .i64 0, .int .i64 0] 58)).setCell ⟨w1.heap.size, 5, none⟩ (.slice (some ⟨w5.heap.size + 1 + 1, 0, none⟩) 1 1)).alloc (.cells #[.string name, .int .u64 (idB β), .bool hid, .bool false, .slice none 0 0, .slice (some ⟨w5.heap.size + 1 + 1, 0, none⟩) 1 1] 53)).drew (w5.heap.size + 1 + 1) 58 #[.int .i64 0, .int .i64 n, .int .i64 1, .slice (some ⟨w5.heap.size + 1, 0, none⟩) 1 1, .int .i64 0, .slice none 0 0, .string ⟨#[]⟩, .string ⟨#[]⟩, .int .i64 0, .int .i64 0, .int .i64 0] := by
          have h1 := Blk.new ((w5.alloc (.cells #[.bool a.vol, .string a.on, .int .i64 a.start] 60)).alloc (.cells #[.bool a.vol, .string a.on, .int .i64 a.start] 60)) 58 #[.int .i64 0, .int .i64 n, .int .i64 1, .slice (some ⟨w5.heap.size + 1, 0, none⟩) 1 1, .int .i64 0, .slice none 0 0, .string ⟨#[]⟩, .string ⟨#[]⟩, .int .i64 0, .int .i64 0, .int .i64 0]
          rw [show ((w5.alloc (.cells #[.bool a.vol, .string a.on, .int .i64 a.start] 60)).alloc (.cells #[.bool a.vol, .string a.on, .int .i64 a.start] 60)).heap.size = w5.heap.size + 1 + 1 by simp] at h1
          exact ((h1.only ho9 (by omega)).alloc _).drewN 1
        have harb : Blk (((((w5.alloc (.cells #[.bool a.vol, .string a.on, .int .i64 a.start] 60)).alloc (.cells #[.bool a.vol, .string a.on, .int .i64 a.start] 60)).alloc (.cells #[.int .i64 0, .int .i64 n, .int .i64 1, .slice (some ⟨w5.heap.size + 1, 0, none⟩) 1 1, .int .i64 0, .slice none 0 0, .string ⟨#[]⟩, .string ⟨#[]⟩, .int .i64 0, .int .i64 0, .int .i64 0] 58)).setCell ⟨w1.heap.size, 5, none⟩ (.slice (some ⟨w5.heap.size + 1 + 1, 0, none⟩) 1 1)).alloc (.cells #[.string name, .int .u64 (idB β), .bool hid, .bool false, .slice none 0 0, .slice (some ⟨w5.heap.size + 1 + 1, 0, none⟩) 1 1] 53)).drew (w5.heap.size + 1) 60 #[.bool a.vol, .string a.on, .int .i64 a.start] := by
          have h1 := Blk.new (w5.alloc (.cells #[.bool a.vol, .string a.on, .int .i64 a.start] 60)) 60 #[.bool a.vol, .string a.on, .int .i64 a.start]
          rw [show (w5.alloc (.cells #[.bool a.vol, .string a.on, .int .i64 a.start] 60)).heap.size = w5.heap.size + 1 by simp] at h1
          exact (((h1.alloc (.cells #[.int .i64 0, .int .i64 n, .int .i64 1, .slice (some ⟨w5.heap.size + 1, 0, none⟩) 1 1, .int .i64 0, .slice none 0 0, .string ⟨#[]⟩, .string ⟨#[]⟩, .int .i64 0, .int .i64 0, .int .i64 0] 58)).only ho9 (by omega)).alloc _).drewN 1
        have hvo : voW (((((w5.alloc (.cells #[.bool a.vol, .string a.on, .int .i64 a.start] 60)).alloc (.cells #[.bool a.vol, .string a.on, .int .i64 a.start] 60)).alloc (.cells #[.int .i64 0, .int .i64 n, .int .i64 1, .slice (some ⟨w5.heap.size + 1, 0, none⟩) 1 1, .int .i64 0, .slice none 0 0, .string ⟨#[]⟩, .string ⟨#[]⟩, .int .i64 0, .int .i64 0, .int .i64 0] 58)).setCell ⟨w1.heap.size, 5, none⟩ (.slice (some ⟨w5.heap.size + 1 + 1, 0, none⟩) 1 1)).alloc (.cells #[.string name, .int .u64 (idB β), .bool hid, .bool false, .slice none 0 0, .slice (some ⟨w5.heap.size + 1 + 1, 0, none⟩) 1 1] 53)).drew (fun k => (S k ∧ k < w1.heap.size) ∨ k = w5.heap.size + 1 ∨ k = w5.heap.size + 1 + 1) (#[.string name, .int .u64 (idB β), .bool hid, .bool false, .slice none 0 0, .slice (some ⟨w5.heap.size + 1 + 1, 0, none⟩) 1 1] : Array Value).toList (linVo name (idB β) hid n a) := ⟨.slice none 0 0, .slice (some ⟨w5.heap.size + 1 + 1, 0, none⟩) 1 1, rfl, LR.nil,
          LR.one hsgb.lt (.inr (.inr rfl)) ⟨_, _, ⟨by rw [hsgb.cell]; rfl, by rw [hsgb.cell]; rfl, by rw [hsgb.cell]; rfl, by rw [hsgb.cell]; rfl, by rw [hsgb.cell]; rfl, by rw [hsgb.cell]; rfl, by rw [hsgb.cell]; rfl, by rw [hsgb.cell]; rfl, by rw [hsgb.cell]; rfl, by rw [hsgb.cell]; rfl, by rw [hsgb.cell]; rfl⟩,
            LR.one harb.lt (.inr (.inl rfl)) ⟨by rw [harb.cell]; rfl, by rw [harb.cell]; rfl, by rw [harb.cell]; rfl⟩, LR.nil⟩⟩
        have HB10 := Lib.hid hb10
        have HVO := Lib.hid hvo
        have HRN := Lib.hid (show Reads (((((w5.alloc (.cells #[.bool a.vol, .string a.on, .int .i64 a.start] 60)).alloc (.cells #[.bool a.vol, .string a.on, .int .i64 a.start] 60)).alloc (.cells #[.int .i64 0, .int .i64 n, .int .i64 1, .slice (some ⟨w5.heap.size + 1, 0, none⟩) 1 1, .int .i64 0, .slice none 0 0, .string ⟨#[]⟩, .string ⟨#[]⟩, .int .i64 0, .int .i64 0, .int .i64 0] 58)).setCell ⟨w1.heap.size, 5, none⟩ (.slice (some ⟨w5.heap.size + 1 + 1, 0, none⟩) 1 1)).alloc (.cells #[.string name, .int .u64 (idB β), .bool hid, .bool false, .slice none 0 0, .slice (some ⟨w5.heap.size + 1 + 1, 0, none⟩) 1 1] 53)).drew (((((w5.alloc (.cells #[.bool a.vol, .string a.on, .int .i64 a.start] 60)).alloc (.cells #[.bool a.vol, .string a.on, .int .i64 a.start] 60)).alloc (.cells #[.int .i64 0, .int .i64 n, .int .i64 1, .slice (some ⟨w5.heap.size + 1, 0, none⟩) 1 1, .int .i64 0, .slice none 0 0, .string ⟨#[]⟩, .string ⟨#[]⟩, .int .i64 0, .int .i64 0, .int .i64 0] 58)).setCell ⟨w1.heap.size, 5, none⟩ (.slice (some ⟨w5.heap.size + 1 + 1, 0, none⟩) 1 1)).alloc (.cells #[.string name, .int .u64 (idB β), .bool hid, .bool false, .slice none 0 0, .slice (some ⟨w5.heap.size + 1 + 1, 0, none⟩) 1 1] 53)).drew.heap.size 6 (some ⟨w5.heap.size + 1 + 1 + 1, 0, none⟩) 1 (#[.string name, .int .u64 (idB β), .bool hid, .bool false, .slice none 0 0, .slice (some ⟨w5.heap.size + 1 + 1, 0, none⟩) 1 1] : Array Value).toList from by rw [← hs9]; exact reads_newM rfl)
        have HNX9 := Lib.hid (show Nx S (Mt bb sb vv vn) w (fun k => (S k ∧ k < w1.heap.size) ∨ k = w5.heap.size + 1 ∨ k = w5.heap.size + 1 + 1) (Mt bb sb vv vn) (((((w5.alloc (.cells #[.bool a.vol, .string a.on, .int .i64 a.start] 60)).alloc (.cells #[.bool a.vol, .string a.on, .int .i64 a.start] 60)).alloc (.cells #[.int .i64 0, .int .i64 n, .int .i64 1, .slice (some ⟨w5.heap.size + 1, 0, none⟩) 1 1, .int .i64 0, .slice none 0 0, .string ⟨#[]⟩, .string ⟨#[]⟩, .int .i64 0, .int .i64 0, .int .i64 0] 58)).setCell ⟨w1.heap.size, 5, none⟩ (.slice (some ⟨w5.heap.size + 1 + 1, 0, none⟩) 1 1)).alloc (.cells #[.string name, .int .u64 (idB β), .bool hid, .bool false, .slice none 0 0, .slice (some ⟨w5.heap.size + 1 + 1, 0, none⟩) 1 1] 53)).drew from by
          have h1 : Nx S (Mt bb sb vv vn) w (fun k => S k ∧ k < w1.heap.size) (Mt bb sb vv vn) (((w5.alloc (.cells #[.bool a.vol, .string a.on, .int .i64 a.start] 60)).alloc (.cells #[.bool a.vol, .string a.on, .int .i64 a.start] 60)).alloc (.cells #[.int .i64 0, .int .i64 n, .int .i64 1, .slice (some ⟨w5.heap.size + 1, 0, none⟩) 1 1, .int .i64 0, .slice none 0 0, .string ⟨#[]⟩, .string ⟨#[]⟩, .int .i64 0, .int .i64 0, .int .i64 0] 58)) := (HNX.out.trans (Nx.same HO5.out)).below ((((Below.refl _ _).al _).al _).al _)
          exact ⟨(h1.only.trans_ ho9 (fun k hk e => by have := HW01.out; omega)).next (((Below.refl _ _).al _).drew), fun k hk hs => hs.elim (fun h => h.1) (fun h => by have := HW01.out; omega), fun k _ e => e⟩)
        obtain ⟨c0, c1, c2, c3, c4, c5, c6, c7, c8, c9, c10⟩ := hb9.cells
        obtain ⟨e0, e1, e2, e3, e4, e5, e6, e7, e8, e9, e10⟩ := (hb9.up ((Below.refl _ _).al (.cells #[.string name, .int .u64 (idB β), .bool hid, .bool false, .slice none 0 0, .slice (some ⟨w5.heap.size + 1 + 1, 0, none⟩) 1 1] 53))).cells
        obtain ⟨n0, n1, n2, n3, n4, n5⟩ := sixM (show Blk ((((w5.alloc (.cells #[.bool a.vol, .string a.on, .int .i64 a.start] 60)).alloc (.cells #[.bool a.vol, .string a.on, .int .i64 a.start] 60)).alloc (.cells #[.int .i64 0, .int .i64 n, .int .i64 1, .slice (some ⟨w5.heap.size + 1, 0, none⟩) 1 1, .int .i64 0, .slice none 0 0, .string ⟨#[]⟩, .string ⟨#[]⟩, .int .i64 0, .int .i64 0, .int .i64 0] 58)).setCell ⟨w1.heap.size, 5, none⟩ (.slice (some ⟨w5.heap.size + 1 + 1, 0, none⟩) 1 1)) w1.heap.size 53 #[.string name, .int .u64 (idB β), .bool hid, .bool false, .slice none 0 0, .slice (some ⟨w5.heap.size + 1 + 1, 0, none⟩) 1 1] from (((HV5.out.alloc (.cells #[.bool a.vol, .string a.on, .int .i64 a.start] 60)).alloc (.cells #[.bool a.vol, .string a.on, .int .i64 a.start] 60)).alloc (.cells #[.int .i64 0, .int .i64 n, .int .i64 1, .slice (some ⟨w5.heap.size + 1, 0, none⟩) 1 1, .int .i64 0, .slice none 0 0, .string ⟨#[]⟩, .string ⟨#[]⟩, .int .i64 0, .int .i64 0, .int .i64 0] 58)).set_ 5 _)
        obtain ⟨i0, hi0, hz0, hz1, hz2⟩ := info_parts infoV
        have HBS := Lib.hid hb10.base
        clear hbu5 ho5 hr hv5 hvs hb9 hb10 hsgb harb hvo hg2
        unfold arA
        go_wp2_with fail
        go_region_law (first
          | (refine step_append_any (o := ⟨some 64, _, _, _, _, _⟩) _ rfl (.tmp 61) (.tmp 63) 28 rfl B 53 i0 _ 6 80 Tryd.underlying28 hi0 hz0 hz1 hz2 rfl (by decide) vv β2.g.vols.length css.flatten (by simp [Act.eval, Act.put]) HB10.out.vs.own _ (some ⟨w5.heap.size + 1 + 1 + 1, 0, none⟩) 1 1 (#[.string name, .int .u64 (idB β), .bool hid, .bool false, .slice none 0 0, .slice (some ⟨w5.heap.size + 1 + 1, 0, none⟩) 1 1] : Array Value).toList (by simp [Act.eval, Act.put]) HRN.out (by intro u hu; simp at hu; rcases hu with rfl | rfl | rfl | rfl | rfl | rfl <;> rfl) (by unfold maxLen; omega) (by omega) HBS.out ?_; intro v8 w8 ho8 hg8 hd8; have HP8 := Lib.hid (HB10.out.push HVO.out ho8 hg8 hd8); have hb8 := HB10.out.blk.only ((Only.refl (fun k => vv.ownBlock = some k) _).grown hg8 (fun k e => .inl e)) HB10.out.d2.1; obtain ⟨A8, d8, e8⟩ := own_formGM ho8; subst e8; have t8 : w8.cell? ⟨bb, 8, none⟩ = some vv := by rw [hb8.cell]; rfl
             have g8 := hb8.frozen 8; clear ho8 hg8 hd8 hb8; skip))
        all_goals
          go_wp2_with fail
          go_ret
          exact ⟨true, _, .slice A8 (β2.g.vols.length + 1) d8, _, _, .inr ⟨rfl, dd, a, β2, HR.out, rfl⟩, rfl, HP8.out.1, HNX9.out.trans HP8.out.2, fun _ => ⟨_, rfl⟩⟩
    · obtain rfl : k = β.g.disks.length := by omega
      go_wp2_with fail
      go_ret
      exact ⟨false, nextB β, vv, css, _, .inl ⟨rfl, rfl⟩, rfl, HBU.out, HNX.out, fun h => by cases h⟩
theorem linear_any {B : Nat} {S : Nat → Prop} {w : World} {bb sb : Nat} {β : Be} {vt vd vv vn : Value} {css : List (List Value)} (h : BU B S w bb sb β vt vd vv vn css) (hnx : 0 ≤ β.g.next ∧ β.g.next ≤ 1000000) (hvl : β.g.vols.length ≤ 1000) (name : ByteArray) (hid : Bool) {disk : Int} (hd : 0 ≤ disk ∧ disk ≤ 1000) {n : Int} (hn : 0 ≤ n ∧ n ≤ 1000) :
    Calls Tryd.prog 28 #[.pointer (some ⟨bb, 0, none⟩), .string name, .bool hid, .int .i64 disk, .int .i64 n] w (fun e w' => ∃ ok β' vv' css' S', LinR β name hid n ok β' ∧ e = .returned (.bool ok) ∧ BU B S' w' bb sb β' vt vd vv' vn css' ∧ Nx S (Mt bb sb vv vn) w S' (Mt bb sb vv' vn) w') :=
  (linear2_any h hnx hvl name hid hd hn).mono fun _ _ ⟨ok, β', vv', css', S', h1, h2, h3, h4, _⟩ => ⟨ok, β', vv', css', S', h1, h2, h3, h4⟩
end Go.Proofs.YtdkcfgahdcpkkaaDoor
namespace Go.Proofs.YtdkcfgahdcpkkaaDoor
open Go.RowKit
set_option maxRecDepth 100000
def tagL : List ByteArray := [⟨#[99, 111, 108, 100]⟩, ⟨#[102, 97, 115, 116]⟩, ⟨#[115, 105, 116, 101, 61, 49]⟩, ⟨#[115, 105, 116, 101, 61, 50]⟩]
theorem sub_skip {α : Type} {a l : List α} {k : Nat} (h : a.Sublist (l.take k)) : a.Sublist (l.take (k + 1)) := h.trans (List.take_sublist_take_left (Nat.le_succ k))
theorem sub_add {α : Type} {a l : List α} {k : Nat} {x : α} (h : a.Sublist (l.take k)) (hx : l[k]? = some x) : (a ++ [x]).Sublist (l.take (k + 1)) := by
  obtain ⟨h1, e1⟩ := List.getElem?_eq_some_iff.1 hx
  rw [List.take_succ_eq_append_getElem h1, e1]
  exact h.append (List.Sublist.refl _)
/-- how tags ends -/
def TagsRet (B sb : Nat) (w : World) (e : Ending) (w' : World) : Prop := ∃ A c l, l.Sublist tagL ∧ e = .returned (.slice A l.length c) ∧ TL w' (fun k => w.heap.size ≤ k) (.slice A l.length c) l ∧ SrcOk B w' sb ∧ Only (· = sb) w w'
set_option maxHeartbeats 8000000 in
theorem tags_src {B sb : Nat} {w : World} (h : SrcOk B w sb) : Calls Tryd.prog 27 #[.pointer (some ⟨sb, 0, none⟩)] w (TagsRet B sb w) := by
  obtain ⟨i0, hi0, hz0, hz1, hz2⟩ := info_parts infoT
  have H := Lib.hid h
  have hlt := h.lt
  clear h
  go_enter Tryd.func27, Tryd.ntmps27
  go_wp2_with fail
  go_loopw [3, 5] (fun v i wx => ∃ (k : Nat) (l : List ByteArray) (css : List (List Value)), k ≤ 4 ∧ i = .int .i64 (k : Int) ∧ l.Sublist (tagL.take k) ∧ OLc txW wx (w.heap.size + 1) 9 1 v l css ∧ Blk wx w.heap.size 9 #[.string ⟨#[99, 111, 108, 100]⟩, .string ⟨#[102, 97, 115, 116]⟩, .string ⟨#[115, 105, 116, 101, 61, 49]⟩, .string ⟨#[115, 105, 116, 101, 61, 50]⟩] ∧ SrcOk B wx sb ∧ Only (· = sb) w wx) (fun _ i _ => 4 - (intOf i).toNat)
  case atStart => exact ⟨0, [], [], Nat.zero_le _, rfl, List.Sublist.refl _, OLc.nil, Blk.new w _ _, H.out.below ((Below.refl _ _).al _), (Only.refl _ _).alloc _⟩
  case round =>
    obtain ⟨k, l, css, hk, rfl, hsub, hrow, htb, hok, ho⟩ := hrel
    obtain ⟨v, hv⟩ : ∃ v, v = u3 := ⟨_, rfl⟩
    subst hv
    have HSUB := Lib.hid hsub
    have HROW := Lib.hid hrow
    have HTB := Lib.hid htb
    have HO := Lib.hid ho
    have hll : l.length ≤ 4 := by have h1 := hsub.length_le; rw [List.length_take] at h1; omega
    clear hsub hrow htb ho
    by_cases hlt4 : k < 4
    · have z0 : (k : Int) < 4 := by omega
      have z1 : (0 : Int) ≤ (k : Int) := by omega
      have HN := Lib.hid (srcN_any B sb 4 wr hok (by decide) (by decide))
      clear hok
      go_wp2_with fail
      refine HN.out.mono ?_
      rintro e w1 ⟨x, hx, rfl, hok1, ho1⟩
      have HOK1 := Lib.hid hok1
      have HO1 := Lib.hid (HO.out.trans ho1)
      have HROW1 := Lib.hid (HROW.out.only txL ho1 (fun q e => by subst e; omega))
      have HTB1 := Lib.hid (HTB.out.only ho1 (by omega))
      have hsz := HO1.out.size
      obtain ⟨y, hy⟩ : ∃ y, tagL[k]? = some y := ⟨_, List.getElem?_eq_getElem hlt4⟩
      have hc : w1.cell? ((⟨w.heap.size, 0, none⟩ : Addr).add k) = some (.string y) := by
        rw [add0, HTB1.out.cell]
        rcases (show k = 0 ∨ k = 1 ∨ k = 2 ∨ k = 3 by omega) with rfl | rfl | rfl | rfl <;> (simp [tagL] at hy; subst hy; rfl)
      have hc' : w1.cell? ⟨w.heap.size, k, none⟩ = some (.string y) := by rw [← add0]; exact hc
      have HSA := Lib.hid (sub_add HSUB.out hy)
      have hw1 : w.heap.size < w1.heap.size := HTB1.out.lt
      clear hok1 ho1 hy
      by_cases hx0 : x = 0
      · have q : (x == 0) = true := by rw [hx0]; rfl
        have HA := Lib.hid (HROW1.out.up txL ((Below.refl _ _).al (.cells #[.string y] 9)))
        have HBA := Lib.hid (show Only (· = sb) w (w1.alloc (.cells #[.string y] 9)) from HO1.out.alloc _)
        clear hx0
        go_wp2_with (at_builtin; refine wpList_append_any _ rfl _ _ 26 rfl (w.heap.size + 1) 9 i0 _ 1 16 Tryd.underlying26 hi0 hz0 hz1 hz2 rfl (by decide) v l.length css.flatten rfl HA.out.own _ (some ⟨w1.heap.size, 0, none⟩) 1 1 [.string y] rfl (reads_newM rfl) (by intro u hu; simp at hu; subst hu; rfl) (by unfold maxLen; omega) (by omega) (by simp; omega) ?_; intro v8 w8 ho8 hg8 hd8; have HP8 := Lib.hid (HA.out.push txL ho8 hg8 hd8 (show txW _ _ [.string y] y from rfl)); have HG8 := Lib.hid (show Only (fun q => v.ownBlock = some q) (w1.alloc (.cells #[.string y] 9)) w8 from (Only.refl (fun q => v.ownBlock = some q) _).grown hg8 (fun q e => .inl e)); have HO8 := Lib.hid (HBA.out.trans_ HG8.out (fun q hq e => by have h1 := (World.ownsRow.lt HA.out.own q e).1; omega)); obtain ⟨A8, d8, e8⟩ := own_formGM ho8; subst e8; clear ho8 hg8 hd8; skip)
        go_roundw
        case rel => exact ⟨k + 1, _, _, by omega, by go_num, HSA.out, HP8.out, (HTB1.out.alloc _).only HG8.out (fun e => by have h1 := (World.ownsRow.lt HA.out.own _ e).1; omega), (HOK1.out.below ((Below.refl _ _).al _)).only HG8.out (fun e => by have h1 := (World.ownsRow.lt HA.out.own _ e).1; omega) (fun q e => by have h1 := (World.ownsRow.lt HA.out.own _ e).1; omega), HO8.out⟩
        case measure => simp [intOf]; omega
      · have q : (x == 0) = false := beq_eq_false_iff_ne.2 hx0
        clear hx0
        go_wp2_with fail
        go_roundw
        case rel => exact ⟨k + 1, l, css, by omega, by go_num, sub_skip HSUB.out, HROW1.out, HTB1.out, HOK1.out, HO1.out⟩
        case measure => simp [intOf]; omega
    · obtain rfl : k = 4 := by omega
      have HOK := Lib.hid hok
      obtain ⟨A, c, rfl, _⟩ := HROW.out.form
      clear hok
      go_wp2_with fail
      go_ret
      exact ⟨A, c, l, HSUB.out, rfl, TL.keep (HROW.out.lr txL (by decide)) Kept.same (fun g hg => by omega), HOK.out, HO.out⟩
end Go.Proofs.YtdkcfgahdcpkkaaDoor
namespace Go.Proofs.YtdkcfgahdcpkkaaDoor
open Go.RowKit
set_option maxRecDepth 100000
theorem reads_at {w : World} {g : Nat} {T : TypeId} {cs : Array Value} {n : Nat} (h : Blk w g T cs) (hn : cs.size = n) : Reads w w.heap.size n (some ⟨g, 0, none⟩) 1 cs.toList := by
  refine ⟨by simp [hn], fun _ => ⟨_, rfl, h.lt, fun j u hu => ?_⟩⟩
  rw [add_zero, h.cell]
  simpa using hu
/-- a fresh block lies as it lay -/
theorem fresh_keep {M : Nat → Prop} {w0 w w' : World} {g : Nat} {T : TypeId} {cs : Array Value} (h : Blk w g T cs) (hg : w0.heap.size ≤ g) (ho : Only M w w') (hM : ∀ k, M k → k < w0.heap.size) : Blk w' g T cs :=
  h.only ho (fun e => by have := hM g e; omega)
/-- states of the region: 0 the volumes are read, 1 the identity, 2 the row of the segment, 3 the volume, 4 its row -/
structure SpF (B : Nat) (S : Nat → Prop) (wr : World) (bb sb : Nat) (β : Be) (vt vd vv vn : Value) (css : List (List Value)) (name : ByteArray) (SC : Array Value) (d : Nat → Bool) (x : Nat → Value) (w : World) : Prop where
  bu : BU B S w bb sb (if d 1 then nextB β else β) vt vd vv vn css
  on : Only (Mt bb sb vv vn) wr w
  mt : ∀ k, Mt bb sb vv vn k → k < wr.heap.size
  f0 : d 0 = true → x 0 = vv
  f1 : d 1 = true → x 1 = .int .u64 (idB β)
  f2 : d 2 = true → ∃ g, x 2 = .slice (some ⟨g, 0, none⟩) 1 1 ∧ wr.heap.size ≤ g ∧ Blk w g 58 SC
  f3 : d 3 = true → x 3 = .agg #[.string name, x 1, .bool false, .bool false, .slice none 0 0, x 2]
  f4 : d 4 = true → ∃ g, x 4 = .slice (some ⟨g, 0, none⟩) 1 1 ∧ wr.heap.size ≤ g ∧ Blk w g 53 #[.string name, x 1, .bool false, .bool false, .slice none 0 0, x 2]
section
variable {B : Nat} {S : Nat → Prop} {wr w w' : World} {bb sb : Nat} {β : Be} {vt vd vv vn : Value} {css : List (List Value)} {name : ByteArray} {SC : Array Value} {d : Nat → Bool} {x : Nat → Value}
theorem SpF.start (h : BU B S wr bb sb β vt vd vv vn css) (x : Nat → Value) : SpF B S wr bb sb β vt vd vv vn css name SC none_ x wr.drew :=
  ⟨h.up (Below.refl _ _).drew, (Only.refl _ _).drew, fun k hk => (h.mlt hk).2, (fun h => by cases h), (fun h => by cases h), (fun h => by cases h), (fun h => by cases h), (fun h => by cases h)⟩
theorem SpF.s0 (h : SpF B S wr bb sb β vt vd vv vn css name SC d x w) : SpF B S wr bb sb β vt vd vv vn css name SC (upd d 0 true) (upd x 0 vv) w :=
  ⟨h.bu, h.on, h.mt, fun _ => rfl, h.f1, h.f2, h.f3, h.f4⟩
theorem SpF.s1 (h : SpF B S wr bb sb β vt vd vv vn css name SC d x w) (h3 : d 3 = false) (h4 : d 4 = false) (hb : BU B S w' bb sb (nextB β) vt vd vv vn css) (ho : Only (Mt bb sb vv vn) w w') : SpF B S wr bb sb β vt vd vv vn css name SC (upd d 1 true) (upd x 1 (.int .u64 (idB β))) w' :=
  ⟨hb, h.on.trans ho, h.mt, h.f0, fun _ => rfl, fun e => by
    obtain ⟨g, e, h1, h2⟩ := h.f2 e
    exact ⟨g, e, h1, fresh_keep h2 h1 ho h.mt⟩, fun e => absurd (h3.symm.trans e) (by decide), fun e => absurd (h4.symm.trans e) (by decide)⟩
theorem SpF.s2 (h : SpF B S wr bb sb β vt vd vv vn css name SC d x w) (h3 : d 3 = false) (h4 : d 4 = false) : SpF B S wr bb sb β vt vd vv vn css name SC (upd d 2 true) (upd x 2 (.slice (some ⟨w.heap.size, 0, none⟩) 1 1)) (w.alloc (.cells SC 58)) :=
  ⟨h.bu.up ((Below.refl _ _).al _), h.on.alloc _, h.mt, h.f0, h.f1, fun _ => ⟨_, rfl, h.on.size, Blk.new w _ _⟩, fun e => absurd (h3.symm.trans e) (by decide), fun e => absurd (h4.symm.trans e) (by decide)⟩
theorem SpF.s3 (h : SpF B S wr bb sb β vt vd vv vn css name SC d x w) (h4 : d 4 = false) : SpF B S wr bb sb β vt vd vv vn css name SC (upd d 3 true) (upd x 3 (.agg #[.string name, x 1, .bool false, .bool false, .slice none 0 0, x 2])) w :=
  ⟨h.bu, h.on, h.mt, h.f0, h.f1, h.f2, fun _ => rfl, fun e => absurd (h4.symm.trans e) (by decide)⟩
theorem SpF.s4 (h : SpF B S wr bb sb β vt vd vv vn css name SC d x w) : SpF B S wr bb sb β vt vd vv vn css name SC (upd d 4 true) (upd x 4 (.slice (some ⟨w.heap.size, 0, none⟩) 1 1)) (w.alloc (.cells #[.string name, x 1, .bool false, .bool false, .slice none 0 0, x 2] 53)) :=
  ⟨h.bu.up ((Below.refl _ _).al _), h.on.alloc _, h.mt, h.f0, h.f1, fun e => by
    obtain ⟨g, e, h1, h2⟩ := h.f2 e
    exact ⟨g, e, h1, h2.alloc _⟩, h.f3, fun _ => ⟨_, rfl, h.on.size, Blk.new w _ _⟩⟩
end
end Go.Proofs.YtdkcfgahdcpkkaaDoor
