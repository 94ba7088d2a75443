/- Parse's deferred closure. -/
import Derived.Test.YtfmdbmalmeimbaaDoorPSectW
import Derived.Defers
import Derived.Recover
import Derived.Laws.Pointers
namespace Go.Proofs.YtfmdbmalmeimbaaDoor
open Go.RowKit
set_option maxRecDepth 100000

theorem Blk.off_ {w : World} {g : Nat} {t : TypeId} {cs : Array Value} (h : Blk w g t cs) (p : Addr) (u : Value) (hne : g ≠ p.block) : Blk (w.setCell p u) g t cs :=
  h.only ((Only.refl (· = p.block) w).setCell (.inl rfl) u) hne
theorem as_fail (v : Value) (w : World) : (Instr.typeAssert (.iface 74 v) 20 74 true).run Tryd.prog w = .ok (.tuple #[v, .bool true]) w := by kernel_rfl
theorem as_nil (w : World) : (Instr.typeAssert .nilIface 20 74 true).run Tryd.prog w = .ok (.tuple #[.agg #[.int .i64 0, .int .i64 0, .int .i64 0], .bool false]) w := by kernel_rfl

set_option maxHeartbeats 4000000 in
theorem catch_fail {r a e : Nat} (f : Fl) (v0 v1 v2 v3 : Value) (older : List PanicEntry) (w : World) (hr : Blk w r 30 #[v0]) (ha : Blk w a 37 #[v1, v2]) (he : Blk w e 27 #[v3]) :
    CallsD Tryd.prog 38 #[.pointer (some ⟨r, 0, none⟩), .pointer (some ⟨a, 0, none⟩), .pointer (some ⟨e, 0, none⟩)] (.panicking ({ v := flV f, recovered := false } :: older)) w fun en u' w' =>
      en = .returned (.tuple #[]) ∧ u' = .panicking ({ v := flV f, recovered := true } :: older) ∧ Blk w' r 30 #[.slice none 0 0] ∧ Blk w' a 37 #[.int .i64 (f.line : Int), .int .i64 (f.col : Int)] ∧ Blk w' e 27 #[.int .i64 f.er] ∧ Only (fun k => k = r ∨ k = a ∨ k = e) w w' := by
  have HR := Lib.hid hr
  have HA := Lib.hid ha
  have HE := Lib.hid he
  clear hr ha he
  refine callsD_of_wpS Tryd.func38 rfl fun c₀ cs hu => ?_
  apply wpS_seq
  apply wpS_region
  simp [wpOpsS, go_sem, recoverD, hu, Tryd.ntmps38, Exit.thenS, flV, as_fail]
  apply wpS_seq
  apply wpS_region
  simp [wpOpsS, go_sem, Exit.thenS]
  refine wpS_cond (t := true) (by simp [Act.eval, Array.replicate]) ?_
  simp only [if_true]
  refine wpS_of_wp ?_
  have r0 : w.cell? ⟨r, 0, none⟩ = some v0 := by rw [HR.out.cell]; rfl
  have a0 : w.cell? ⟨a, 0, none⟩ = some v1 := by rw [HA.out.cell]; rfl
  have a1 : w.cell? ⟨a, 1, none⟩ = some v2 := by rw [HA.out.cell]; rfl
  have e0 : w.cell? ⟨e, 0, none⟩ = some v3 := by rw [HE.out.cell]; rfl
  have rz := HR.out.frozen 0
  have az := HA.out.frozen 0
  have az1 := HA.out.frozen 1
  have ez := HE.out.frozen 0
  have hrl := HR.out.lt
  have hal := HA.out.lt
  have hel := HE.out.lt
  obtain ⟨z, hz⟩ : ∃ z : World, z = w.alloc (.cells #[.int .i64 (f.line : Int), .int .i64 (f.col : Int), .int .i64 f.er] 74) := ⟨_, rfl⟩
  simp [Array.replicate, List.replicate]
  have hB := Blk.new w 74 #[.int .i64 (f.line : Int), .int .i64 (f.col : Int), .int .i64 f.er]
  have hbl := (Below.refl w.heap.size w).al (.cells #[.int .i64 (f.line : Int), .int .i64 (f.col : Int), .int .i64 f.er] 74)
  have HR1 := Lib.hid (HR.out.below hbl HR.out.lt)
  have HA1 := Lib.hid (HA.out.below hbl HA.out.lt)
  have HE1 := Lib.hid (HE.out.below hbl HE.out.lt)
  have HB1 := Lib.hid hB
  have HL := Lib.hid hbl
  rw [← hz] at HR1 HA1 HE1 HB1 HL ⊢
  have hrz : r ≠ w.heap.size := by omega
  have haz : a ≠ w.heap.size := by omega
  have hez : e ≠ w.heap.size := by omega
  clear hB hbl hz r0 a0 a1 e0 rz az az1 ez HR HA HE
  have r0 : z.cell? ⟨r, 0, none⟩ = some v0 := by rw [HR1.out.cell]; rfl
  have a0 : z.cell? ⟨a, 0, none⟩ = some v1 := by rw [HA1.out.cell]; rfl
  have a1 : z.cell? ⟨a, 1, none⟩ = some v2 := by rw [HA1.out.cell]; rfl
  have e0 : z.cell? ⟨e, 0, none⟩ = some v3 := by rw [HE1.out.cell]; rfl
  have rz := HR1.out.frozen 0
  have az := HA1.out.frozen 0
  have az1 := HA1.out.frozen 1
  have ez := HE1.out.frozen 0
  have z0 : z.cell? ⟨w.heap.size, 0, none⟩ = some (.int .i64 (f.line : Int)) := by rw [HB1.out.cell]; rfl
  have z1 : z.cell? ⟨w.heap.size, 1, none⟩ = some (.int .i64 (f.col : Int)) := by rw [HB1.out.cell]; rfl
  have z2 : z.cell? ⟨w.heap.size, 2, none⟩ = some (.int .i64 f.er) := by rw [HB1.out.cell]; rfl
  have hra := HR1.out.ne_ HA1.out (by decide)
  have hre := HR1.out.ne_ HE1.out (by decide)
  have hae := HA1.out.ne_ HE1.out (by decide)
  go_region_held3 (fun w' => w'.cell? ⟨w.heap.size, 0, none⟩ = some (.int .i64 (f.line : Int)) ∧ w'.cell? ⟨w.heap.size, 1, none⟩ = some (.int .i64 (f.col : Int)) ∧ w'.cell? ⟨w.heap.size, 2, none⟩ = some (.int .i64 f.er))
    (first | exact ⟨z0, z1, z2⟩ | go_keep) (first | fail)
  all_goals
    simp [bodyPostS, results, Tryd.results38]
  have hO : Only (fun k => k = r ∨ k = a ∨ k = e) w z := Only.of_below _ HL.out
  refine ⟨?_, ?_, ?_, ?_⟩
  · exact ((((HR1.out.set_ 0 (.slice none 0 0)).off_ ⟨a, 0, none⟩ _ hra).off_ ⟨a, 1, none⟩ _ hra).off_ ⟨e, 0, none⟩ _ hre)
  · exact ((((HA1.out.off_ ⟨r, 0, none⟩ (.slice none 0 0) (Ne.symm hra)).set_ 0 (.int .i64 (f.line : Int))).set_ 1 (.int .i64 (f.col : Int))).off_ ⟨e, 0, none⟩ _ hae)
  · exact ((((HE1.out.off_ ⟨r, 0, none⟩ (.slice none 0 0) (Ne.symm hre)).off_ ⟨a, 0, none⟩ _ (Ne.symm hae)).off_ ⟨a, 1, none⟩ _ (Ne.symm hae)).set_ 0 (.int .i64 f.er))
  · exact ((((hO.setCell (p := ⟨r, 0, none⟩) (.inl (.inl rfl)) _).setCell (p := ⟨a, 0, none⟩) (.inl (.inr (.inl rfl))) _).setCell (p := ⟨a, 1, none⟩) (.inl (.inr (.inl rfl))) _).setCell (p := ⟨e, 0, none⟩) (.inl (.inr (.inr rfl))) _).drew

set_option maxHeartbeats 4000000 in
theorem catch_idle (r a e : Nat) (w : World) :
    CallsD Tryd.prog 38 #[.pointer (some ⟨r, 0, none⟩), .pointer (some ⟨a, 0, none⟩), .pointer (some ⟨e, 0, none⟩)] .returning w fun en u' w' =>
      en = .returned (.tuple #[]) ∧ u' = .returning ∧ Below w.heap.size w w' := by
  have HL := Lib.hid ((Below.refl w.heap.size w).al (.cells #[.int .i64 0, .int .i64 0, .int .i64 0] 74))
  refine callsD_of_wpS Tryd.func38 rfl fun c₀ cs hu => ?_
  apply wpS_seq
  apply wpS_region
  simp [wpOpsS, go_sem, recoverD, hu, Tryd.ntmps38, Exit.thenS, as_nil]
  apply wpS_seq
  apply wpS_region
  simp [wpOpsS, go_sem, Exit.thenS]
  refine wpS_cond (t := false) (by simp [Act.eval, Array.replicate]) ?_
  simp only [Bool.false_eq_true, if_false]
  refine wpS_of_wp (wp_skip ?_)
  cases c₀
  simp_all [bodyPostS, results, Tryd.results38]
  exact HL.out
end Go.Proofs.YtfmdbmalmeimbaaDoor
