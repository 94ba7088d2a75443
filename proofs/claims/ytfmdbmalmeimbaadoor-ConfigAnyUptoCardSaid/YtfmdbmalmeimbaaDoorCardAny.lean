/- ConfigAny returns true at every input of bulk at most 1048576 (the second form: where what it reads is no greater than that), and leaves its arguments alone. -/
import Derived.Test.YtfmdbmalmeimbaaDoorWalkAny
import Derived.Test.YtfmdbmalmeimbaaDoorTie
import Derived.Test.YtfmdbmalmeimbaaDoorCards
import Derived.SevenTiedAt
import Derived.Deep.DeepHandedRow
import Derived.Deep.DeepWitnessRowRef
namespace Go.Proofs.YtfmdbmalmeimbaaDoor
open Go.ChangeShapes Go.WideShapes Go.ChangeAt Go.RowKit
open Go.ChangeMaps (open_string shut_string)
set_option linter.unusedVariables false
set_option maxRecDepth 100000

theorem bulkAll_cons {H : Type} (d : DataW H) (l : List (DataW H)) : Rows.uptoBulkAll (d :: l) = Rows.uptoBulk d + Rows.uptoBulkAll l := by rw [Rows.uptoBulkAll]
theorem anyUpto_contract (H : Type) (enc : TypeId × Value → H) (W : World) (base : Nat) (args : Array Value) (ds gs : List (DataW H)) (before : List MemPlace)
    (hval : ∀ (j : Nat) t v, Tryd.f10.params[j]? = some t → args[j]? = some v → Value.okWide Tryd.prog W .any base t v)
    (hW : DataW.Whole enc Tryd.prog Tryd.f10.params.toList Rows.configAnySpec.vars false W args.toList ds gs before) (hL : laidMetH Tryd.prog laidL W) (hk : Rows.uptoSmall H (ds ++ gs) = true) :
    Calls Tryd.prog 10 args W fun e W' => ∃ v, e = .returned v ∧ Rows.configAnySpec.post enc Tryd.prog Tryd.f10 false true false false W args v W' := by
  have hW' := hW
  obtain ⟨p, q, hA0, hV, rfl, hfz, hnd⟩ := hW
  have hA : DataW.TrodAll enc Tryd.prog W 0 (fun _ => true) true Tryd.f10.params.toList args.toList ds p := hA0
  obtain ⟨rfl, rfl⟩ := trodVars_none hV
  have hlt : ∀ x ∈ p, x.block < W.heap.size := fun x hx => hW'.lt x (by simp [hx])
  rw [Tryd.params10] at hA hval
  obtain ⟨v0, vs0, d0, ds0, p0, q0, hargs, rfl, rfl, h0, r0⟩ := trodAll_cons hA
  obtain ⟨v1, vs1, d1, ds1, p1, q1, rfl, rfl, rfl, h1, r1⟩ := trodAll_cons r0
  obtain ⟨v2, vs2, d2, ds2, p2, q2, rfl, rfl, rfl, h2, r2⟩ := trodAll_cons r1
  obtain ⟨rfl, rfl, rfl⟩ := trodAll_nil r2
  obtain rfl : args = #[v0, v1, v2] := by cases args; simp_all
  have hb : Rows.uptoBulk d0 + (Rows.uptoBulk d1 + (Rows.uptoBulk d2 + 0)) ≤ 1048576 := by
    have h := of_decide_eq_true hk
    rw [List.append_nil] at h
    rw [bulkAll_cons, bulkAll_cons, bulkAll_cons, show Rows.uptoBulkAll ([] : List (DataW H)) = 0 by rw [Rows.uptoBulkAll]] at h
    exact h
  have hwalk : Calls Tryd.prog 10 #[v0, v1, v2] W (Ret (.bool true) W) := by
    obtain ⟨A0, n0, c0, rfl⟩ := okWide_slice Tryd.underlying30 (hval 0 30 v0 rfl rfl)
    obtain ⟨A1, n1, c1, rfl⟩ := okWide_slice Tryd.underlying30 (hval 1 30 v1 rfl rfl)
    obtain ⟨A2, n2, c2, rfl⟩ := okWide_slice Tryd.underlying33 (hval 2 33 v2 rfl rfl)
    obtain ⟨f0, h0⟩ := h0
    obtain ⟨f1, h1⟩ := h1
    obtain ⟨f2, h2⟩ := h2
    obtain ⟨B0, e0, l0, g0, -, hn0, hc0, hs0⟩ := open_nodes _ _ _ h0
    obtain ⟨B1, e1, l1, g1, -, hn1, hc1, hs1⟩ := open_nodes _ _ _ h1
    obtain ⟨B2, e2, l2, g2, -, hn2, hc2, -⟩ := open_texts h2
    simp [Value.cells] at g0 g1 g2
    obtain ⟨rfl, rfl, rfl⟩ := g0
    obtain ⟨rfl, rfl, rfl⟩ := g1
    obtain ⟨rfl, rfl, rfl⟩ := g2
    simp only at hc0 hc1 hc2
    exact any_walk W hn0 hn1 hn2 (by omega) (by omega) (hs0 _ (by simp only; omega)) (by omega) (tab_of_laid hL)
  refine hwalk.mono fun e W' ⟨he, bel⟩ => ?_
  subst he
  refine ⟨_, rfl, [d0, d1, d2], [], _, [], p0 ++ (p1 ++ (p2 ++ [])), [], hW', ?_, ?_, ?_, bel.frame _, fun h => by cases h⟩
  · exact trodAll_mk1 (shut_bool Tryd.underlying4 _)
  · exact below_trodAll laidOut bel _ _ _ _ (by kernel_rfl) hA0 hlt
  · rfl

set_option maxRecDepth 100000 in
theorem configAnyUpto_lifted (os : Os) (started : os.Started) (H : Type) (enc : TypeId × Value → H) (F : Stop.Interp) :
    ReturnsInHanded {} Tryd.checked os 10 .any ((Rows.OpenSpec.upto Rows.configAnySpec).preRow enc Tryd.prog Tryd.f10 Rows.configAnyUptoRow.domain false Rows.configAnyUptoRow.laid) (((Rows.OpenSpec.upto Rows.configAnySpec).at F).post enc Tryd.prog Tryd.f10 false true false false) := by
  refine returnsInHanded_of_row (C := Tryd.checked) (s := Rows.OpenSpec.upto Rows.configAnySpec) own started (by kernel_rfl) Tryd.func10
    (witness_row_atRef (enc := enc) (C := Tryd.checked) false (World.doorLaid Tryd.prog 400 os) #[.slice none 0 0, .slice none 0 0, .slice none 0 0] rfl (by kernel_rfl) (by kernel_rfl) (by kernel_rfl)
      (OpenSpec.preRow_of_cond (x := ([.nil, .nil, .nil], [], [])) 8 (by kernel_rfl) (by kernel_rfl) (fun k hk => by cases hk; kernel_rfl) (by kernel_rfl) (door_met os _))) ?_
  intro W base args ds gs before hval hW _ hcond _ hL _ _
  exact anyUpto_contract H enc W base args ds gs before hval hW hL (hcond _ rfl)

theorem configAnyUpto_over : Rows.ConfigAnyUptoSaid :=
  OpenClaim.holds_of_cond 10 Tryd.f10 rfl rfl rfl rfl rfl rfl rfl ⟨rfl, rfl, rfl, rfl, rfl⟩ rfl rfl rfl rfl rfl (by kernel_rfl) Tryd.func10 (by kernel_rfl)
    (of_decide_eq_true (by kernel_rfl)) (by unfold Func.isWrapper; first | (rw [if_pos (by decide +kernel)]; kernel_rfl) | (rw [if_neg (by decide +kernel)]; exact ⟨rfl, rfl⟩))
    (fun os started H enc _ F => by rw [OpenClaim.pre_eq_preRow]; exact configAnyUpto_lifted os started H enc F)

/-- THE STATEMENT: the card, its one listed variable tied to the program's text -/
theorem configAnyUpto_card : Rows.ConfigAnyUptoCardSaid :=
  Claim7.holds_tied_plain_at .later [] [.data, .data, .data] true (true, "25fd85897295e08d910c9456116f4c03c2c07dfb4890808e43f1086cbc83639d") true
    configAnyUpto_over (fun _ h => by cases h) (by kernel_rfl) (fun _ h => by cases h) configAnyUpto_row_tie rfl ⟨rfl, rfl⟩ (by kernel_rfl) rfl
    (fun f fn hf hfn => by
      obtain rfl : f = 10 := Option.some.inj ((show Tryd.prog.funcNamed "volumegroup/volumegrouplaw07.ConfigAny" = some 10 by kernel_rfl).symm.trans hf) |>.symm
      obtain rfl : fn = Tryd.f10 := (Option.some.inj (Tryd.func10.symm.trans hfn)).symm
      exact ⟨by kernel_rfl, fun j t ht => by
        rw [Tryd.params10] at ht
        rcases j with _ | _ | _ | j
        · obtain rfl : t = 30 := by simpa using ht.symm
          exact (show Tryd.prog.wantsStandIn 30 = false by kernel_rfl)
        · obtain rfl : t = 30 := by simpa using ht.symm
          exact (show Tryd.prog.wantsStandIn 30 = false by kernel_rfl)
        · obtain rfl : t = 33 := by simpa using ht.symm
          exact (show Tryd.prog.wantsStandIn 33 = false by kernel_rfl)
        · simp at ht⟩)
    (by kernel_rfl)
#print axioms configAnyUpto_card
end Go.Proofs.YtfmdbmalmeimbaaDoor
