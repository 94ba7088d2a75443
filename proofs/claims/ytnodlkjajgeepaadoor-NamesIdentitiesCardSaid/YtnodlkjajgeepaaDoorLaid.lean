/- The step from a walk to a law's row where the row lists the table of suffixes. -/
import Derived.Test.YtnodlkjajgeepaaDoorBuilt
import Derived.LaidMore
import Derived.Stop.Joined
namespace Go.Proofs.YtnodlkjajgeepaaDoor
open Go.ChangeShapes Go.WideShapes Go.ChangeAt Go.RowKit

def laidL : List (String × DataW Unit) := [("volumegroup/names.suffixes", Rows.laid_volumegroup_names_suffixes)]
theorem gSuf : Tryd.prog.globalNamed "volumegroup/names.suffixes" = some 0 := by kernel_rfl
theorem tSuf : (Tryd.prog.globals[0]?).map (·.type) = some 50 := by kernel_rfl

theorem door_met (os : Os) (args : Array Value) : laidMetH Tryd.prog laidL ((World.doorLaid Tryd.prog 400 os).forCall (fun _ _ => 0) ⟨#[], args, []⟩).memory :=
  laidMetH_of_parts3 (fuel := 8) (laidMet_of_run' 8 (by kernel_rfl) (by kernel_rfl)) (by kernel_rfl) (by kernel_rfl)

theorem bytes_of {s : ByteArray} {l : List UInt8} (h : s.data.toList = l) : s = ⟨l.toArray⟩ := by
  obtain ⟨⟨a⟩⟩ := s
  simp at h
  rw [h]

theorem at_one {l : Array Value} {k : Nat} {v : Value} (h : (l.toList.drop (k * 1)).take 1 = [v]) : l[k]? = some v := by
  have : ((l.toList.drop (k * 1)).take 1)[0]? = some v := by rw [h]; rfl
  rw [List.getElem?_take_of_lt (by omega), List.getElem?_drop] at this
  simpa using this

theorem suf_of_laid {W : World} (h : laidMetH Tryd.prog laidL W) : Suf W := by
  rw [MakeChecks.laidMetH_plain _ _ _ (by kernel_rfl)] at h
  obtain ⟨ps, ⟨g0, t0, cs0, f0, p0, q0, hg0, ht0, hv0, hd0, _⟩, _, _⟩ := h
  obtain rfl := Option.some.inj (gSuf.symm.trans hg0)
  obtain rfl := Option.some.inj (tSuf.symm.trans ht0)
  obtain ⟨xs, m1, rfl, hx1, hlen, hn, hel⟩ := DataW.trod_array Tryd.underlying50 hd0
  have c1 : Tryd.prog.cellsOf 9 = 1 := by kernel_rfl
  have h1 := hel 1 (by decide)
  have h2 := hel 2 (by decide)
  have h3 := hel 3 (by decide)
  have h4 := hel 4 (by decide)
  rw [c1] at h1 h2 h3 h4
  match xs, hn, hx1, h1, h2, h3, h4 with
  | [x0, x1, x2, x3, x4], _, hx1, h1, h2, h3, h4 =>
    obtain ⟨s1, e1, rfl, _⟩ := DataW.trod_string Tryd.underlying9 (show DataW.trod _ Tryd.prog W 0 _ false m1 9 _ = some x1 from h1)
    obtain ⟨s2, e2, rfl, _⟩ := DataW.trod_string Tryd.underlying9 (show DataW.trod _ Tryd.prog W 0 _ false m1 9 _ = some x2 from h2)
    obtain ⟨s3, e3, rfl, _⟩ := DataW.trod_string Tryd.underlying9 (show DataW.trod _ Tryd.prog W 0 _ false m1 9 _ = some x3 from h3)
    obtain ⟨s4, e4, rfl, _⟩ := DataW.trod_string Tryd.underlying9 (show DataW.trod _ Tryd.prog W 0 _ false m1 9 _ = some x4 from h4)
    simp only [Rows.laid_volumegroup_names_suffixes, Prod.mk.injEq, DataW.agg.injEq, List.map_cons, List.map_nil, List.cons.injEq, DataW.lit.injEq, Lit.string.injEq] at hx1
    obtain ⟨⟨_, q1, q2, q3, q4, _⟩, _⟩ := hx1
    exact ⟨(World.var?_cell hg0 hv0 1).trans (by rw [at_one e1, bytes_of q1.symm]; rfl), (World.var?_cell hg0 hv0 2).trans (by rw [at_one e2, bytes_of q2.symm]; rfl),
      (World.var?_cell hg0 hv0 3).trans (by rw [at_one e3, bytes_of q3.symm]; rfl), (World.var?_cell hg0 hv0 4).trans (by rw [at_one e4, bytes_of q4.symm]; rfl)⟩

/-- A LAW's ROW out of its walk, the table of suffixes laid. -/
theorem law_lifted_laid {f : FuncId} {fn : Func} {s : ChangeSpec} {os : Os} {H : Type} {enc : TypeId × Value → H} (started : os.Started) (noInit : Tryd.prog.inits.idxOf? f = none) (hfn : Tryd.prog.funcs[f]? = some fn)
    (witness : ∃ (w : World) (tape : Tape) (i : Input), w.os = os ∧ (w.forCall tape i).Shaped Tryd.checked.prog ∧ i.vars = [] ∧ Input.okWide Tryd.checked.prog (w.forCall tape i) .any w.heap.size f i ∧
      ((s.pre enc Tryd.checked.prog fn [] false (w.forCall tape i).memory i.args ∧ laidMetH Tryd.prog laidL (w.forCall tape i).memory) ∧ sizedMet enc Tryd.checked.prog fn (OpenSpec.ofChange s) false (w.forCall tape i).memory i.args) ∧ ({} : Assume).holds Tryd.checked.prog (lone (Frame.enter Tryd.checked.prog f i.args .normal) [] (w.forCall tape i)))
    (hvars : s.vars = []) (hres : fn.resultTypes = #[4]) (hread : (fn.params.toList.all fun t => Tryd.prog.readableRec t && decide (t < Tryd.prog.types.size)) = true)
    (hspec : ∀ ds : List (DataW H), ds.length = fn.params.size → s.fn H ds = { results := [.lit (.bool true)], args := ds })
    (walk : ∀ (W : World) (base : Nat) (args : Array Value) (ds : List (DataW H)) (p : List MemPlace),
      (∀ (j : Nat) t v, fn.params[j]? = some t → args[j]? = some v → Value.okWide Tryd.prog W .any base t v) →
      DataW.TrodAll enc Tryd.prog W 0 (fun _ => true) true fn.params.toList args.toList ds p → Suf W →
      Calls Tryd.prog f args W (Ret (.bool true) W)) :
    ReturnsInHanded {} Tryd.checked os f .any (fun w args => (s.pre enc Tryd.prog fn [] false w args ∧ laidMetH Tryd.prog laidL w) ∧ sizedMet enc Tryd.prog fn (OpenSpec.ofChange s) false w args) (s.post enc Tryd.prog fn false true false false) := by
  refine returnsInHanded_of_change_and (C := Tryd.checked) (X := fun w _ => laidMetH Tryd.prog laidL w) (fun _ _ _ hh h => h.of_heap hh) own started noInit hfn witness ?_
  intro W base args ds gs before hval hW _ _ hL _
  have hW' := hW
  obtain ⟨p, q, hA, hV, rfl, hfz, hnd⟩ := hW
  rw [hvars] at hV
  obtain ⟨rfl, rfl⟩ := trodVars_none hV
  have hlt : ∀ x ∈ p, x.block < W.heap.size := fun x hx => hW'.lt x (by simp [hx])
  refine (walk W base args ds p hval hA (suf_of_laid hL)).mono fun e W' ⟨he, bel⟩ => ?_
  subst he
  have hlen : ds.length = fn.params.size := by
    have : ∀ (ts : List TypeId) (vs : List Value) (ds : List (DataW H)) (ps : List MemPlace), DataW.TrodAll enc Tryd.prog W 0 (fun _ => true) true ts vs ds ps → ds.length = ts.length := by
      intro ts
      induction ts with
      | nil => intro vs ds ps h; obtain ⟨rfl, rfl, rfl⟩ := trodAll_nil h; rfl
      | cons t ts ih =>
        intro vs ds ps h
        obtain ⟨v, vs', d, ds', p, q, rfl, rfl, rfl, h0, h1⟩ := trodAll_cons h
        simp [ih _ _ _ h1]
    simpa using this _ _ _ _ hA
  refine ⟨_, rfl, ds, [], p ++ [], [], p, [], hW', ?_, ?_, ?_, bel.frame _, fun h => by cases h⟩
  · rw [List.append_nil, hspec ds hlen, hres]
    exact trodAll_mk1 (shut_bool Tryd.underlying4 _)
  · rw [List.append_nil, hspec ds hlen]
    exact below_trodAll laidOut bel _ _ _ _ hread hA hlt
  · rw [List.append_nil, hspec ds hlen, hvars]
    rfl
end Go.Proofs.YtnodlkjajgeepaaDoor
