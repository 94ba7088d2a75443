/- Merged: Agree, Awake, Laid, WalkRaw. -/
import Derived.Test.YtfmdbmalmeimbaaDoorMNodes
import Derived.Test.YtfmdbmalmeimbaaDoorMSame
import Derived.Test.YtfmdbmalmeimbaaDoorMPrint
import Derived.Lib.LaidTab
import Derived.Lib.ItoaNum
import Derived.Stop.LaidErr
import Derived.LaidMore
import Derived.Stop.Joined
/- agrees: the parser and the reference answer alike. -/
namespace Go.Proofs.YtfmdbmalmeimbaaDoor
open Go.RowKit
set_option maxRecDepth 100000

theorem listP_small {T : List Tk} : ∀ {f : Nat} {acc l : List ByteArray} {i n i' n' : Nat}, listP T f acc i n = .ok l i' n' → n' = n ∧ l.length ≤ acc.length + f := by
  intro f
  induction f with
  | zero => intro acc l i n i' n' h; unfold listP at h; cases h
  | succ f ih =>
    intro acc l i n i' n' h
    unfold listP at h
    split at h
    · split at h
      · injection h with h1 h2 h3
        subst h1 h3
        exact ⟨rfl, by rw [List.length_append, List.length_cons, List.length_nil]; omega⟩
      · split at h
        · have := ih h
          rw [List.length_append, List.length_cons, List.length_nil] at this
          exact ⟨this.1, by omega⟩
        · cases h
    · cases h
def smallN (t : Nd) : Prop := t.list.length ≤ 1000000 ∧ Small t.nodes
theorem nodeP_small {sect : Nat → Nat → Nat → PR (List Nd)} {T : List Tk} {name : ByteArray} {d i n i' n' : Nat} {t : Nd} (hT : T.length ≤ 1000000) (hn : n ≤ 1024)
    (hs : ∀ {d i n i' n' : Nat} {l : List Nd}, n ≤ 1024 → sect d i n = .ok l i' n' → n ≤ n' ∧ n' ≤ 1024 ∧ l.length + n ≤ n' ∧ ∀ t ∈ l, smallN t) (h : nodeP sect T name d i n = .ok t i' n') : n ≤ n' ∧ n' ≤ 1024 ∧ smallN t := by
  have nil : Small [] := Small.nil
  unfold nodeP at h
  split at h
  · split at h
    · cases h
    · split at h
      · cases h
      · rename_i l j m hr
        have h1 := hs hn hr
        split at h
        · injection h with h2 h3 h4
          subst h2 h4
          exact ⟨h1.1, h1.2.1, by show (0 : Nat) ≤ _; omega, .mk l (by omega) (fun t ht => (h1.2.2.2 t ht).1) (fun t ht => (h1.2.2.2 t ht).2)⟩
        · cases h
  · split at h
    · split at h
      · split at h
        · cases h
        · rename_i l j m hr
          injection h with h2 h3 h4
          subst h2 h4
          unfold listT at hr
          split at hr
          · injection hr with h5 _ h6
            subst h5 h6
            exact ⟨Nat.le_refl _, hn, by show (0 : Nat) ≤ _; omega, nil⟩
          · have h5 := listP_small hr
            rw [h5.1]
            refine ⟨Nat.le_refl _, hn, ?_, nil⟩
            have h6 := h5.2
            show l.length ≤ _
            rw [List.length_nil] at h6
            omega
      · split at h
        · injection h with h2 h3 h4
          subst h2 h4
          exact ⟨Nat.le_refl _, hn, by show (0 : Nat) ≤ _; omega, nil⟩
        · split at h
          · injection h with h2 h3 h4
            subst h2 h4
            exact ⟨Nat.le_refl _, hn, by show (0 : Nat) ≤ _; omega, nil⟩
          · cases h
    · cases h
theorem sectP_small {T : List Tk} (hT : T.length ≤ 1000000) : ∀ {f d : Nat} {acc l : List Nd} {i n i' n' : Nat}, n ≤ 1024 → sectP T f d acc i n = .ok l i' n' → (∀ t ∈ acc, smallN t) → n ≤ n' ∧ n' ≤ 1024 ∧ l.length + n ≤ acc.length + n' ∧ ∀ t ∈ l, smallN t := by
  intro f
  induction f with
  | zero => intro d acc l i n i' n' _ h; unfold sectP at h; cases h
  | succ f ih =>
    intro d acc l i n i' n' hn h ha
    unfold sectP at h
    split at h
    · split at h
      · cases h
      · split at h
        · cases h
        · split at h
          · cases h
          · rename_i hm
            split at h
            · cases h
            · rename_i x j m hr
              have h1 := nodeP_small hT (show n + 1 ≤ 1024 by omega) (fun {d i n i' n' l} hn hh => by have h2 := ih hn hh (by simp); simp at h2; exact h2) hr
              have h2 := ih h1.2.1 h (fun t ht => by
                rcases List.mem_append.1 ht with ht | ht
                · exact ha t ht
                · simp at ht; rw [ht]; exact h1.2.2)
              have h3 := h2.2.2.1
              rw [List.length_append, List.length_cons, List.length_nil] at h3
              exact ⟨by omega, h2.2.1, by omega, h2.2.2.2⟩
    · injection h with h1 h2 h3
      subst h1 h3
      exact ⟨Nat.le_refl _, hn, Nat.le_refl _, ha⟩
theorem parseR_small (b : List UInt8) : Small (parseR b).1 := by
  have hT := lexR_len b
  unfold parseR
  split
  · exact .nil
  · split
    · exact .nil
    · rename_i l i n hr
      have h := sectP_small hT (by omega) hr (by simp)
      split
      · exact .mk l (by have := h.2.2.1; simp at this; omega) (fun t ht => (h.2.2.2 t ht).1) (fun t ht => (h.2.2.2 t ht).2)
      · exact .nil
set_option maxHeartbeats 4000000 in
theorem agrees_any (s : ByteArray) (w : World) : Calls Tryd.prog 12 #[.string s] w (Ret (.bool true) w) := by
  have hS := parseR_small s.data.toList
  have hP := fun w => pparse_any s w
  have hQ := fun w => rparse_any s w
  generalize parseR s.data.toList = r at hS hP hQ
  obtain ⟨l, li, co, er⟩ := r
  have HS := Lib.hid hS
  have HP := Lib.hid hP
  have HQ := Lib.hid hQ
  clear hS hP hQ
  go_enter Tryd.func12, Tryd.ntmps12
  go_wp2_with fail
  refine (HP.out _).mono ?_
  rintro e w1 ⟨v1, rfl, h1, hb1⟩
  have H1 := Lib.hid h1
  obtain ⟨A1, c1, rfl, _⟩ := h1.form
  have HB1 := Lib.hid hb1
  clear h1 hb1
  simp only
  go_wp2_with fail
  refine (HQ.out _).mono ?_
  rintro e w2 ⟨v2, rfl, h2, hb2⟩
  have H2 := Lib.hid h2
  obtain ⟨A2, c2, rfl, _⟩ := h2.form
  have hbp : Blk w2 w1.heap.size 37 #[.int .i64 (li : Int), .int .i64 (co : Int)] := (Blk.new w1 37 #[.int .i64 (li : Int), .int .i64 (co : Int)]).below hb2 (Blk.new w1 37 #[.int .i64 (li : Int), .int .i64 (co : Int)]).lt
  have p0 : w2.cell? ⟨w1.heap.size, 0, none⟩ = some (.int .i64 (li : Int)) := by rw [hbp.cell]; rfl
  have p1 : w2.cell? ⟨w1.heap.size, 1, none⟩ = some (.int .i64 (co : Int)) := by rw [hbp.cell]; rfl
  have hlt := hbp.lt
  have H1' := Lib.hid ((H1.out.up ((Below.refl _ _).al (.cells #[.int .i64 (li : Int), .int .i64 (co : Int)] 37))).up hb2)
  have HB2 := Lib.hid ((HB1.out.al (.cells #[.int .i64 (li : Int), .int .i64 (co : Int)] 37)).next hb2)
  have HSM := Lib.hid (show ∀ W, Below w2.heap.size w2 W → Calls Tryd.prog 20 #[.slice A1 l.length c1, .slice A2 l.length c2] W (Ret (.bool true) W) from fun W hW => rsame_nodes _ l l (Nat.lt_succ_self _) (H1'.out.up hW) (H2.out.up hW) (by simp) HS.out HS.out)
  clear h2 hb2 hbp
  simp only
  go_wp2_with fail
  refine (HSM.out _ ((Below.refl _ _).al _)).mono ?_
  rintro e w3 ⟨rfl, hb3⟩
  have HB3 := Lib.hid ((HB2.out.al _).next hb3)
  clear hb3
  go_wp2_with fail
  go_ret
  exact ⟨rfl, HB3.out⟩
end Go.Proofs.YtfmdbmalmeimbaaDoor
/- awake. -/
namespace Go.Proofs.YtfmdbmalmeimbaaDoor
open Go.RowKit
set_option maxRecDepth 100000

def awB : List UInt8 := [97, 32, 61, 32, 49, 32, 98, 32, 123, 32, 99, 32, 61, 32, 91, 34, 120, 34, 93, 32, 125]
def awT : List Tk := [⟨1, ⟨#[97]⟩, 0, (posAt awB 0).1, (posAt awB 0).2⟩, ⟨4, ⟨#[61]⟩, 0, (posAt awB 2).1, (posAt awB 2).2⟩, ⟨2, ⟨#[]⟩, 1, (posAt awB 4).1, (posAt awB 4).2⟩, ⟨1, ⟨#[98]⟩, 0, (posAt awB 6).1, (posAt awB 6).2⟩, ⟨4, ⟨#[123]⟩, 0, (posAt awB 8).1, (posAt awB 8).2⟩, ⟨1, ⟨#[99]⟩, 0, (posAt awB 10).1, (posAt awB 10).2⟩, ⟨4, ⟨#[61]⟩, 0, (posAt awB 12).1, (posAt awB 12).2⟩, ⟨4, ⟨#[91]⟩, 0, (posAt awB 14).1, (posAt awB 14).2⟩, ⟨3, ⟨#[120]⟩, 0, (posAt awB 15).1, (posAt awB 15).2⟩, ⟨4, ⟨#[93]⟩, 0, (posAt awB 18).1, (posAt awB 18).2⟩, ⟨4, ⟨#[125]⟩, 0, (posAt awB 20).1, (posAt awB 20).2⟩, ⟨5, ⟨#[]⟩, 0, (posAt awB awB.length).1, (posAt awB awB.length).2⟩]
def awC : Nd := .mk ⟨#[99]⟩ 3 0 e0 [⟨#[120]⟩] []
def awL : List Nd := [.mk ⟨#[97]⟩ 1 1 e0 [] [], .mk ⟨#[98]⟩ 4 0 e0 [] [awC]]
theorem aw_lex : lexR awB = ⟨awT, 0, 0, 0⟩ := by
  unfold lexR
  rw [if_neg (by decide)]
  rw [lexW_tok (by decide) (show stepD (awB.drop 0) = .tok 1 [97] 0 1 by kernel_rfl) (by decide)]
  rw [lexW_skip (by decide) (show stepD (awB.drop 1) = .skip 1 by kernel_rfl) (by decide)]
  rw [lexW_tok (by decide) (show stepD (awB.drop 2) = .tok 4 [61] 0 1 by kernel_rfl) (by decide)]
  rw [lexW_skip (by decide) (show stepD (awB.drop 3) = .skip 1 by kernel_rfl) (by decide)]
  rw [lexW_tok (by decide) (show stepD (awB.drop 4) = .tok 2 [] 1 1 by kernel_rfl) (by decide)]
  rw [lexW_skip (by decide) (show stepD (awB.drop 5) = .skip 1 by kernel_rfl) (by decide)]
  rw [lexW_tok (by decide) (show stepD (awB.drop 6) = .tok 1 [98] 0 1 by kernel_rfl) (by decide)]
  rw [lexW_skip (by decide) (show stepD (awB.drop 7) = .skip 1 by kernel_rfl) (by decide)]
  rw [lexW_tok (by decide) (show stepD (awB.drop 8) = .tok 4 [123] 0 1 by kernel_rfl) (by decide)]
  rw [lexW_skip (by decide) (show stepD (awB.drop 9) = .skip 1 by kernel_rfl) (by decide)]
  rw [lexW_tok (by decide) (show stepD (awB.drop 10) = .tok 1 [99] 0 1 by kernel_rfl) (by decide)]
  rw [lexW_skip (by decide) (show stepD (awB.drop 11) = .skip 1 by kernel_rfl) (by decide)]
  rw [lexW_tok (by decide) (show stepD (awB.drop 12) = .tok 4 [61] 0 1 by kernel_rfl) (by decide)]
  rw [lexW_skip (by decide) (show stepD (awB.drop 13) = .skip 1 by kernel_rfl) (by decide)]
  rw [lexW_tok (by decide) (show stepD (awB.drop 14) = .tok 4 [91] 0 1 by kernel_rfl) (by decide)]
  rw [lexW_tok (by decide) (show stepD (awB.drop 15) = .tok 3 [120] 0 3 by kernel_rfl) (by decide)]
  rw [lexW_tok (by decide) (show stepD (awB.drop 18) = .tok 4 [93] 0 1 by kernel_rfl) (by decide)]
  rw [lexW_skip (by decide) (show stepD (awB.drop 19) = .skip 1 by kernel_rfl) (by decide)]
  rw [lexW_tok (by decide) (show stepD (awB.drop 20) = .tok 4 [125] 0 1 by kernel_rfl) (by decide)]
  rw [lexW_end (by decide)]
  rfl
theorem aw_sect : sectP awT (awT.length + 1) 0 [] 0 0 = .ok awL 11 3 := by kernel_rfl
theorem aw_parse : parseR awB = (awL, 0, 0, 0) := by
  rw [parseR_shut aw_lex, aw_sect]
  rfl
theorem one_name {c : UInt8} (_h1 : letterN c.toNat = true) (h2 : stepD [c] = .tok 1 [c] 0 1) : nameT ⟨#[c]⟩ = true := by
  have h : lexR [c] = ⟨[⟨1, ⟨#[c]⟩, 0, (posAt [c] 0).1, (posAt [c] 0).2⟩, ⟨5, ⟨#[]⟩, 0, (posAt [c] 1).1, (posAt [c] 1).2⟩], 0, 0, 0⟩ := by
    unfold lexR
    rw [if_neg (by simp)]
    rw [lexW_tok (by simp) (show stepD ([c].drop 0) = .tok 1 [c] 0 1 from h2) (by decide)]
    rw [lexW_end (by simp)]
    rfl
  unfold nameT
  rw [show (⟨#[c]⟩ : ByteArray).data.toList = [c] from rfl, h]
  have e1 : (⟨#[c]⟩ : ByteArray).size = 1 := rfl
  rw [e1]
  simp [tkAt]
theorem aw_form : formedF 8 awL = true := by
  have ha : nameT ⟨#[97]⟩ = true := one_name (by decide) (by kernel_rfl)
  have hb : nameT ⟨#[98]⟩ = true := one_name (by decide) (by kernel_rfl)
  have hc : nameT ⟨#[99]⟩ = true := one_name (by decide) (by kernel_rfl)
  have h7 : formedF 7 [awC] = true := by
    rw [formedF_eq]
    have : okN (subF 7) awC = true := by
      show (nameT ⟨#[99]⟩ && plainN awC && _) = true
      rw [hc]
      kernel_rfl
    simp [this]
  rw [formedF_eq]
  have h1 : okN (subF 8) (.mk ⟨#[97]⟩ 1 1 e0 [] []) = true := by
    show (nameT ⟨#[97]⟩ && plainN _ && _) = true
    rw [ha]
    kernel_rfl
  have h2 : okN (subF 8) (.mk ⟨#[98]⟩ 4 0 e0 [] [awC]) = true := by
    show (nameT ⟨#[98]⟩ && plainN _ && formedF 7 [awC]) = true
    rw [hb, h7]
    kernel_rfl
  have h3 : (awL.map Nd.name).Nodup := by decide
  rw [decide_eq_true h3]
  simp [awL, h1, h2]
def awE : List UInt8 := [97, 32, 61, 32, 49, 10, 98, 32, 123, 10, 32, 32, 99, 32, 61, 32, 91, 34, 120, 34, 93, 10, 125, 10]
theorem aw_lines : linesF 8 0 awL = awE := by kernel_rfl
theorem aw_cnt : cntL awL = 3 := by kernel_rfl
theorem aw_format : formatR awL = (bsT awE, 0) := by
  unfold formatR
  rw [if_pos aw_form, aw_cnt, if_neg (by decide), aw_lines, if_neg (by decide)]
theorem aw_fit : Fit awL := by
  have hc : Fit [awC] := .mk _ (by decide) (by decide) (by decide) (by decide) (by decide) (by intro t ht; simp at ht; subst ht; exact .mk [] (by decide) (by decide) (by decide) (by decide) (by decide) (by intro t ht; cases ht))
  refine .mk _ (by decide) (by decide) (by decide) (by decide) (by decide) (fun t ht => ?_)
  have ht : t = .mk ⟨#[97]⟩ 1 1 e0 [] [] ∨ t = .mk ⟨#[98]⟩ 4 0 e0 [] [awC] := by simpa [awL] using ht
  rcases ht with rfl | rfl
  · exact .mk [] (by decide) (by decide) (by decide) (by decide) (by decide) (by intro t ht; cases ht)
  · exact hc
/-- all blocks of a tree lie in its world -/
theorem nl_in {w : World} {S : Nat → Prop} {v : Value} {l : List Nd} (h : NL w S v l) : NL w (fun g => g < w.heap.size) v l :=
  ((h.mono (fun _ hg => And.intro hg trivial)).low (Q := fun _ => True)).mono (fun _ hg => hg.2.2)
theorem awake_any {w : World} (ht : Lib.TabIs Tryd.prog w "internal/strconv.uint64pow10" .u64 Lib.pow10Tab) : Calls Tryd.prog 11 #[] w (Ret (.bool true) w) := by
  have HP := Lib.hid (pparse_any ⟨awB.toArray⟩ w)
  rw [show (⟨awB.toArray⟩ : ByteArray).data.toList = awB from rfl, aw_parse] at HP
  unfold awB at HP
  have HT := Lib.hid ht
  clear ht
  go_enter Tryd.func11, Tryd.ntmps11
  go_wp2_with fail
  refine HP.out.mono ?_
  rintro e w1 ⟨v, rfl, hnl, hb⟩
  obtain ⟨A, c, rfl, _⟩ := id hnl.form
  have HB := Lib.hid hb
  have hz := hb.size
  have HFM := Lib.hid (show Calls Tryd.prog 18 #[.slice A awL.length c] (w1.alloc (.cells #[.int .i64 0, .int .i64 0] 37)) (FormatRet awL (w1.alloc (.cells #[.int .i64 0, .int .i64 0] 37))) from
    format_any (nl_in (hnl.up ((Below.refl _ _).al _))) aw_fit (by rw [aw_cnt]; decide) (by rw [aw_lines]; decide) ((Lib.tabBelow_of_tabIs HT.out) _ (hb.al _)) (by unfold awL; simp))
  unfold FormatRet at HFM
  rw [aw_format] at HFM
  clear hnl hb
  simp only
  go_wp2_with fail
  refine HFM.out.mono ?_
  rintro e w2 ⟨rfl, hb2⟩
  have HB2 := Lib.hid ((HB.out.al _).next hb2)
  clear hb2
  have hE : (bsT awE).toList = awE := by kernel_rfl
  go_wp2_with fail
  go_ret
  exact ⟨rfl, HB2.out⟩
end Go.Proofs.YtfmdbmalmeimbaaDoor
/- The step from a walk to a law's row where the row lists its tables. -/
namespace Go.Proofs.YtfmdbmalmeimbaaDoor
set_option maxRecDepth 100000
open Go.ChangeShapes Go.WideShapes Go.ChangeAt Go.RowKit

def laidL : List (String × DataW Unit) := [("math/bits.deBruijn32tab", Rows.laid_math_bits_deBruijn32tab), ("math/bits.deBruijn64tab", Rows.laid_math_bits_deBruijn64tab), ("internal/strconv.uint64pow10", Rows.laid_internal_strconv_uint64pow10)]
def Tab10 (W : World) : Prop := Lib.TabIs Tryd.prog W "internal/strconv.uint64pow10" .u64 Lib.pow10Tab
theorem gPow : Tryd.prog.globalNamed "internal/strconv.uint64pow10" = some 0 := by kernel_rfl
theorem tPow : (Tryd.prog.globals[0]?).map (·.type) = some 149 := by kernel_rfl
theorem door_met (os : Os) (args : Array Value) : laidMetH Tryd.prog laidL ((World.doorLaid Tryd.prog 400 os).forCall (fun _ _ => 0) ⟨#[], args, []⟩).memory :=
  laidMetH_of_parts3 (fuel := 8) (laidMet_of_run' 8 (by kernel_rfl) (by kernel_rfl)) (by kernel_rfl) (by kernel_rfl)
theorem tab_of_laid {W : World} (h : laidMetH Tryd.prog laidL W) : Tab10 W := by
  rw [MakeChecks.laidMetH_plain _ _ _ (by kernel_rfl)] at h
  have h3 : laidMet Tryd.prog [("internal/strconv.uint64pow10", Lib.tabData .u64 Lib.pow10Tab)] W := (laidMet.tail h).tail
  exact Lib.tabIs_of_head gPow tPow Tryd.underlying149 Tryd.underlying138 (by kernel_rfl) (by kernel_rfl) h3

/-- A LAW's ROW out of its walk, its tables laid. -/
theorem law_lifted_laid {f : FuncId} {fn : Func} {s : ChangeSpec} {os : Os} {H : Type} {enc : TypeId × Value → H} (started : os.Started) (noInit : Tryd.prog.inits.idxOf? f = none) (hfn : Tryd.prog.funcs[f]? = some fn)
    (witness : ∃ (w : World) (tape : Tape) (i : Input), w.os = os ∧ (w.forCall tape i).Shaped Tryd.checked.prog ∧ i.vars = [] ∧ Input.okWide Tryd.checked.prog (w.forCall tape i) .any w.heap.size f i ∧
      ((s.pre enc Tryd.checked.prog fn [] false (w.forCall tape i).memory i.args ∧ laidMetH Tryd.prog laidL (w.forCall tape i).memory) ∧ sizedMet enc Tryd.checked.prog fn (OpenSpec.ofChange s) false (w.forCall tape i).memory i.args) ∧ ({} : Assume).holds Tryd.checked.prog (lone (Frame.enter Tryd.checked.prog f i.args .normal) [] (w.forCall tape i)))
    (hvars : s.vars = []) (hres : fn.resultTypes = #[4]) (hread : (fn.params.toList.all fun t => Tryd.prog.readableRec t && decide (t < Tryd.prog.types.size)) = true)
    (hspec : ∀ ds : List (DataW H), ds.length = fn.params.size → s.fn H ds = { results := [.lit (.bool true)], args := ds })
    (walk : ∀ (W : World) (base : Nat) (args : Array Value) (ds : List (DataW H)) (p : List MemPlace),
      (∀ (j : Nat) t v, fn.params[j]? = some t → args[j]? = some v → Value.okWide Tryd.prog W .any base t v) →
      DataW.TrodAll enc Tryd.prog W 0 (fun _ => true) true fn.params.toList args.toList ds p → Tab10 W →
      Calls Tryd.prog f args W (Ret (.bool true) W)) :
    ReturnsInHanded {} Tryd.checked os f .any (fun w args => (s.pre enc Tryd.prog fn [] false w args ∧ laidMetH Tryd.prog laidL w) ∧ sizedMet enc Tryd.prog fn (OpenSpec.ofChange s) false w args) (s.post enc Tryd.prog fn false true false false) := by
  refine returnsInHanded_of_change_and (C := Tryd.checked) (X := fun w _ => laidMetH Tryd.prog laidL w) (fun _ _ _ hh h => h.of_heap hh) own started noInit hfn witness ?_
  intro W base args ds gs before hval hW _ _ hL _
  have hW' := hW
  obtain ⟨p, q, hA, hV, rfl, hfz, hnd⟩ := hW
  rw [hvars] at hV
  obtain ⟨rfl, rfl⟩ := trodVars_none hV
  have hlt : ∀ x ∈ p, x.block < W.heap.size := fun x hx => hW'.lt x (by simp [hx])
  refine (walk W base args ds p hval hA (tab_of_laid hL)).mono fun e W' ⟨he, bel⟩ => ?_
  subst he
  have hlen : ds.length = fn.params.size := by
    have : ∀ (ts : List TypeId) (vs : List Value) (ds : List (DataW H)) (ps : List MemPlace), DataW.TrodAll enc Tryd.prog W 0 (fun _ => true) true ts vs ds ps → ds.length = ts.length := by
      intro ts
      induction ts with
      | nil => intro vs ds ps h; obtain ⟨rfl, rfl, rfl⟩ := trodAll_nil h; rfl
      | cons t ts ih =>
        intro vs ds ps h
        obtain ⟨v, vs', d, ds', p, q, rfl, rfl, rfl, h0, h1⟩ := trodAll_cons h
        simp [ih _ _ _ h1]
    simpa using this _ _ _ _ hA
  refine ⟨_, rfl, ds, [], p ++ [], [], p, [], hW', ?_, ?_, ?_, bel.frame _, fun h => by cases h⟩
  · rw [List.append_nil, hspec ds hlen, hres]
    exact trodAll_mk1 (shut_bool Tryd.underlying4 _)
  · rw [List.append_nil, hspec ds hlen]
    exact below_trodAll laidOut bel _ _ _ _ hread hA hlt
  · rw [List.append_nil, hspec ds hlen, hvars]
    rfl
end Go.Proofs.YtfmdbmalmeimbaaDoor
/- ConfigRaw: the walk. -/
namespace Go.Proofs.YtfmdbmalmeimbaaDoor
open Go.RowKit
set_option maxRecDepth 100000

set_option maxHeartbeats 4000000 in
theorem raw_walk (s : ByteArray) (W : World) (hs : s.size ≤ maxLen) (ht : Tab10 W) : Calls Tryd.prog 3 #[.string s] W (Ret (.bool true) W) := by
  have HT := Lib.hid (show ∀ W', Below W.heap.size W W' → Lib.TabIs Tryd.prog W' "internal/strconv.uint64pow10" .u64 Lib.pow10Tab from Lib.tabBelow_of_tabIs ht)
  clear ht
  unfold maxLen at hs
  by_cases h4 : 400 < s.size
  · have z : (400 : Int) < (s.size : Int) := by omega
    go_enter Tryd.func3, Tryd.ntmps3
    go_wp2_with fail
    refine (awake_any (HT.out _ (Below.refl _ _))).mono ?_
    rintro e w1 ⟨rfl, hb1⟩
    go_wp2_with fail
    go_ret
    exact ⟨rfl, hb1⟩
  · have z : ¬ (400 : Int) < (s.size : Int) := by omega
    have hs4 : s.size ≤ 400 := by omega
    go_enter Tryd.func3, Tryd.ntmps3
    go_wp2_with fail
    refine (agrees_any _ _).mono ?_
    rintro e w1 ⟨rfl, hb1⟩
    have HB1 := Lib.hid hb1
    clear hb1
    go_wp2_with fail
    refine (agrees_any _ _).mono ?_
    rintro e w2 ⟨rfl, hb2⟩
    have HB2 := Lib.hid (HB1.out.next hb2)
    clear hb2
    go_wp2_with fail
    refine (agrees_any _ _).mono ?_
    rintro e w3 ⟨rfl, hb3⟩
    have HB3 := Lib.hid (HB2.out.next hb3)
    clear hb3
    go_wp2_with fail
    refine (awake_any (HT.out _ HB3.out)).mono ?_
    rintro e w4 ⟨rfl, hb4⟩
    have HB4 := Lib.hid (HB3.out.next hb4)
    clear hb4
    go_wp2_with fail
    go_ret
    exact ⟨rfl, HB4.out⟩
end Go.Proofs.YtfmdbmalmeimbaaDoor
