/- list. -/
import Derived.Test.YtfmdbmalmeimbaaDoorTake
import Derived.StillTailTactics
namespace Go.Proofs.YtfmdbmalmeimbaaDoor
open Go.RowKit
set_option maxRecDepth 100000

theorem string_info : (Tryd.prog.info? 9).map (fun i => (i.zero, i.size, i.bytes)) = some (some (.string ⟨#[]⟩), 1, 16) := by kernel_rfl
def lenV : Value → Nat
  | .slice _ n _ => n
  | _ => 0
/-- a row of texts of one's own -/
def TO (w : World) (base : Nat) (v : Value) (l : List ByteArray) : Prop := w.ownsRow base 9 1 v l.length (l.map Value.string)
theorem TO.tl {w : World} {base : Nat} {S : Nat → Prop} {v : Value} {l : List ByteArray} (h : TO w base v l) (hS : ∀ g, base ≤ g → S g) : TL w S v l := by
  rcases id h.2 with ⟨rfl, h3⟩ | ⟨g, cap, cur, rfl, hg, hh, hcap, r⟩
  · have : l = [] := List.eq_nil_of_length_eq_zero h3
    subst this
    exact ⟨none, 0, rfl, Nat.le_refl _, fun h => absurd h (Nat.lt_irrefl _)⟩
  · refine ⟨_, cap, rfl, hcap, fun _ => ⟨_, rfl, hS g hg, (World.ownsRow.lt h g rfl).2, fun k s hs => ?_⟩⟩
    have hk : k < l.length := (List.getElem?_eq_some_iff.1 hs).1
    have := World.ownsRow.cellAt h k (by omega)
    rw [List.getElem?_map, hs] at this
    unfold Addr.add
    split
    · rename_i h0; subst h0; exact this
    · rw [Nat.zero_add]; exact this
/-- how a function of the parser ends -/
def EndRet {α : Type} (w : World) (g : Nat) (A : Option Addr) (c : Nat) (T : List Tk) (V : World → Value → α → Prop) (r : PR α) (e : Ending) (w' : World) : Prop := match r with
  | .ok a i n => ∃ v, e = .returned v ∧ V w' v a ∧ PB w' g A c T i n ∧ Only (· = g) w w'
  | .bad f => e = .panicked [{ v := flV f, recovered := false }] ∧ Only (· = g) w w'
def ListRet (w : World) (g : Nat) (A : Option Addr) (c : Nat) (T : List Tk) (r : PR (List ByteArray)) : Ending → World → Prop := EndRet w g A c T (fun w' v l => TL w' (fun k => w.heap.size ≤ k) v l) r
theorem own_form2 {w : World} {base : Nat} {v : Value} {l : List ByteArray} (h : TO w base v l) : ∃ A c, v = .slice A l.length c := by
  rcases h.2 with ⟨h, h0⟩ | ⟨g, cap, cur, h, _⟩
  · exact ⟨none, 0, by rw [h, h0]⟩
  · exact ⟨_, _, h⟩
theorem cell_one_at {w : World} {g : Nat} (x : Value) (t : TypeId) (hg : w.heap.size = g) : ∀ j u, [x][j]? = some u → (w.alloc (.cells #[x] t)).cell? ((⟨g, 0, none⟩ : Addr).add j) = some u := by
  subst hg
  exact cell_one_new w x t
theorem TO.al {w : World} {base : Nat} {v : Value} {l : List ByteArray} (h : TO w base v l) (o : Obj) : TO (w.alloc o) base v l := World.ownsRow.alloc h o

set_option maxHeartbeats 8000000 in
theorem plist_any {w : World} {g c i n : Nat} {A : Option Addr} {T : List Tk} (h : PB w g A c T i n) :
    Calls Tryd.prog 88 #[.pointer (some ⟨g, 0, none⟩)] w (ListRet w g A c T (listT T i n)) := by
  have HP := Lib.hid h
  have hg := h.blk.lt
  have hlen := h.ok.small
  have hi := h.hi
  clear h
  obtain ⟨i0, hi0, hz0, hz1, hz2⟩ := info_parts string_info
  cases h93 : isSign (tkAt T i) 93 with
  | true =>
    have HC := Lib.hid (show SignRet w g A c T i n 93 = fun e w' => e = .returned (.bool true) ∧ PB w' g A c T (i + 1) n ∧ Only (· = g) w w' by unfold SignRet; rw [h93]; rfl)
    rw [show listT T i n = .ok [] (i + 1) n by unfold listT; rw [if_pos h93]]
    have HS := Lib.hid (HC.out ▸ psign_any 93 HP.out)
    clear HC h93
    go_enter Tryd.func88, Tryd.ntmps88
    go_wp2_with fail
    refine HS.out.mono ?_
    rintro e w1 ⟨rfl, hp1, ho1⟩
    have HP1 := Lib.hid hp1
    have HO1 := Lib.hid ho1
    clear hp1 ho1
    go_wp2_with fail
    go_ret
    exact ⟨_, rfl, ⟨none, 0, rfl, Nat.le_refl _, fun h => absurd h (Nat.lt_irrefl _)⟩, HP1.out, HO1.out⟩
  | false =>
    have HC := Lib.hid (show SignRet w g A c T i n 93 = fun e w' => e = .returned (.bool false) ∧ PB w' g A c T i n ∧ Only (· = g) w w' by unfold SignRet; rw [h93]; rfl)
    rw [show listT T i n = listP T (T.length - i) [] i n by unfold listT; rw [if_neg (by rw [h93]; decide)]]
    have HS := Lib.hid (HC.out ▸ psign_any 93 HP.out)
    clear HC h93
    go_enter Tryd.func88, Tryd.ntmps88
    go_wp2_with fail
    refine HS.out.mono ?_
    rintro e w1 ⟨rfl, hp1, ho1⟩
    have HP1 := Lib.hid hp1
    have HO1 := Lib.hid ho1
    clear hp1 ho1 HS
    go_wp2_with fail
    go_loopw [3] (fun v wr => ∃ (acc : List ByteArray) (j f : Nat), listP T (T.length - i) [] i n = listP T f acc j n ∧ T.length - j ≤ f ∧ acc.length ≤ j ∧ lenV v = acc.length ∧ TO wr w.heap.size v acc ∧ PB wr g A c T j n ∧ Only (· = g) w wr) (fun v _ => T.length - lenV v)
    case atStart => exact ⟨[], i, _, rfl, Nat.le_refl _, Nat.zero_le _, rfl, World.ownsRow_nil _ _ _ _, HP1.out, HO1.out⟩
    case round =>
      obtain ⟨acc, j, f, hr, hf, haj, hlv, hto, hp, ho⟩ := hrel
      have HR := Lib.hid hr
      have HT := Lib.hid hto
      have HPj := Lib.hid hp
      have HOj := Lib.hid ho
      have hj := hp.hi
      obtain ⟨f, rfl⟩ : ∃ f', f = f' + 1 := ⟨f - 1, by omega⟩
      have HU := Lib.hid (show listP T (f + 1) acc j n = (if (tkAt T j).kind = 3 then
          if isSign (tkAt T (j + 1)) 93 = true then .ok (acc ++ [(tkAt T j).text]) (j + 2) n
          else if isSign (tkAt T (j + 1)) 44 = true then listP T f (acc ++ [(tkAt T j).text]) (j + 2) n
          else .bad (flAt (tkAt T (j + 1)) 8)
        else .bad (flAt (tkAt T j) 8)) from rfl)
      clear hr hto hp ho HP1 HO1
      go_wp2_with fail
      refine (ptake_any HPj.out).mono ?_
      rintro e w2 ⟨rfl, hp2, ho2⟩
      have HP2 := Lib.hid hp2
      have HO2 := Lib.hid ho2
      have HT2 := Lib.hid (show TO w2 w.heap.size u3 acc from own_only HT.out ho2 (fun k hk e => by have := (HT.out.lt k hk).1; omega))
      clear hp2 ho2
      unfold tokV tokC
      obtain ⟨⟨kd, tx, nu, li, co⟩, ht⟩ : ∃ t, tkAt T j = t := ⟨_, rfl⟩
      have HTJ := Lib.hid ht
      rw [ht] at HU
      rw [ht]
      simp only
      have hw2 : w.heap.size ≤ w2.heap.size := Nat.le_trans HOj.out.size HO2.out.size
      by_cases hk : kd = 3
      · subst hk
        have hj1 : j + 1 < T.length := HPj.out.ok.next hj (by rw [HTJ.out]; show (3 : Int) ≠ 5; decide)
        have HP3 := Lib.hid (show PB w2 g A c T (j + 1) n by have h := HP2.out; unfold adv at h; rw [HTJ.out, if_neg (show ¬ (3 : Int) = 5 by decide)] at h; exact h)
        have HPA := Lib.hid (HP3.out.up ((Below.refl _ _).al (.cells #[.int .i64 3, .string tx, .int .i64 nu, .int .i64 (li : Int), .int .i64 (co : Int)] 81)))
        have HUU := Lib.hid (show listP T (f + 1) acc j n = (if isSign (tkAt T (j + 1)) 93 = true then .ok (acc ++ [tx]) (j + 2) n else if isSign (tkAt T (j + 1)) 44 = true then listP T f (acc ++ [tx]) (j + 2) n else .bad (flAt (tkAt T (j + 1)) 8)) by rw [HU.out]; rfl)
        clear HP2 HU
        go_wp2_with (at_builtin; refine wpList_append_own _ rfl _ _ 33 rfl w.heap.size 9 i0 _ 1 16 Tryd.underlying33 hi0 hz0 hz1 hz2 rfl (by decide) _ _ _ rfl ((HT2.out.al _).al _) ⟨w2.heap.size + 1, 0, none⟩ 1 1 [.string tx] rfl rfl (cell_one_at _ _ (by simp)) (by simp [Value.oneCell']) (by unfold maxLen; omega) (by omega) (by simp; omega) ?_; intro v3 w3 ho3 hg3 _)
        have hrow : ∀ k, u3.ownBlock = some k → w.heap.size ≤ k := fun k hk => (HT2.out.lt k hk).1
        have HP4 := Lib.hid ((HPA.out.up ((Below.refl _ _).al (.cells #[.string tx] 9))).grown hg3 (fun k hk => Nat.lt_of_lt_of_le hg (hrow k hk)))
        have HO4 := Lib.hid ((((HOj.out.trans HO2.out).alloc (.cells #[.int .i64 3, .string tx, .int .i64 nu, .int .i64 (li : Int), .int .i64 (co : Int)] 81)).alloc (.cells #[.string tx] 9)).grown hg3 (fun k hk => .inr (hrow k hk)))
        have HT4 := Lib.hid (show TO w3 w.heap.size v3 (acc ++ [tx]) from by
          unfold TO
          rw [List.length_append, List.map_append]
          exact ho3)
        clear ho3 hg3 hrow HPA HP3 HT HT2 HO2 HPj HOj
        have hl4 : (acc ++ [tx]).length = acc.length + 1 := by simp
        obtain ⟨Av, cv, ev⟩ := own_form2 HT4.out
        rw [hl4] at ev
        subst ev
        clear hl4
        cases h1 : isSign (tkAt T (j + 1)) 93 with
        | true =>
          have HS := Lib.hid (show SignRet w3 g A c T (j + 1) n 93 = fun e w' => e = .returned (.bool true) ∧ PB w' g A c T (j + 1 + 1) n ∧ Only (· = g) w3 w' by unfold SignRet; rw [h1]; rfl)
          have HC := Lib.hid (HS.out ▸ psign_any 93 HP4.out)
          have HE := Lib.hid (HR.out.trans (HUU.out.trans (if_pos h1)))
          clear HS h1 HR HUU
          have HF := Lib.hid (show ∀ e w', ListRet w g A c T (.ok (acc ++ [tx]) (j + 2) n) e w' → ListRet w g A c T (listP T (T.length - i) [] i n) e w' from fun _ _ h => by rw [HE.out]; exact h)
          refine HC.out.mono ?_
          rintro e w4 ⟨rfl, hp4, ho4⟩
          have HP5 := Lib.hid hp4
          have HO5 := Lib.hid (HO4.out.trans ho4)
          have HT5 := Lib.hid (show TO w4 w.heap.size (.slice Av (acc.length + 1) cv) (acc ++ [tx]) from own_only HT4.out ho4 (fun k hk e => by have := (HT4.out.lt k hk).1; omega))
          clear hp4 ho4 HE
          go_wp2_with fail
          go_ret
          exact HF.out _ _ ⟨_, rfl, HT5.out.tl (fun k hk => hk), HP5.out, HO5.out⟩
        | false =>
          have HS := Lib.hid (show SignRet w3 g A c T (j + 1) n 93 = fun e w' => e = .returned (.bool false) ∧ PB w' g A c T (j + 1) n ∧ Only (· = g) w3 w' by unfold SignRet; rw [h1]; rfl)
          have HC := Lib.hid (HS.out ▸ psign_any 93 HP4.out)
          have HE := Lib.hid (HR.out.trans (HUU.out.trans (if_neg (show ¬ isSign (tkAt T (j + 1)) 93 = true by rw [h1]; decide))))
          clear HS h1 HR HUU
          refine HC.out.mono ?_
          rintro e w4 ⟨rfl, hp4, ho4⟩
          have HP5 := Lib.hid hp4
          have HO5 := Lib.hid (HO4.out.trans ho4)
          have HT5 := Lib.hid (show TO w4 w.heap.size (.slice Av (acc.length + 1) cv) (acc ++ [tx]) from own_only HT4.out ho4 (fun k hk e => by have := (HT4.out.lt k hk).1; omega))
          clear hp4 ho4 HP4 HT4 HO4
          cases h4 : isSign (tkAt T (j + 1)) 44 with
          | true =>
            have HS := Lib.hid (show SignRet w4 g A c T (j + 1) n 44 = fun e w' => e = .returned (.bool true) ∧ PB w' g A c T (j + 1 + 1) n ∧ Only (· = g) w4 w' by unfold SignRet; rw [h4]; rfl)
            have HC := Lib.hid (HS.out ▸ psign_any 44 HP5.out)
            have HE2 := Lib.hid (HE.out.trans (if_pos h4))
            clear HS h4
            go_wp2_with fail
            refine HC.out.mono ?_
            rintro e w5 ⟨rfl, hp5, ho5⟩
            have HP6 := Lib.hid hp5
            have HO6 := Lib.hid (HO5.out.trans ho5)
            have HT6 := Lib.hid (show TO w5 w.heap.size (.slice Av (acc.length + 1) cv) (acc ++ [tx]) from own_only HT5.out ho5 (fun k hk e => by have := (HT5.out.lt k hk).1; omega))
            have hj2 := hp5.hi
            clear hp5 ho5
            go_wp2_with fail
            go_roundw
            case rel => exact ⟨acc ++ [tx], j + 2, f, HE2.out, by omega, by rw [List.length_append]; show acc.length + 1 ≤ _; omega, by simp [lenV], HT6.out, HP6.out, HO6.out⟩
            case measure => show T.length - (acc.length + 1) < T.length - lenV u3; rw [hlv]; omega
          | false =>
            have HS := Lib.hid (show SignRet w4 g A c T (j + 1) n 44 = fun e w' => e = .returned (.bool false) ∧ PB w' g A c T (j + 1) n ∧ Only (· = g) w4 w' by unfold SignRet; rw [h4]; rfl)
            have HC := Lib.hid (HS.out ▸ psign_any 44 HP5.out)
            have HE2 := Lib.hid (HE.out.trans (if_neg (by rw [h4]; decide)))
            have HF := Lib.hid (show ∀ e w', ListRet w g A c T (.bad (flAt (tkAt T (j + 1)) 8)) e w' → ListRet w g A c T (listP T (T.length - i) [] i n) e w' from fun _ _ h => by rw [HE2.out]; exact h)
            clear HS h4 HE HE2
            go_wp2_with fail
            refine HC.out.mono ?_
            rintro e w5 ⟨rfl, hp5, ho5⟩
            have HP6 := Lib.hid hp5
            have HO6 := Lib.hid (HO5.out.trans ho5)
            obtain ⟨gt, rfl, hgt, h5⟩ := hp5.tok
            obtain ⟨a0, a1, a2, f1, f2⟩ := hp5.cs
            obtain ⟨t0, t1, t2, t3, t4⟩ := h5
            have k0 : (0 : Int) ≤ (j : Int) + 1 := by omega
            have k1 : (j : Int) + 1 < (T.length : Int) := by omega
            have k2 : ((j : Int) + 1).toNat = j + 1 := by omega
            have HTK := Lib.hid (fail_any (w := w5.drew) (tkAt T (j + 1)) 8)
            generalize tkAt T (j + 1) = t at *
            clear hp5 ho5
            go_wp2_with fail
            go_still_tail 10, (by kernel_rfl)
            change wpList _ _ _ _ _ w5.drew
            go_wp2_with fail
            refine HTK.out.mono ?_
            rintro e w6 ⟨rfl, hb6⟩
            exact ⟨rfl, HF.out _ _ ⟨rfl, HO6.out.drew.next hb6⟩⟩
      · have HE := Lib.hid (HR.out.trans (HU.out.trans (if_neg hk)))
        have HF := Lib.hid (show ∀ e w', ListRet w g A c T (.bad (flAt ⟨kd, tx, nu, li, co⟩ 8)) e w' → ListRet w g A c T (listP T (T.length - i) [] i n) e w' from fun _ _ h => by rw [HE.out]; exact h)
        have q1 : (kd != 3) = true := bne_iff_ne.2 hk
        have HTK := Lib.hid (fun w => fail_any (w := w) ⟨kd, tx, nu, li, co⟩ 8)
        clear HE HR HU
        unfold tokV tokC at HTK
        go_wp2_with fail
        refine (HTK.out _).mono ?_
        rintro e w6 ⟨rfl, hb6⟩
        exact ⟨rfl, HF.out _ _ ⟨rfl, ((HOj.out.trans HO2.out).alloc _).next hb6⟩⟩
end Go.Proofs.YtfmdbmalmeimbaaDoor
