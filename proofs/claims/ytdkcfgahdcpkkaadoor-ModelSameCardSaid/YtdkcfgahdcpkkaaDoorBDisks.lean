/- Rule 2. -/
import Derived.Test.YtdkcfgahdcpkkaaDoorBCk
import Derived.Test.YtdkcfgahdcpkkaaDoorBTwice
import Derived.BigQuiet
import Derived.Deep.QuietTactic
set_option linter.all false
set_option linter.unusedVariables false
set_option linter.unusedSimpArgs false
namespace Go.Proofs.YtdkcfgahdcpkkaaDoor
open Go.RowKit
set_option maxRecDepth 100000
theorem nine9 {W : World} {g : Nat} {T : TypeId} {v0 v1 v2 v3 v4 v5 v6 v7 v8 : Value} (h : Blk W g T #[v0, v1, v2, v3, v4, v5, v6, v7, v8]) : W.cell? ⟨g, 0, none⟩ = some v0 ∧ W.cell? ⟨g, 1, none⟩ = some v1 ∧ W.cell? ⟨g, 2, none⟩ = some v2 ∧ W.cell? ⟨g, 3, none⟩ = some v3 ∧ W.cell? ⟨g, 4, none⟩ = some v4 ∧ W.cell? ⟨g, 5, none⟩ = some v5 ∧ W.cell? ⟨g, 6, none⟩ = some v6 ∧ W.cell? ⟨g, 7, none⟩ = some v7 ∧ W.cell? ⟨g, 8, none⟩ = some v8 :=
  ⟨by rw [h.cell 0]; rfl, by rw [h.cell 1]; rfl, by rw [h.cell 2]; rfl, by rw [h.cell 3]; rfl, by rw [h.cell 4]; rfl, by rw [h.cell 5]; rfl, by rw [h.cell 6]; rfl, by rw [h.cell 7]; rfl, by rw [h.cell 8]; rfl⟩
set_option maxHeartbeats 8000000 in
theorem head_any {w : World} {gc : Nat} {g : Gr} {At Ad Av Ah : Option Addr} {ct cd cv ch : Nat} {vm : Value} (h : Ck w gc g At Ad Av Ah ct cd cv ch vm) (hz : Szg g) :
    Calls Tryd.prog 33 #[.pointer (some ⟨gc, 0, none⟩)] w (Ret (RuleV (⟨#[]⟩, headE g)) w) := by
  obtain ⟨c0, c1, c2, c3, c4, c5, c6, c7, c8, c9⟩ := nine h.blk
  have H := Lib.hid h
  obtain ⟨o, ho⟩ : ∃ o : Obj, o = (.cells (grX g At ct Ad cd Av cv Ah ch) 31) := ⟨_, rfl⟩
  have hb0 : Bel w (w.alloc o) := (Below.refl _ _).al _
  have HB0 := Lib.hid hb0
  have HV := Lib.hid (vis_any g.name (w.alloc o) hz.name (h.suf.below hb0 h.suf.pos))
  have HG := Lib.hid (show ∀ w', Bel (w.alloc o) w' → Blk w' w.heap.size 31 (grX g At ct Ad cd Av cv Ah ch) from fun w' hb => by
    subst ho
    exact (Blk.new w _ _).below hb (Blk.new w _ _).lt)
  clear h hb0
  obtain ⟨b, hv⟩ : ∃ b, visB g.name = b := ⟨_, rfl⟩
  rw [hv] at HV
  subst ho
  go_enter Tryd.func33, Tryd.ntmps33
  go_wp2_with fail
  refine HV.out.mono ?_
  rintro e w1 ⟨rfl, hb1⟩
  have HB1 := Lib.hid (HB0.out.next hb1)
  obtain ⟨d0, d1, d2, d3, d4, d5, d6, d7, d8⟩ := nine9 (HG.out w1 hb1)
  have HH := Lib.hid hb1
  clear hb1
  cases b with
  | false =>
    have HE := Lib.hid (show headE g = 10 by unfold headE; rw [if_pos hv])
    clear hv
    go_wp2_with fail
    go_ret2
    exact ⟨by rw [HE.out]; rfl, HB1.out⟩
  | true =>
    by_cases h1 : g.seq < 0 ∨ 1048575 < g.seq ∨ g.extent < 1 ∨ 1024 < g.extent ∨ g.next < 0 ∨ 1073741824 < g.next
    · have HE := Lib.hid (show headE g = 1 by unfold headE; rw [if_neg (by rw [hv]; simp), if_pos h1])
      clear hv
      go_wp2_with fail
      all_goals
        go_ret2
        exact ⟨by rw [HE.out]; rfl, HB1.out⟩
    have h1' := h1
    simp only [not_or] at h1'
    obtain ⟨e0, e1, e2, e3, e4, e5⟩ := h1'
    by_cases h2 : 8 < g.disks.length ∨ 32 < g.vols.length ∨ 32 < g.hist.length
    · have HE := Lib.hid (show headE g = 4 by unfold headE; rw [if_neg (by rw [hv]; simp), if_neg h1, if_pos h2])
      clear hv h1
      go_wp2_with fail
      all_goals first
        | (go_ret2
           exact ⟨by rw [HE.out]; rfl, HB1.out⟩)
        | (exfalso; omega)
    obtain ⟨et, het⟩ : ∃ et, tagsE g.tags = et := ⟨_, rfl⟩
    have HT := Lib.hid (tags_any (H.out.up HB1.out).tl)
    rw [het] at HT
    have HE := Lib.hid (show headE g = if et = 0 then (if g.hist.all histOk then 0 else 2) else et by unfold headE; rw [if_neg (by rw [hv]; simp), if_neg h1, if_neg h2, het])
    have h2' := h2
    simp only [not_or] at h2'
    obtain ⟨e6, e7, e8⟩ := h2'
    have e6' : ¬ (8 : Int) < (g.disks.length : Int) := by omega
    have e7' : ¬ (32 : Int) < (g.vols.length : Int) := by omega
    have e8' : ¬ (32 : Int) < (g.hist.length : Int) := by omega
    clear h1 h2 hv het
    go_wp2_with fail
    refine HT.out.mono ?_
    rintro e w2 ⟨rfl, hb2⟩
    have HB2 := Lib.hid (HB1.out.next hb2)
    obtain ⟨d0, d1, d2, d3, d4, d5, d6, d7, d8⟩ := nine9 (HG.out w2 (HH.out.next hb2))
    clear hb2
    by_cases h0 : et = 0
    case neg =>
      have HE2 := Lib.hid (show headE g = et by rw [HE.out, if_neg h0])
      have q : (et != 0) = true := by simp [h0]
      clear h0
      go_wp2_with fail
      go_ret2
      exact ⟨by rw [HE2.out]; rfl, HB2.out⟩
    subst h0
    go_wp2_with fail
    clear d0 d1 d2 d3 d4 d5 d6 d7 d8 c0 c1 c2 c3 c4 c5 c6 c7 c8 c9
    have HE2 := Lib.hid (show headE g = if g.hist.all histOk then 0 else 2 by rw [HE.out]; simp)
    go_loopw [72] (fun i wx => ∃ k : Nat, k ≤ g.hist.length ∧ i = .int .i64 (k : Int) ∧ (∀ j x, j < k → g.hist[j]? = some x → histOk x = true) ∧ Bel w wx) (fun i _ => g.hist.length - (intOf i).toNat)
    case atStart => exact ⟨0, Nat.zero_le _, rfl, fun j t h => absurd h (Nat.not_lt_zero _), HB2.out⟩
    case round =>
      obtain ⟨k, hk, rfl, hall, hb⟩ := hrel
      have HA := Lib.hid hall
      have HB := Lib.hid hb
      clear hall hb HB2 HB1 HV HT HG HH
      by_cases hlt : k < g.hist.length
      · have z0 : (k : Int) < (g.hist.length : Int) := by omega
        have z1 : (0 : Int) ≤ (k : Int) := by omega
        obtain ⟨ad, x, rfl, hx, _, had, h3⟩ := (H.out.up HB.out).hl.at_ hlt
        have p0 := h3.c0
        have p1 := h3.c1
        have p2 := h3.c2
        have hba : Bel wr (wr.alloc (.cells #[.string x.name, .int .u64 x.id, .int .i64 x.seq] 70)) := (Below.refl _ _).al _
        have HBA := Lib.hid hba
        have HV := Lib.hid (vis_any x.name _ (hz.hist x (List.mem_of_getElem? hx)) ((H.out.up (HB.out.next hba)).suf))
        have HN := Lib.hid (show ∀ w', Bel (wr.alloc (.cells #[.string x.name, .int .u64 x.id, .int .i64 x.seq] 70)) w' → Blk w' wr.heap.size 70 #[.string x.name, .int .u64 x.id, .int .i64 x.seq] from fun w' hb => (Blk.new wr _ _).below hb (Blk.new wr _ _).lt)
        obtain ⟨b, hv⟩ : ∃ b, visB x.name = b := ⟨_, rfl⟩
        rw [hv] at HV
        clear hba h3
        go_wp2_with fail
        refine HV.out.mono ?_
        rintro e w3 ⟨rfl, hb3⟩
        have HB3 := Lib.hid ((HB.out.next HBA.out).next hb3)
        have d1 : w3.cell? ⟨wr.heap.size, 2, none⟩ = some (.int .i64 x.seq) := by rw [(HN.out w3 hb3).cell 2]; rfl
        clear hb3
        by_cases hok : histOk x = true
        · have hok' := hok
          unfold histOk at hok'
          rw [hv] at hok'
          simp only [Bool.and_eq_true, decide_eq_true_eq] at hok'
          obtain ⟨⟨rfl, s1⟩, s2⟩ := hok'
          have HS := Lib.hid (show ∀ j y, j < k + 1 → g.hist[j]? = some y → histOk y = true from fun j y hj hy => by
            rcases Nat.lt_or_ge j k with h | h
            · exact HA.out j y h hy
            · obtain rfl : j = k := by omega
              rw [hx] at hy; injection hy with hy; subst hy
              exact hok)
          have s1' : ¬ x.seq < 0 := by omega
          have s2' : ¬ 1048575 < x.seq := by omega
          clear hok hv hx s1 s2
          go_wp2_with fail
          go_roundw
          case rel => exact ⟨k + 1, by omega, by go_num, HS.out, HB3.out⟩
          case measure => simp [intOf]; omega
        · have HF := Lib.hid (show g.hist.all histOk = false from Bool.eq_false_iff.2 (fun h => hok (List.all_eq_true.1 h x (List.mem_of_getElem? hx))))
          have hok' := hok
          unfold histOk at hok'
          rw [hv] at hok'
          simp only [Bool.and_eq_true, decide_eq_true_eq] at hok'
          clear hok hv hx
          cases b
          all_goals
            go_wp2_with fail
          all_goals first
            | (exfalso; simp at hok'; omega)
            | (go_ret2
               exact ⟨by rw [HE2.out, HF.out]; rfl, HB3.out⟩)
      · obtain rfl : k = g.hist.length := by omega
        have HF := Lib.hid (show g.hist.all histOk = true from List.all_eq_true.2 (fun x hx => by
          obtain ⟨j, hj⟩ := List.getElem?_of_mem hx
          exact HA.out j x (List.getElem?_eq_some_iff.1 hj).1 hj))
        go_wp2_with fail
        go_ret2
        exact ⟨by rw [HE2.out, HF.out]; rfl, HB.out⟩
end Go.Proofs.YtdkcfgahdcpkkaaDoor
namespace Go.Proofs.YtdkcfgahdcpkkaaDoor
open Go.RowKit
set_option maxRecDepth 100000
theorem firstE_bad {α : Type} {f : Nat → α → Int} {nm : α → ByteArray} {x : α} : ∀ (l : List α) (k0 k : Nat), (∀ j y, j < k → l[j]? = some y → f (k0 + j) y = 0) → l[k]? = some x → f (k0 + k) x ≠ 0 → firstE f nm k0 l = (nm x, f (k0 + k) x)
  | [], k0, k, _, h, _ => by simp at h
  | u :: r, k0, 0, _, h, hb => by
    simp at h
    subst h
    rw [firstE, if_neg (by exact hb)]
    rfl
  | u :: r, k0, k + 1, hall, h, hb => by
    rw [firstE, if_pos (show f k0 u = 0 from hall 0 u (by omega) rfl), firstE_bad r (k0 + 1) k (fun j y hj hy => by rw [show k0 + 1 + j = k0 + (j + 1) by omega]; exact hall (j + 1) y (by omega) (by simpa using hy)) (by simpa using h) (by rw [show k0 + 1 + k = k0 + (k + 1) by omega]; exact hb)]
    rw [show k0 + 1 + k = k0 + (k + 1) by omega]
theorem firstE_ok {α : Type} {f : Nat → α → Int} {nm : α → ByteArray} : ∀ (l : List α) (k0 : Nat), (∀ j y, l[j]? = some y → f (k0 + j) y = 0) → firstE f nm k0 l = (⟨#[]⟩, 0)
  | [], k0, _ => rfl
  | u :: r, k0, hall => by
    rw [firstE, if_pos (show f k0 u = 0 from hall 0 u rfl), firstE_ok r (k0 + 1) (fun j y hy => by rw [show k0 + 1 + j = k0 + (j + 1) by omega]; exact hall (j + 1) y (by simpa using hy))]
theorem firstE_bad0 {α : Type} {f : Nat → α → Int} {nm : α → ByteArray} {x : α} {l : List α} {k : Nat} {e : Int} (hall : ∀ j y, j < k → l[j]? = some y → f j y = 0) (h : l[k]? = some x) (he : f k x = e) (hb : e ≠ 0) : firstE f nm 0 l = (nm x, e) := by
  subst he
  have := firstE_bad (f := f) (nm := nm) l 0 k (fun j y hj hy => by rw [Nat.zero_add]; exact hall j y hj hy) h (by rw [Nat.zero_add]; exact hb)
  rw [Nat.zero_add] at this
  exact this
theorem firstE_ok0 {α : Type} {f : Nat → α → Int} {nm : α → ByteArray} {l : List α} (hall : ∀ j y, j < l.length → l[j]? = some y → f j y = 0) : firstE f nm 0 l = (⟨#[]⟩, 0) :=
  firstE_ok l 0 (fun j y hy => by rw [Nat.zero_add]; exact hall j y (List.getElem?_eq_some_iff.1 hy).1 hy)
theorem all_next {α : Type} {P : Nat → α → Prop} {l : List α} {k : Nat} {x : α} (hall : ∀ j y, j < k → l[j]? = some y → P j y) (hx : l[k]? = some x) (h : P k x) : ∀ j y, j < k + 1 → l[j]? = some y → P j y := fun j y hj hy => by
  rcases Nat.lt_or_ge j k with h' | h'
  · exact hall j y h' hy
  · obtain rfl : j = k := by omega
    rw [hx] at hy; injection hy with hy; subst hy
    exact h
theorem seven {W : World} {g : Nat} {T : TypeId} {v0 v1 v2 v3 v4 v5 v6 : Value} (h : Blk W g T #[v0, v1, v2, v3, v4, v5, v6]) : W.cell? ⟨g, 0, none⟩ = some v0 ∧ W.cell? ⟨g, 1, none⟩ = some v1 ∧ W.cell? ⟨g, 2, none⟩ = some v2 ∧ W.cell? ⟨g, 3, none⟩ = some v3 ∧ W.cell? ⟨g, 4, none⟩ = some v4 ∧ W.cell? ⟨g, 5, none⟩ = some v5 ∧ W.cell? ⟨g, 6, none⟩ = some v6 :=
  ⟨by rw [h.cell 0]; rfl, by rw [h.cell 1]; rfl, by rw [h.cell 2]; rfl, by rw [h.cell 3]; rfl, by rw [h.cell 4]; rfl, by rw [h.cell 5]; rfl, by rw [h.cell 6]; rfl⟩
theorem mul_in {a b : Int} (h0 : 0 ≤ a) (h1 : a ≤ 4096) (h2 : 1 ≤ b) (h3 : b ≤ 1024) : -9223372036854775808 ≤ a * b ∧ a * b ≤ 9223372036854775807 := by
  have := Int.mul_nonneg h0 (show 0 ≤ b by omega)
  have : a * b ≤ 4096 * 1024 := Int.mul_le_mul h1 h3 (by omega) (by omega)
  omega
theorem sum_in {c a b : Int} (g0 : 0 ≤ c) (g1 : c ≤ 65536) (h0 : 0 ≤ a) (h1 : a ≤ 4096) (h2 : 1 ≤ b) (h3 : b ≤ 1024) : -9223372036854775808 ≤ c + a * b ∧ c + a * b ≤ 9223372036854775807 := by
  have := Int.mul_nonneg h0 (show 0 ≤ b by omega)
  have : a * b ≤ 4096 * 1024 := Int.mul_le_mul h1 h3 (by omega) (by omega)
  omega
theorem LR.cap {α : Type} {w : World} {S : Nat → Prop} {size : Nat} {a : Addr → α → Prop} {l : List α} {A : Option Addr} {n c : Nat} (h : LR w S size a (.slice A n c) l) : n = l.length ∧ l.length ≤ c := by
  obtain ⟨A', c', e, hc, _⟩ := h
  injection e with e1 e2 e3
  omega
set_option maxHeartbeats 8000000 in
theorem disks_any {w : World} {gc : Nat} {g : Gr} {At Ad Av Ah : Option Addr} {ct cd cv ch : Nat} {vm : Value} (h : Ck w gc g At Ad Av Ah ct cd cv ch vm) (hz : Szg g) (he : 1 ≤ g.extent ∧ g.extent ≤ 1024) :
    Calls Tryd.prog 34 #[.pointer (some ⟨gc, 0, none⟩)] w (Ret (RuleV (disksE g)) w) := by
  obtain ⟨c0, c1, c2, c3, c4, c5, c6, c7, c8, c9⟩ := nine h.blk
  have H := Lib.hid h
  have hlen := h.len.1
  unfold maxLen at hlen
  clear h
  go_enter Tryd.func34, Tryd.ntmps34
  go_wp2_with fail
  clear c0 c1 c2 c3 c4 c5 c6 c7 c8 c9
  go_loopw [14] (fun i wx => ∃ k : Nat, k ≤ g.disks.length ∧ i = .int .i64 (k : Int) ∧ (∀ j x, j < k → g.disks[j]? = some x → diskE g j x = 0) ∧ Bel w wx) (fun i _ => g.disks.length - (intOf i).toNat)
  case atStart => exact ⟨0, Nat.zero_le _, rfl, fun j t h => absurd h (Nat.not_lt_zero _), Below.refl _ _⟩
  case round =>
    obtain ⟨k, hk, rfl, hall, hb⟩ := hrel
    have HA := Lib.hid hall
    have HB := Lib.hid hb
    clear hall hb
    by_cases hlt : k < g.disks.length
    · have z0 : (k : Int) < (g.disks.length : Int) := by omega
      have z1 : (0 : Int) ≤ (k : Int) := by omega
      have z2 : (k : Int) ≤ (cd : Int) := by have := (H.out.up HB.out).dl.cap; omega
      obtain ⟨ad, x, rfl, hx, _, had, h7⟩ := (H.out.up HB.out).dl.at_ hlt
      obtain ⟨v0, h7, htl⟩ := h7
      obtain ⟨a0, a1, a2, a3, a4, a5, a6⟩ := h7
      obtain ⟨Bt, bt, rfl⟩ := htl.form
      have HX := Lib.hid hx
      have hba : Bel wr (wr.alloc (.cells (dkX x Bt bt) 46)) := (Below.refl _ _).al _
      have HBA := Lib.hid (HB.out.next hba)
      have HR0 := Lib.hid hba
      have HTG := Lib.hid (fun w' (hb : Bel wr w') => tags_any (TL.up htl hb))
      obtain ⟨c0, c1, c2, c3, c4, c5, c6, c7, c8, c9⟩ := nine (H.out.up HBA.out).blk
      have HN := Lib.hid (show ∀ w', Bel (wr.alloc (.cells (dkX x Bt bt) 46)) w' → Blk w' wr.heap.size 46 (dkX x Bt bt) from fun w' hb => (Blk.new wr _ _).below hb (Blk.new wr _ _).lt)
      obtain ⟨d0, d1, d2, d3, d4, d5, d6⟩ := seven (HN.out _ (Below.refl _ _))
      obtain ⟨q, hq⟩ : ∃ q, dTwice g k x = q := ⟨_, rfl⟩
      have HQ := Lib.hid (twcDk_any (w := wr.alloc (.cells (dkX x Bt bt) 46)) (H.out.up HBA.out).dl (Nat.le_of_lt hlt) (H.out.len.1) d0 d1 (show (g.disks.take k).any (twDk x.name x.id) = q from hq))
      clear d0 d1 d2 d3 d4 d5 d6 hx hba htl
      go_wp2_with fail
      refine HQ.out.mono ?_
      rintro e w1 ⟨rfl, hb1⟩
      have HB1 := Lib.hid (HBA.out.next hb1)
      have HR1 := Lib.hid (HR0.out.next hb1)
      have HN1 := Lib.hid (fun w' hb => HN.out w' (hb1.next hb))
      obtain ⟨d0, d1, d2, d3, d4, d5, d6⟩ := seven (HN.out _ hb1)
      obtain ⟨b, hv⟩ : ∃ b, visB x.name = b := ⟨_, rfl⟩
      have HV := Lib.hid (vis_any x.name w1 (hz.disks x (List.mem_of_getElem? HX.out)) (H.out.up HB1.out).suf)
      rw [hv] at HV
      clear a0 a1 a2 a3 a4 a5 a6 c0 c1 c2 c3 c4 c5 c6 c7 c8 c9 hb1 HN HQ HBA
      go_wp2_with fail
      refine HV.out.mono ?_
      rintro e w2 ⟨rfl, hb2⟩
      have HB2 := Lib.hid (HB1.out.next hb2)
      have HR2 := Lib.hid (HR1.out.next hb2)
      have HN2 := Lib.hid (fun w' hb => HN1.out w' (hb2.next hb))
      obtain ⟨d0, d1, d2, d3, d4, d5, d6⟩ := seven (HN1.out _ hb2)
      obtain ⟨c0, c1, c2, c3, c4, c5, c6, c7, c8, c9⟩ := nine (H.out.up HB2.out).blk
      clear hb2 HV HN1 HB1
      cases b with
      | false =>
        have HE := Lib.hid (show disksE g = (x.name, 10) from firstE_bad0 HA.out HX.out (show diskE g k x = 10 by unfold diskE; rw [if_pos hv]) (by decide))
        clear hv hq
        go_wp2_with fail
        go_ret2
        exact ⟨by rw [HE.out]; rfl, HB2.out⟩
      | true =>
        cases q with
        | true =>
          have HE := Lib.hid (show disksE g = (x.name, 9) from firstE_bad0 HA.out HX.out (show diskE g k x = 9 by unfold diskE; rw [if_neg (by rw [hv]; simp), if_pos hq]) (by decide))
          clear hv hq
          go_wp2_with fail
          go_ret2
          exact ⟨by rw [HE.out]; rfl, HB2.out⟩
        | false =>
          by_cases h1 : x.first < 0 ∨ 65536 < x.first ∨ x.ext < 0 ∨ 4096 < x.ext ∨ 65536 < x.first + x.ext * g.extent
          · have HE := Lib.hid (show disksE g = (x.name, 1) from firstE_bad0 HA.out HX.out (show diskE g k x = 1 by unfold diskE; rw [if_neg (by rw [hv]; simp), if_neg (by rw [hq]; simp), if_pos h1]) (by decide))
            clear hv hq
            have hcs : x.first < 0 ∨ (¬ x.first < 0 ∧ 65536 < x.first) ∨ (¬ x.first < 0 ∧ ¬ 65536 < x.first ∧ x.ext < 0) ∨ (¬ x.first < 0 ∧ ¬ 65536 < x.first ∧ ¬ x.ext < 0 ∧ 4096 < x.ext) ∨ (¬ x.first < 0 ∧ ¬ 65536 < x.first ∧ ¬ x.ext < 0 ∧ ¬ 4096 < x.ext ∧ 65536 < x.first + x.ext * g.extent) := by
              generalize x.first + x.ext * g.extent = z at h1 ⊢
              omega
            clear h1
            rcases hcs with e0 | ⟨e0, e1⟩ | ⟨e0, e1, e2⟩ | ⟨e0, e1, e2, e3⟩ | ⟨e0, e1, e2, e3, e4⟩
            · have q0 : decide (x.first < 0) = true := decide_eq_true e0
              go_wp2_with fail
              go_quiet (fail)
              go_wp2_with fail
              go_ret2
              exact ⟨by rw [HE.out]; rfl, below_drewN HB2.out _⟩
            · have q0 : decide (x.first < 0) = false := decide_eq_false e0
              have q1 : decide (65536 < x.first) = true := decide_eq_true e1
              go_wp2_with fail
              go_quiet (fail)
              go_wp2_with fail
              go_ret2
              exact ⟨by rw [HE.out]; rfl, below_drewN HB2.out _⟩
            · have q0 : decide (x.first < 0) = false := decide_eq_false e0
              have q1 : decide (65536 < x.first) = false := decide_eq_false e1
              have q2 : decide (x.ext < 0) = true := decide_eq_true e2
              go_wp2_with fail
              go_quiet (fail)
              go_wp2_with fail
              go_ret2
              exact ⟨by rw [HE.out]; rfl, below_drewN HB2.out _⟩
            · have q0 : decide (x.first < 0) = false := decide_eq_false e0
              have q1 : decide (65536 < x.first) = false := decide_eq_false e1
              have q2 : decide (x.ext < 0) = false := decide_eq_false e2
              have q3 : decide (4096 < x.ext) = true := decide_eq_true e3
              go_wp2_with fail
              go_quiet (fail)
              go_wp2_with fail
              go_ret2
              exact ⟨by rw [HE.out]; rfl, below_drewN HB2.out _⟩
            · have q0 : decide (x.first < 0) = false := decide_eq_false e0
              have q1 : decide (65536 < x.first) = false := decide_eq_false e1
              have q2 : decide (x.ext < 0) = false := decide_eq_false e2
              have q3 : decide (4096 < x.ext) = false := decide_eq_false e3
              have q4 : decide (65536 < x.first + x.ext * g.extent) = true := decide_eq_true e4
              have wm : IntKind.i64.wrap (x.ext * g.extent) = x.ext * g.extent := IntWalk.i64_in _ (mul_in (by omega) (by omega) he.1 he.2)
              have wa : IntKind.i64.wrap (x.first + x.ext * g.extent) = x.first + x.ext * g.extent := IntWalk.i64_in _ (sum_in (by omega) (by omega) (by omega) (by omega) he.1 he.2)
              go_wp2_with fail
              go_quiet (fail)
              go_wp2_with fail
              go_ret2
              exact ⟨by rw [HE.out]; rfl, below_drewN HB2.out _⟩
          · have h1' := h1
            simp only [not_or] at h1'
            obtain ⟨e0, e1, e2, e3, e4⟩ := h1'
            obtain ⟨et, het⟩ : ∃ et, tagsE x.tags = et := ⟨_, rfl⟩
            have HT := Lib.hid (show diskE g k x = et by unfold diskE; rw [if_neg (by rw [hv]; simp), if_neg (by rw [hq]; simp), if_neg h1]; exact het)
            have wm : IntKind.i64.wrap (x.ext * g.extent) = x.ext * g.extent := IntWalk.i64_in _ (mul_in (by omega) (by omega) he.1 he.2)
            have wa : IntKind.i64.wrap (x.first + x.ext * g.extent) = x.first + x.ext * g.extent := IntWalk.i64_in _ (sum_in (by omega) (by omega) (by omega) (by omega) he.1 he.2)
            rw [het] at HTG
            clear hv hq h1
            go_wp2_with fail
            go_quiet (fail)
            obtain ⟨d0, d1, d2, d3, d4, d5, d6⟩ := seven (HN2.out _ (below_drewN (Below.refl _ _) nq))
            go_wp2_with fail
            refine (HTG.out _ (below_drewN HR2.out _)).mono ?_
            rintro e w4 ⟨rfl, hb4⟩
            have HB4 := Lib.hid ((below_drewN HB2.out _).next hb4)
            obtain ⟨d0, d1, d2, d3, d4, d5, d6⟩ := seven (HN2.out _ ((below_drewN (Below.refl _ _) nq).next hb4))
            clear hb4
            by_cases h0 : et = 0
            · subst h0
              have HS := Lib.hid (all_next (P := fun j x => diskE g j x = 0) HA.out HX.out HT.out)
              go_wp2_with fail
              go_roundw
              case rel => exact ⟨k + 1, by omega, by go_num, HS.out, HB4.out⟩
              case measure => simp [intOf]; omega
            · have HE := Lib.hid (show disksE g = (x.name, et) from firstE_bad0 HA.out HX.out HT.out h0)
              have q : (et != 0) = true := by simp [h0]
              clear h0
              go_wp2_with fail
              go_ret2
              exact ⟨by rw [HE.out]; rfl, HB4.out⟩
    · obtain rfl : k = g.disks.length := by omega
      have HE := Lib.hid (show disksE g = (⟨#[]⟩, 0) from firstE_ok0 HA.out)
      go_wp2_with fail
      go_ret2
      exact ⟨by rw [HE.out]; rfl, HB.out⟩
end Go.Proofs.YtdkcfgahdcpkkaaDoor
