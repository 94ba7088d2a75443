/- What Size of the program and of the reference return. -/
import Derived.Test.YtbpdliddeakedaaPlace
import Derived.Test.YtbpdliddeakedaaXor
namespace Go.Proofs.Ytbpdliddeakedaa
open Go.RowKit

def I (l : List Int) : List Value := l.map (Value.int .i64)
theorem I_get (l : List Int) (k : Nat) (u : Value) (h : (I l)[k]? = some u) : u = .int .i64 (l.getD k 0) := by
  simp [I] at h
  obtain ⟨a, h1, h2⟩ := h
  simp [h1, ← h2]

def SomeIx (b : Bool) (w : World) (e : Ending) (w' : World) : Prop := ∃ r : Int, decide (0 ≤ r) = b ∧ e = .returned (.int .i64 r) ∧ w = w'

theorem all_take (l : List Int) (k : Nat) (h : k < l.length) : (l.take (k + 1)).all secB = ((l.take k).all secB && secB (l.getD k 0)) := by
  rw [take_next l k h]
  simp
theorem not_all (l : List Int) (k : Nat) (h : k < l.length) (hs : secB (l.getD k 0) = false) : l.all secB = false := by
  rw [List.all_eq_false]
  exact ⟨l[k], List.getElem_mem h, by simpa [h] using hs⟩

set_option maxHeartbeats 400000 in
theorem size1_any (a : Int) (w : World) : Calls Try.prog 26 #[.int .i64 a] w fun e w' => e = .returned (.bool (!secB a)) ∧ w = w' := by
  go_enter Try.func26, Try.ntmps26
  go_wp2_with (go_at_call 22; refine (sector_any _ _).mono ?_; rintro e w' ⟨rfl, rfl⟩)
  go_ret
  exact ⟨rfl, rfl⟩

set_option maxHeartbeats 400000 in
theorem index_any (A : Option Addr) (n c : Nat) (l : List Int) (w : World) (B : Nat) (hn : n ≤ maxLen) (h : Reads w B 1 A n (I l)) :
    Calls Try.prog 28 #[.slice A n c, .func (.func 26) #[] #[]] w (SomeIx (!l.all secB) w) := by
  unfold maxLen at hn
  have hl : l.length = n := by simpa [I] using h.1
  have HL := Lib.hid hl
  clear hl
  go_enter Try.func28, Try.ntmps28
  go_wp2_with fail
  go_loop [8] (fun i => ∃ k : Nat, k ≤ n ∧ i = .int .i64 k ∧ (l.take k).all secB = true) (fun i => n - (intOf i).toNat)
  case atStart => exact ⟨0, Nat.zero_le _, rfl, rfl⟩
  case round =>
    obtain ⟨k, hk, rfl, hall⟩ := hrel
    by_cases hlt : k < n
    · obtain ⟨ad, u, rfl, _, hx, hc⟩ := h.at_ hlt
      obtain rfl := I_get _ _ _ hx
      have HS := Lib.hid (all_take l k (by have := HL.out; omega))
      have HN := Lib.hid (not_all l k (by have := HL.out; omega))
      have HA := Lib.hid hall
      clear h hx hall
      generalize l.getD k 0 = z at hc HS HN
      by_cases hs : secB z = true
      · go_wp2_with (go_at_call 26; refine (size1_any _ _).mono ?_; rintro e w' ⟨rfl, rfl⟩)
        go_round
        case rel => exact ⟨k + 1, by omega, by go_num, by rw [HS.out, HA.out, hs]; rfl⟩
        case measure => simp [intOf]; omega
      · have hs' : secB z = false := by simpa using hs
        clear hs
        go_wp2_with (go_at_call 26; refine (size1_any _ _).mono ?_; rintro e w' ⟨rfl, rfl⟩)
        go_ret
        exact ⟨k, by rw [HN.out hs']; simp, rfl, rfl⟩
    · have HA := Lib.hid hall
      clear hall
      go_wp2_with fail
      go_ret
      refine ⟨-1, ?_, rfl, rfl⟩
      have := HA.out
      rw [List.take_of_length_le (by have := HL.out; omega)] at this
      rw [this]
      rfl

set_option maxHeartbeats 400000 in
theorem contains_any (A : Option Addr) (n c : Nat) (l : List Int) (w : World) (B : Nat) (hn : n ≤ maxLen) (h : Reads w B 1 A n (I l)) :
    Calls Try.prog 25 #[.slice A n c, .func (.func 26) #[] #[]] w fun e w' => e = .returned (.bool (!l.all secB)) ∧ w = w' := by
  go_enter Try.func25, Try.ntmps25
  go_wp2_with fail
  refine (index_any A n c l _ B hn h).mono ?_
  rintro e w' ⟨r, hr, rfl, rfl⟩
  have HR := Lib.hid hr
  clear hr
  go_wp2_with fail
  go_ret
  exact ⟨by rw [← HR.out]; rfl, rfl⟩

def lmin (l : List Int) : Int := l.foldl min 1073741824
theorem lmin_snoc (l : List Int) (z : Int) : lmin (l ++ [z]) = min (lmin l) z := by simp [lmin]
theorem lmin_take (l : List Int) (k : Nat) (h : k < l.length) : lmin (l.take (k + 1)) = min (lmin (l.take k)) (l.getD k 0) := by rw [take_next l k h, lmin_snoc]
theorem sec_at (l : List Int) (k : Nat) (h : k < l.length) (ha : l.all secB = true) : 0 ≤ l.getD k 0 ∧ l.getD k 0 ≤ 1073741824 := by
  rw [← secB_iff]
  have := List.all_eq_true.1 ha l[k] (List.getElem_mem h)
  simpa [h] using this
theorem lmin_le (l : List Int) : lmin l ≤ 1073741824 := by
  have : ∀ (l : List Int) (a : Int), l.foldl min a ≤ a := by
    intro l
    induction l with
    | nil => intro a; simp
    | cons x l ih => intro a; simp only [List.foldl_cons]; have := ih (min a x); omega
  exact this l _
theorem lmin_nonneg (l : List Int) (ha : l.all secB = true) : 0 ≤ lmin l := by
  have : ∀ (l : List Int) (a : Int), 0 ≤ a → (∀ z ∈ l, 0 ≤ z) → 0 ≤ l.foldl min a := by
    intro l
    induction l with
    | nil => intro a h _; simpa
    | cons x l ih =>
      intro a h hz
      simp only [List.foldl_cons]
      have := hz x (by simp)
      exact ih _ (by omega) (fun z hzz => hz z (by simp [hzz]))
  exact this l _ (by omega) (fun z hz => ((secB_iff z).1 (List.all_eq_true.1 ha z hz)).1)

set_option maxHeartbeats 400000 in
theorem min_any (A : Option Addr) (n c : Nat) (l : List Int) (w : World) (B : Nat) (hn : n ≤ maxLen) (h0 : 1 ≤ n) (ha : l.all secB = true) (h : Reads w B 1 A n (I l)) :
    Calls Try.prog 27 #[.slice A n c] w fun e w' => e = .returned (.int .i64 (lmin l)) ∧ w = w' := by
  unfold maxLen at hn
  have hl : l.length = n := by simpa [I] using h.1
  have HL := Lib.hid hl
  clear hl
  obtain ⟨ad, u, rfl, _, hx, hc⟩ := h.at_ (k := 0) (by omega)
  obtain rfl := I_get _ _ _ hx
  have hi := sec_at l 0 (by have := HL.out; omega) ha
  have hm0 : lmin (l.take 1) = l.getD 0 0 := by
    rw [show (1 : Nat) = 0 + 1 from rfl, lmin_take l 0 (by have := HL.out; omega)]
    simp only [lmin, List.take_zero, List.foldl_nil]
    omega
  have HM := Lib.hid hm0
  have HA := Lib.hid ha
  have H := Lib.hid h
  clear hm0 ha hx h
  generalize l.getD 0 0 = z at hc HM hi
  have hc' : w.cell? ad = some (.int .i64 z) := by simpa [Addr.add] using hc
  clear hc
  have hz : ((n : Int) < 1) = False := by simp; omega
  have hp : (0 : Int) < (n : Int) := by omega
  go_enter Try.func27, Try.ntmps27
  go_wp2_with fail
  go_loop [3, 4] (fun m i => ∃ k : Nat, 1 ≤ k ∧ k ≤ n ∧ i = .int .i64 k ∧ m = .int .i64 (lmin (l.take k))) (fun _ i => n - (intOf i).toNat)
  case atStart => exact ⟨1, by omega, by omega, rfl, by rw [HM.out]⟩
  case round =>
    obtain ⟨k, hk1, hk, rfl, rfl⟩ := hrel
    by_cases hlt : k < n
    · obtain ⟨ad', u, ha', _, hx, hck⟩ := H.out.at_ hlt
      injection ha' with ha'
      subst ha'
      obtain rfl := I_get _ _ _ hx
      have HS := Lib.hid (lmin_take l k (by have := HL.out; omega))
      clear hx
      generalize l.getD k 0 = y at hck HS
      go_wp2_with fail
      all_goals
        go_round
        case rel => exact ⟨k + 1, by omega, by omega, by go_num, by rw [HS.out]; congr 1; omega⟩
        case measure => simp [intOf]; omega
    · go_wp2_with fail
      go_ret
      exact ⟨ret_int (by rw [List.take_of_length_le (by have := HL.out; omega)]), rfl⟩

def sizeB (chunk : Int) (l : List Int) : Bool := okB chunk l.length && l.all secB
def sizeV (chunk : Int) (l : List Int) : Value :=
  if sizeB chunk l then .tuple #[.int .i64 (((l.length : Int) - 1) * (lmin l / chunk * chunk)), .int .i64 0] else .tuple #[.int .i64 0, .int .i64 1]

theorem size_facts (chunk : Int) (l : List Int) (hok : okB chunk l.length = true) (ha : l.all secB = true) :
    0 ≤ lmin l ∧ lmin l ≤ 1073741824 ∧ 0 ≤ lmin l / chunk ∧ lmin l / chunk ≤ 1073741824 ∧ 0 ≤ lmin l / chunk * chunk ∧ lmin l / chunk * chunk ≤ 1073741824 ∧
    0 ≤ ((l.length : Int) - 1) * (lmin l / chunk * chunk) ∧ ((l.length : Int) - 1) * (lmin l / chunk * chunk) ≤ 5368709120 := by
  obtain ⟨h1, h2, h3, h4⟩ := (okB_iff _ _).1 hok
  have a1 := lmin_nonneg l ha
  have a2 := lmin_le l
  have a3 : 0 ≤ lmin l / chunk := Int.ediv_nonneg a1 (by omega)
  have a4 : lmin l / chunk ≤ lmin l := Int.ediv_le_self _ a1
  have a5 : 0 ≤ lmin l / chunk * chunk := Int.mul_nonneg a3 (by omega)
  have a6 : lmin l / chunk * chunk ≤ lmin l := Int.ediv_mul_le _ (by omega)
  have a7 : ((l.length : Int) - 1) * (lmin l / chunk * chunk) ≤ 5 * 1073741824 := Int.mul_le_mul (by omega) (by omega) a5 (by omega)
  exact ⟨a1, a2, a3, by omega, a5, by omega, Int.mul_nonneg (by omega) a5, by omega⟩

set_option maxHeartbeats 1000000 in
theorem size_any (chunk : Int) (A : Option Addr) (n c : Nat) (l : List Int) (w : World) (hn : n ≤ maxLen) (h : Reads w w.heap.size 1 A n (I l)) :
    Calls Try.prog 17 #[.int .i64 chunk, .slice A n c] w (Ret (sizeV chunk l) w) := by
  have hn' := hn
  unfold maxLen at hn'
  have hl : l.length = n := by simpa [I] using h.1
  by_cases hok : okB chunk n = true
  · have hok1 : okB chunk l.length = true := by rw [hl]; exact hok
    obtain ⟨h1, h2, h3, h4⟩ := (okB_iff _ _).1 hok
    by_cases ha : l.all secB = true
    · obtain ⟨a1, a2, a3, a4, a5, a6, a7, a8⟩ := size_facts chunk l hok1 ha
      have H := Lib.hid (show sizeV chunk l = .tuple #[.int .i64 (((l.length : Int) - 1) * (lmin l / chunk * chunk)), .int .i64 0] by simp [sizeV, sizeB, hok1, ha])
      rw [hl] at H a7 a8
      have HR := Lib.hid h
      have HA := Lib.hid ha
      clear h ha hl hok1
      go_enter Try.func17, Try.ntmps17
      go_wp2_with fail
      refine (layout_any _ _ _).mono ?_
      rintro e w1 ⟨rfl, hb1⟩
      go_wp2_with fail
      refine (contains_any A n c l _ _ hn ((HR.out.below hb1).alloc hb1.size _)).mono ?_
      rintro e w2 ⟨rfl, rfl⟩
      rw [HA.out]
      go_wp2_with fail
      go_quiet ((go_at_call 27; exact quiet_left (min_any A n c l _ w.heap.size hn (by omega) HA.out (((HR.out.below hb1).alloc hb1.size _).drewN _))))
      go_wp2_with fail
      go_ret2
      rw [H.out]
      exact ⟨rfl, below_drewN (hb1.al _) _⟩
    · have ha' : l.all secB = false := by simpa using ha
      have H := Lib.hid (show sizeV chunk l = .tuple #[.int .i64 0, .int .i64 1] by simp [sizeV, sizeB, ha'])
      have HR := Lib.hid h
      have HA := Lib.hid ha'
      clear h ha ha' hl hok1
      go_enter Try.func17, Try.ntmps17
      go_wp2_with fail
      refine (layout_any _ _ _).mono ?_
      rintro e w1 ⟨rfl, hb1⟩
      go_wp2_with fail
      refine (contains_any A n c l _ _ hn ((HR.out.below hb1).alloc hb1.size _)).mono ?_
      rintro e w2 ⟨rfl, rfl⟩
      rw [HA.out]
      go_wp2_with fail
      go_ret2
      rw [H.out]
      exact ⟨rfl, hb1.al _⟩
  · have hok' : okB chunk n = false := by simpa using hok
    have hok1 : okB chunk l.length = false := by rw [hl]; exact hok'
    have H := Lib.hid (show sizeV chunk l = .tuple #[.int .i64 0, .int .i64 1] by simp [sizeV, sizeB, hok1])
    clear h hl hok1 hok
    go_enter Try.func17, Try.ntmps17
    go_wp2_with fail
    refine (layout_any _ _ _).mono ?_
    rintro e w1 ⟨rfl, hb1⟩
    go_wp2_with fail
    go_ret2
    rw [H.out]
    exact ⟨rfl, hb1.al _⟩

set_option maxHeartbeats 1000000 in
theorem size_ref (chunk : Int) (A : Option Addr) (n c : Nat) (l : List Int) (w : World) (hn : n ≤ maxLen) (h : Reads w w.heap.size 1 A n (I l)) :
    Calls Try.prog 18 #[.int .i64 chunk, .slice A n c] w (Ret (sizeV chunk l) w) := by
  have hn' := hn
  unfold maxLen at hn'
  have hl : l.length = n := by simpa [I] using h.1
  by_cases hok : okB chunk n = true
  · have hok1 : okB chunk l.length = true := by rw [hl]; exact hok
    obtain ⟨h1, h2, h3, h4⟩ := (okB_iff _ _).1 hok
    have HL := Lib.hid hl
    have HR := Lib.hid h
    have HO := Lib.hid hok1
    clear h hl hok1
    go_enter Try.func18, Try.ntmps18
    go_wp2_with (go_at_call 24; refine (fits_any _ _ _).mono ?_; rintro e w2 ⟨rfl, rfl⟩)
    go_loop [6, 7] (fun m i => ∃ k : Nat, k ≤ n ∧ i = .int .i64 k ∧ m = .int .i64 (lmin (l.take k)) ∧ (l.take k).all secB = true) (fun _ i => n - (intOf i).toNat)
    case atStart => exact ⟨0, Nat.zero_le _, rfl, rfl, rfl⟩
    case round =>
      obtain ⟨k, hk, rfl, rfl, hall⟩ := hrel
      by_cases hlt : k < n
      · obtain ⟨ad, u, rfl, _, hx, hck⟩ := HR.out.at_ hlt
        obtain rfl := I_get _ _ _ hx
        have HS := Lib.hid (all_take l k (by have := HL.out; omega))
        have HN := Lib.hid (not_all l k (by have := HL.out; omega))
        have HM := Lib.hid (lmin_take l k (by have := HL.out; omega))
        have HA := Lib.hid hall
        clear hx hall
        generalize l.getD k 0 = z at hck HS HN HM
        by_cases hs : secB z = true
        · obtain ⟨z1, z2⟩ := (secB_iff z).1 hs
          have z3 : ¬ z < 0 := by omega
          have z4 : ¬ 1073741824 < z := by omega
          go_wp2_with fail
          all_goals
            go_round
            case rel => exact ⟨k + 1, by omega, by go_num, by rw [HM.out]; congr 1; omega, by rw [HS.out, HA.out, hs]; rfl⟩
            case measure => simp [intOf]; omega
        · have hs' : secB z = false := by simpa using hs
          have H := Lib.hid (show sizeV chunk l = .tuple #[.int .i64 0, .int .i64 1] by simp [sizeV, sizeB, HN.out hs'])
          have hz : z < 0 ∨ 1073741824 < z := by
            rcases Int.lt_or_le z 0 with h0 | h0
            · exact .inl h0
            · exact .inr (Int.lt_of_not_ge fun hg => hs ((secB_iff z).2 ⟨h0, hg⟩))
          clear hs hs'
          by_cases hz0 : z < 0
          all_goals
            go_wp2_with fail
            go_ret2
            rw [H.out]
            exact ⟨rfl, Below.refl _ _⟩
      · have hk' : l.take k = l := List.take_of_length_le (by have := HL.out; omega)
        rw [hk'] at hall
        rw [hk']
        obtain ⟨a1, a2, a3, a4, a5, a6, a7, a8⟩ := size_facts chunk l HO.out hall
        have H := Lib.hid (show sizeV chunk l = .tuple #[.int .i64 (((l.length : Int) - 1) * (lmin l / chunk * chunk)), .int .i64 0] by simp [sizeV, sizeB, HO.out, hall])
        rw [HL.out] at H a7 a8
        clear hk' hall
        go_wp2_with fail
        go_ret2
        rw [H.out]
        exact ⟨rfl, Below.refl _ _⟩
  · have hok' : okB chunk n = false := by simpa using hok
    have hok1 : okB chunk l.length = false := by rw [hl]; exact hok'
    have H := Lib.hid (show sizeV chunk l = .tuple #[.int .i64 0, .int .i64 1] by simp [sizeV, sizeB, hok1])
    clear h hl hok1 hok
    go_enter Try.func18, Try.ntmps18
    go_wp2_with (go_at_call 24; refine (fits_any _ _ _).mono ?_; rintro e w2 ⟨rfl, rfl⟩)
    go_ret2
    rw [H.out]
    exact ⟨rfl, Below.refl _ _⟩
end Go.Proofs.Ytbpdliddeakedaa
