/- A change of bits within 32 bits that follow one another is found: plain mathematics. -/
import Derived.Test.YtialblddcgdlkaaPlain
namespace Go.Proofs.Ytialblddcgdlkaa

def bv (b : Bool) : W32 := if b then 1#32 else 0#32
/-- the register behind n bits of a stream -/
def rn (f : Nat → Bool) : Nat → W32 → W32
  | 0, x => x
  | n + 1, x => st (rn f n x ^^^ bv (f n))

theorem rn_congr (f g : Nat → Bool) (n : Nat) (x : W32) (h : ∀ i, i < n → f i = g i) : rn f n x = rn g n x := by
  induction n with
  | zero => rfl
  | succ n ih => rw [rn, rn, ih (fun i hi => h i (by omega)), h n (by omega)]
theorem rn_add (f : Nat → Bool) (m n : Nat) (x : W32) : rn f (m + n) x = rn (fun i => f (m + i)) n (rn f m x) := by
  induction n with
  | zero => rfl
  | succ n ih => rw [← Nat.add_assoc, rn, rn, ih]
theorem bv_xor (a b : Bool) : bv (a ^^ b) = bv a ^^^ bv b := by cases a <;> cases b <;> rfl
theorem rn_xor (f g : Nat → Bool) (n : Nat) (x y : W32) : rn (fun i => f i ^^ g i) n (x ^^^ y) = rn f n x ^^^ rn g n y := by
  induction n with
  | zero => rfl
  | succ n ih => rw [rn, rn, rn, ih, bv_xor, xor4, st_xor]
theorem rn_false (n : Nat) (x : W32) : rn (fun _ => false) n x = sts n x := by
  induction n with
  | zero => rfl
  | succ n ih => rw [rn, ih, sts_succ', show bv false = 0#32 from rfl, BitVec.xor_zero]

/-- the k low bits -/
def low (y : W32) (k : Nat) : W32 := BitVec.ofNat 32 (y.toNat % 2 ^ k)
theorem low_get (y : W32) (k i : Nat) : (low y k).getLsbD i = (decide (i < k) && y.getLsbD i) := by
  unfold low
  rw [BitVec.getLsbD_ofNat, Nat.testBit_mod_two_pow]
  by_cases h : i < 32
  · simp [h, BitVec.getLsbD]
  · simp [h, BitVec.getLsbD_of_ge y i (by omega)]
theorem low_succ (y : W32) (k : Nat) : low y (k + 1) = low y k ^^^ (bv (y.getLsbD k) <<< k) := by
  apply BitVec.eq_of_getLsbD_eq
  intro i hi
  rw [low_get, BitVec.getLsbD_xor, low_get, BitVec.getLsbD_shiftLeft]
  by_cases h1 : i < k
  · simp [h1, show i < k + 1 by omega, hi]
  · by_cases h2 : i = k
    · subst h2
      cases hb : y.getLsbD i <;> simp [bv, hi]
    · have : (bv (y.getLsbD k)).getLsbD (i - k) = false := by
        cases y.getLsbD k
        · simp [bv]
        · simp [bv]; omega
      simp [h1, show ¬ i < k + 1 by omega, this]
theorem sts_shift (b : Bool) (k : Nat) (h : k < 32) : sts k (bv b <<< k) = bv b := by
  rw [sts_high]
  · apply BitVec.eq_of_getLsbD_eq
    intro i hi
    simp only [BitVec.getLsbD_ushiftRight, BitVec.getLsbD_shiftLeft]
    by_cases h2 : k + i < 32
    · simp [h2]
    · have : (bv b).getLsbD i = false := by
        cases b
        · simp [bv]
        · simp [bv]; omega
      simp [h2, this]
  · intro i hi
    simp [BitVec.getLsbD_shiftLeft, hi]
theorem rn_low (y : W32) (k : Nat) (h : k ≤ 32) (x : W32) : rn (fun i => y.getLsbD i) k x = sts k (x ^^^ low y k) := by
  induction k with
  | zero => simp [rn, sts, low, Nat.mod_one]
  | succ k ih =>
    rw [rn, ih (by omega), low_succ, ← BitVec.xor_assoc, sts_xor (k + 1) (x ^^^ low y k), sts_succ', sts_succ', sts_shift _ k (by omega), st_xor]
theorem low_all (y : W32) : low y 32 = y := by
  apply BitVec.eq_of_getLsbD_eq
  intro i hi
  rw [low_get]
  simp [hi]

/-- a byte is eight bits of the stream -/
theorem fd_rn (x : W32) (b : BitVec 8) : fd x b = rn (fun i => b.getLsbD i) 8 x := by
  have h := rn_low (b.zeroExtend 32) 8 (by omega) x
  have e : low (b.zeroExtend 32) 8 = b.zeroExtend 32 := by
    apply BitVec.eq_of_getLsbD_eq
    intro i hi
    rw [low_get]
    by_cases h : i < 8
    · simp [h]
    · simp [h, BitVec.getLsbD_of_ge b i (by omega)]
  rw [e] at h
  rw [fd, ← h]
  refine rn_congr _ _ _ _ fun i hi => ?_
  simp
  omega

/-- the bits of words -/
def bitsOf (ws : List (BitVec 64)) (j : Nat) : Bool := (ws.getD (j / 64) 0#64).getLsbD (j % 64)

theorem word_rn (x : W32) (v : BitVec 64) (k : Nat) (h : k ≤ 8) : ((List.range k).map (byt v)).foldl fd x = rn (fun i => v.getLsbD i) (8 * k) x := by
  induction k with
  | zero => rfl
  | succ k ih =>
    rw [range_next, ih (by omega), fd_rn, Nat.mul_succ, rn_add]
    refine rn_congr _ _ _ _ fun i hi => ?_
    simp [byt, BitVec.getLsbD_ushiftRight, hi]

theorem fold_rn (ws : List (BitVec 64)) (x : W32) : (ws.flatMap byts).foldl fd x = rn (bitsOf ws) (64 * ws.length) x := by
  induction ws generalizing x with
  | nil => rfl
  | cons v ws ih =>
    rw [List.flatMap_cons, List.foldl_append, ih, List.length_cons, Nat.mul_succ, Nat.add_comm, rn_add]
    have e1 : (byts v).foldl fd x = rn (bitsOf (v :: ws)) 64 x := by
      rw [byts, word_rn x v 8 (by omega)]
      refine rn_congr _ _ _ _ fun i hi => ?_
      unfold bitsOf
      rw [Nat.div_eq_of_lt hi, Nat.mod_eq_of_lt hi]
      rfl
    rw [e1]
    refine rn_congr _ _ _ _ fun i hi => ?_
    unfold bitsOf
    have d1 : (64 + i) / 64 = i / 64 + 1 := by omega
    have d2 : (64 + i) % 64 = i % 64 := by omega
    rw [d1, d2]
    rfl

/-- the burst at bit k of the stream -/
def burst (b : W32) (k j : Nat) : Bool := decide (k ≤ j) && b.getLsbD (j - k)

theorem burst_found (b : W32) (k n : Nat) (hk : k < n) (h : rn (burst b k) n 0#32 = 0#32) : ∀ j, j < n → burst b k j = false := by
  obtain ⟨r, rfl⟩ : ∃ r, n = k + r := ⟨n - k, by omega⟩
  rw [rn_add] at h
  have e0 : rn (burst b k) k 0#32 = 0#32 := by
    rw [rn_congr (burst b k) (fun _ => false) k 0#32 (fun i hi => by simp [burst]; omega), rn_false, sts_zero]
  have e1 : rn (fun i => burst b k (k + i)) r 0#32 = rn (fun i => b.getLsbD i) r 0#32 := rn_congr _ _ _ _ fun i hi => by simp [burst]
  rw [e0, e1] at h
  have hz : low b r = 0#32 := by
    by_cases hr : r ≤ 32
    · rw [rn_low b r hr, BitVec.zero_xor] at h
      exact sts_ne _ _ h
    · obtain ⟨t, rfl⟩ : ∃ t, r = 32 + t := ⟨r - 32, by omega⟩
      rw [rn_add, rn_low b 32 (by omega), BitVec.zero_xor, low_all,
        rn_congr (fun i => b.getLsbD (32 + i)) (fun _ => false) t _ (fun i hi => BitVec.getLsbD_of_ge b _ (by omega)), rn_false] at h
      have := sts_ne _ _ (sts_ne _ _ h)
      subst this
      simp [low]
  intro j hj
  unfold burst
  by_cases hkj : k ≤ j
  · have := low_get b r (j - k)
    rw [hz] at this
    simp at this
    have h2 := this (by omega)
    simp [h2]
  · simp [hkj]

theorem sum_eq_iff (us ws : List (BitVec 64)) (hl : us.length = ws.length) (b : W32) (k : Nat) (hk : k < 64 * ws.length)
    (hb : ∀ j, j < 64 * ws.length → (bitsOf us j ^^ bitsOf ws j) = burst b k j) : extW 0#32 us = extW 0#32 ws ↔ us = ws := by
  constructor
  · intro h
    have h2 : rn (bitsOf us) (64 * ws.length) (nt 0#32) = rn (bitsOf ws) (64 * ws.length) (nt 0#32) := by
      unfold extW at h
      have := congrArg nt h
      rw [nt_nt, nt_nt, fold_rn, fold_rn, hl] at this
      exact this
    have h3 : rn (burst b k) (64 * ws.length) 0#32 = 0#32 := by
      have := rn_xor (bitsOf us) (bitsOf ws) (64 * ws.length) (nt 0#32) (nt 0#32)
      rw [h2, BitVec.xor_self, BitVec.xor_self] at this
      exact (rn_congr _ _ _ _ hb).symm.trans this
    have h4 := burst_found b k _ hk h3
    apply List.ext_getElem hl
    intro i h1 h2'
    apply BitVec.eq_of_getLsbD_eq
    intro t ht
    have h5 := hb (64 * i + t) (by omega)
    rw [h4 _ (by omega)] at h5
    unfold bitsOf at h5
    have d1 : (64 * i + t) / 64 = i := by omega
    have d2 : (64 * i + t) % 64 = t := by omega
    rw [d1, d2, List.getD_eq_getElem?_getD, List.getD_eq_getElem?_getD, List.getElem?_eq_getElem h1, List.getElem?_eq_getElem h2'] at h5
    simpa using h5
  · intro h
    rw [h]
/-- the first changed word, the second one -/
def bw1 (b : W32) (s : Nat) : BitVec 64 := b.zeroExtend 64 <<< s
def bw2 (b : W32) (s : Nat) : BitVec 64 := b.zeroExtend 64 >>> (64 - s)
def one (ws : List (BitVec 64)) (i s : Nat) (b : W32) : List (BitVec 64) := ws.set i (ws.getD i 0#64 ^^^ bw1 b s)
def two (ws : List (BitVec 64)) (i s : Nat) (b : W32) : List (BitVec 64) := (one ws i s b).set (i + 1) ((one ws i s b).getD (i + 1) 0#64 ^^^ bw2 b s)

theorem get_set (ws : List (BitVec 64)) (i q : Nat) (v : BitVec 64) (h : i < ws.length) : (ws.set i v).getD q 0#64 = if q = i then v else ws.getD q 0#64 := by
  rw [List.getD_eq_getElem?_getD, List.getElem?_set]
  by_cases e : i = q
  · subst e; simp [h]
  · simp [e, show ¬ q = i from fun h => e h.symm]
theorem bw1_get (b : W32) (s t : Nat) (ht : t < 64) : (bw1 b s).getLsbD t = (decide (s ≤ t) && b.getLsbD (t - s)) := by
  unfold bw1
  rw [BitVec.getLsbD_shiftLeft]
  by_cases h : t < s
  · simp [h, show ¬ s ≤ t by omega]
  · simp [h, ht, show s ≤ t by omega]
    omega
theorem bw2_get (b : W32) (s t : Nat) : (bw2 b s).getLsbD t = (decide (64 - s + t < 64) && b.getLsbD (64 - s + t)) := by
  unfold bw2
  rw [BitVec.getLsbD_ushiftRight]
  simp
theorem one_bits (ws : List (BitVec 64)) (i s : Nat) (b : W32) (hi : i < ws.length) (hs : s < 64) (hc : s ≤ 32 ∨ ¬ i + 1 < ws.length) (j : Nat) (hj : j < 64 * ws.length) :
    (bitsOf (one ws i s b) j ^^ bitsOf ws j) = burst b (64 * i + s) j := by
  unfold bitsOf one burst
  rw [get_set ws i _ _ hi]
  by_cases e : j / 64 = i
  · rw [if_pos e, e, BitVec.getLsbD_xor, bw1_get b s (j % 64) (by omega)]
    rw [show (decide (64 * i + s ≤ j)) = decide (s ≤ j % 64) from by congr 1; rw [eq_iff_iff]; omega, show j - (64 * i + s) = j % 64 - s by omega]
    cases (ws.getD i 0#64).getLsbD (j % 64) <;> simp
  · rw [if_neg e]
    simp only [bne_self_eq_false, Bool.xor_self]
    by_cases h : 64 * i + s ≤ j
    · rw [BitVec.getLsbD_of_ge b _ (by omega)]
      simp
    · simp [h]
theorem two_bits (ws : List (BitVec 64)) (i s : Nat) (b : W32) (hi : i + 1 < ws.length) (hs : s < 64) (hc : 32 < s) (j : Nat) :
    (bitsOf (two ws i s b) j ^^ bitsOf ws j) = burst b (64 * i + s) j := by
  have hl : (one ws i s b).length = ws.length := by simp [one]
  unfold bitsOf two burst
  rw [get_set _ (i + 1) _ _ (by rw [hl]; exact hi)]
  unfold one
  rw [get_set ws i _ _ (by omega), get_set ws i _ _ (by omega)]
  by_cases e1 : j / 64 = i + 1
  · rw [if_pos e1, e1, if_neg (by omega), BitVec.getLsbD_xor, bw2_get]
    rw [show (decide (64 * i + s ≤ j)) = true from by simp; omega, show j - (64 * i + s) = 64 - s + j % 64 by omega]
    by_cases h2 : 64 - s + j % 64 < 64
    · cases (ws.getD (i + 1) 0#64).getLsbD (j % 64) <;> simp [h2]
    · rw [BitVec.getLsbD_of_ge b _ (by omega)]
      cases (ws.getD (i + 1) 0#64).getLsbD (j % 64) <;> simp
  · rw [if_neg e1]
    by_cases e : j / 64 = i
    · rw [if_pos e, e, BitVec.getLsbD_xor, bw1_get b s (j % 64) (by omega)]
      rw [show (decide (64 * i + s ≤ j)) = decide (s ≤ j % 64) from by congr 1; rw [eq_iff_iff]; omega, show j - (64 * i + s) = j % 64 - s by omega]
      cases (ws.getD i 0#64).getLsbD (j % 64) <;> simp
    · rw [if_neg e]
      simp only [Bool.xor_self]
      by_cases h : 64 * i + s ≤ j
      · rw [BitVec.getLsbD_of_ge b _ (by omega)]
        simp
      · simp [h]
end Go.Proofs.Ytialblddcgdlkaa
