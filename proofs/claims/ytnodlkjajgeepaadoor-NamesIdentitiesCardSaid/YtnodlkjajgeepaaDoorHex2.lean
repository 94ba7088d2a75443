/- Hexadecimal texts: Hex of the program and of the reference, and that it is read back. -/
import Derived.Test.YtnodlkjajgeepaaDoorHex
import Derived.Test.YtnodlkjajgeepaaDoorPlain
import Derived.Laws.BytesString
namespace Go.Proofs.YtnodlkjajgeepaaDoor
open Go.RowKit

def digC (d : Nat) : UInt8 := digS.data.toList.getD d 0
def hexL (id k : Nat) : List UInt8 := (List.range k).map fun i => digC (id / 16 ^ (15 - i) % 16)
def hexP (id k : Nat) : ByteArray := ⟨(hexL id k).toArray⟩
def hexS (id : Nat) : ByteArray := hexP id 16
theorem hexL_len (id k : Nat) : (hexL id k).length = k := by simp [hexL]
theorem hexL_succ (id k : Nat) : hexL id (k + 1) = hexL id k ++ [digC (id / 16 ^ (15 - k) % 16)] := by simp [hexL, List.range_succ]
theorem hexP_size (id k : Nat) : (hexP id k).size = k := by
  rw [Lib.size_eq]
  exact hexL_len id k
theorem nib (id k : Nat) (hid : id < 18446744073709551616) (hk : k < 16) : bits .and .u64 ((id : Int) / 2 ^ (60 - 4 * k)) 15 = ((id / 16 ^ (15 - k) % 16 : Nat) : Int) := by
  have e : (2 : Nat) ^ (60 - 4 * k) = 16 ^ (15 - k) := by
    rw [show (16 : Nat) = 2 ^ 4 from rfl, ← Nat.pow_mul]
    congr 1
    omega
  have e2 : ((id : Int) / 2 ^ (60 - 4 * k)) = ((id / 16 ^ (15 - k) : Nat) : Int) := by
    rw [← e]
    simp
  rw [e2]
  have hl : id / 16 ^ (15 - k) < 18446744073709551616 := Nat.lt_of_le_of_lt (Nat.div_le_self _ _) hid
  generalize id / 16 ^ (15 - k) = z at hl
  have := bits_mask .u64 64 (by decide) (fun n h0 h1 => IntWalk.u64_in n (by omega)) 4 (by omega) (z : Int) (by omega) (by omega)
  rw [show ((2 : Int) ^ 4 - 1) = 15 from rfl] at this
  rw [this]
  simp
theorem dig_at : ∀ d : Fin 16, ((⟨#[48, 49, 50, 51, 52, 53, 54, 55, 56, 57, 97, 98, 99, 100, 101, 102]⟩ : ByteArray)[d.1]'(d.2)).toNat = (digC d.1).toNat := by decide +kernel
theorem dig_cut : ∀ d : Fin 16, (⟨#[48, 49, 50, 51, 52, 53, 54, 55, 56, 57, 97, 98, 99, 100, 101, 102]⟩ : ByteArray).extract d.1 (d.1 + 1) = ⟨#[digC d.1]⟩ := by decide +kernel

set_option maxRecDepth 100000 in
set_option maxHeartbeats 4000000 in
theorem rhex_any (id : Nat) (w : World) (hid : id < 18446744073709551616) :
    Calls Tryd.prog 25 #[.int .u64 id] w (fun e w' => e = .returned (.string (hexS id)) ∧ w = w') := by
  have HID := Lib.hid hid
  clear hid
  go_enter Tryd.func25, Tryd.ntmps25
  go_wp2_with fail
  go_loop [3, 4] (fun v i => ∃ k : Nat, k ≤ 16 ∧ i = .int .i64 (60 - 4 * (k : Int)) ∧ v = .string (hexP id k)) (fun _ i => (intOf i + 4).toNat)
  case atStart => exact ⟨0, by omega, rfl, rfl⟩
  case round =>
    obtain ⟨k, hk, rfl, rfl⟩ := hrel
    by_cases hlt : k < 16
    · have hn := nib id k HID.out hlt
      have hd : id / 16 ^ (15 - k) % 16 < 16 := Nat.mod_lt _ (by omega)
      have HSUC := Lib.hid (hexL_succ id k)
      have hz := hexP_size id k
      generalize id / 16 ^ (15 - k) % 16 = d at hn hd HSUC
      have hcut := dig_cut ⟨d, hd⟩
      simp only at hcut
      have i0 : 0 ≤ (60 : Int) - 4 * (k : Int) := by omega
      have i2 : (60 : Int) - 4 * (k : Int) = ((60 - 4 * k : Nat) : Int) := by omega
      have i3 : IntKind.u64.wrap ((d : Int) + 1) = (d : Int) + 1 := IntWalk.u64_in _ (by omega)
      have i4 : (d : Int) + 1 ≤ 16 := by omega
      rw [i2] at i0 ⊢
      generalize hm : 60 - 4 * k = m at hn i0 i2 ⊢
      have hmin : min m 64 = m := by omega
      have hm60 : (m : Int) ≤ 60 := by omega
      have HM := Lib.hid hm
      have HI2 := Lib.hid i2
      have i5 : ¬ 9223372036854775807 < k + 1 := by omega
      clear hm i2
      go_wp2_with fail
      exact ⟨⟨k + 1, by omega, by congr 1; have := HI2.out; omega, by
        congr 1
        apply ba_ext
        rw [app_list]
        show hexL id k ++ [digC d] = hexL id (k + 1)
        rw [HSUC.out]⟩, by simp [intOf]; omega⟩
    · obtain rfl : k = 16 := by omega
      go_wp2_with fail
      go_ret
      exact ⟨rfl, rfl⟩

/-- the cells of Hex's array behind k rounds -/
def hexC (id k : Nat) : List Value := (hexL id k).map (fun c => Value.int .u8 (c.toNat : Int)) ++ List.replicate (16 - k) (.int .u8 0)
theorem hexC_len (id k : Nat) (hk : k ≤ 16) : (hexC id k).length = 16 := by simp [hexC, hexL_len]; omega
theorem hexC_set (id k : Nat) (hk : k < 16) (v : Int) (hv : v = ((digC (id / 16 ^ (15 - k) % 16)).toNat : Int)) : (hexC id k).set k (.int .u8 v) = hexC id (k + 1) := by
  unfold hexC
  rw [List.set_append, List.length_map, hexL_len, if_neg (by omega), Nat.sub_self, hexL_succ, show 16 - k = (16 - (k + 1)) + 1 by omega, List.replicate_succ, List.set_cons_zero, hv]
  simp
theorem fold_push (l : List UInt8) (s : ByteArray) : (l.map (fun c => ((c.toNat : Nat) : Int))).foldl (fun r n => r.push (UInt8.ofNat n.toNat)) s = s ++ ⟨l.toArray⟩ := by
  induction l generalizing s with
  | nil =>
    apply ba_ext
    rw [app_list]
    simp
  | cons c l ih =>
    rw [List.map_cons, List.foldl_cons, ih]
    apply ba_ext
    rw [app_list, app_list]
    simp
theorem hex_conv (id g : Nat) (w : World) (t : TypeId) (h : Blk w g t (hexC id 16).toArray) : (convert 58 9 (.slice (some ⟨g, 0, none⟩) 16 16)).run Tryd.prog w = .ok (.string (hexS id)) w := by
  rw [run_convert_bytes_string w 58 9 5 (some ⟨g, 0, none⟩) 16 16 Tryd.underlying58 Tryd.underlying5 Tryd.underlying9]
  rw [run_bytesToString w ⟨g, 0, none⟩ 16 16 ((hexL id 16).map fun c => (c.toNat : Int)) ?_]
  · rw [fold_push]
    rfl
  · have hl := run_loadCells_list (P := Tryd.prog) (w := w) ⟨g, 0, none⟩ (hexC id 16) (fun j v hv => by
      rw [add0, Blk.cell h]
      simpa using hv)
    rw [hexC_len id 16 (by omega)] at hl
    rw [hl]
    simp [hexC]

set_option maxRecDepth 100000 in
set_option maxHeartbeats 4000000 in
theorem hex_any (id : Nat) (w : World) (hid : id < 18446744073709551616) :
    Calls Tryd.prog 21 #[.int .u64 id] w (Ret (.string (hexS id)) w) := by
  have HID := Lib.hid hid
  clear hid
  go_enter Tryd.func21, Tryd.ntmps21
  go_wp2_with fail
  go_loopw [5] (fun i wr => ∃ k : Nat, k ≤ 16 ∧ i = .int .i64 (k : Int) ∧ Blk wr w.heap.size 57 (hexC id k).toArray ∧ Below w.heap.size w wr) (fun i _ => 16 - (intOf i).toNat)
  case atStart => exact ⟨0, by omega, rfl, Array.getElem?_push_size, (Below.refl _ _).al _⟩
  case round =>
    obtain ⟨k, hk, rfl, hbk, hb⟩ := hrel
    have HBK := Lib.hid hbk
    have HB := Lib.hid hb
    clear hbk hb
    by_cases hlt : k < 16
    · have hn := nib id k HID.out hlt
      have hd : id / 16 ^ (15 - k) % 16 < 16 := Nat.mod_lt _ (by omega)
      have HSET := Lib.hid (hexC_set id k hlt)
      generalize id / 16 ^ (15 - k) % 16 = d at hn hd HSET
      have hv := dig_at ⟨d, hd⟩
      simp only at hv
      generalize (digC d).toNat = x at hv HSET
      have i0 : (k : Int) < 16 := by omega
      have i2 : (60 : Int) - 4 * (k : Int) = ((60 - 4 * k : Nat) : Int) := by omega
      have i3 : (d : Int) < 16 := by omega
      generalize hm : 60 - 4 * k = m at hn i2
      have hmin : min m 64 = m := by omega
      have hm60 : (m : Int) ≤ 60 := by omega
      have f0 := Blk.frozen HBK.out k
      obtain ⟨c0, hc0⟩ : ∃ c0, wr.cell? ⟨w.heap.size, k, none⟩ = some c0 := by
        rw [Blk.cell HBK.out]
        have : k < (hexC id k).length := by rw [hexC_len id k hk]; exact hlt
        exact ⟨_, by rw [List.getElem?_toArray]; exact List.getElem?_eq_getElem this⟩
      clear hm
      go_wp2_with fail
      have hset := Blk.set_ HBK.out k (.int .u8 (x : Int))
      rw [List.setIfInBounds_toArray, HSET.out x rfl] at hset
      exact ⟨⟨k + 1, by omega, by go_num, hset, HB.out.trans (((Only.refl (· = w.heap.size) wr).setCell (p := ⟨w.heap.size, k, none⟩) (.inl rfl) _).below HB.out.size (fun k e => by omega))⟩, by simp [intOf]; omega⟩
    · obtain rfl : k = 16 := by omega
      have hcv := hex_conv id w.heap.size wr _ HBK.out
      go_wp2_with fail
      go_ret
      exact ⟨rfl, HB.out⟩

theorem dig_hex : ∀ d : Fin 16, isHex (digC d.1).toNat = true ∧ hexN (digC d.1).toNat = d.1 := by decide +kernel
theorem hex_dig : ∀ c : Fin 256, isHex c.1 = true → (digC (hexN c.1)).toNat = c.1 := by decide +kernel
theorem hexV_hexL (id : Nat) (hid : id < 16 ^ 16) : ∀ k, k ≤ 16 → hexV (hexL id k) = id / 16 ^ (16 - k) := by
  intro k
  induction k with
  | zero =>
    intro _
    rw [Nat.div_eq_of_lt hid]
    rfl
  | succ k ih =>
    intro hk
    rw [hexL_succ, hexV_snoc, ih (by omega), (dig_hex ⟨id / 16 ^ (15 - k) % 16, Nat.mod_lt _ (by omega)⟩).2]
    have e : 16 ^ (16 - k) = 16 ^ (15 - k) * 16 := by rw [← Nat.pow_succ]; congr 1; omega
    rw [e, ← Nat.div_div_eq_div_mul, show 16 - (k + 1) = 15 - k by omega]
    show 16 * (id / 16 ^ (15 - k) / 16) + id / 16 ^ (15 - k) % 16 = id / 16 ^ (15 - k)
    omega
theorem hexL_hex (id k : Nat) : ((hexL id k).all fun c => isHex c.toNat) = true := by
  rw [List.all_eq_true]
  intro c hc
  unfold hexL at hc
  obtain ⟨i, _, rfl⟩ := List.mem_map.1 hc
  exact (dig_hex ⟨id / 16 ^ (15 - i) % 16, Nat.mod_lt _ (by omega)⟩).1
theorem from_hex (id : Nat) (hid : id < 18446744073709551616) : fromR (hexS id) = ((id : Int), 0) := by
  have hz : (hexS id).size = 16 := hexP_size id 16
  rw [from_good hz (hexL_hex id 16)]
  show ((hexV (hexL id 16) : Int), (0 : Int)) = _
  rw [hexV_hexL id (by omega) 16 (by omega)]
  simp
theorem hexV_div (l : List UInt8) (h : (l.all fun c => isHex c.toNat) = true) : ∀ j, j ≤ l.length → hexV (l.take (l.length - j)) = hexV l / 16 ^ j := by
  intro j
  induction j with
  | zero => intro _; simp
  | succ j ih =>
    intro hj
    have hlt : l.length - (j + 1) < l.length := by omega
    have e := hexV_take l (l.length - (j + 1)) _ (List.getElem?_eq_getElem hlt)
    rw [show l.length - (j + 1) + 1 = l.length - j by omega, ih (by omega)] at e
    have hd := hexN_lt (List.all_eq_true.1 h _ (List.getElem_mem hlt))
    rw [Nat.pow_succ, ← Nat.div_div_eq_div_mul, e]
    omega
theorem hex_from (s : ByteArray) (hz : s.size = 16) (h : (s.data.toList.all fun c => isHex c.toNat) = true) : hexV s.data.toList < 18446744073709551616 ∧ hexS (hexV s.data.toList) = s := by
  have hl : s.data.toList.length = 16 := by rw [← Lib.size_eq]; exact hz
  refine ⟨?_, ?_⟩
  · have := hexV_lt s.data.toList 16 (by rw [List.take_of_length_le (by omega)]; exact h)
    rw [List.take_of_length_le (by omega)] at this
    omega
  · apply ba_ext
    show hexL _ 16 = _
    apply List.ext_getElem
    · rw [hexL_len, hl]
    · intro i h1 h2
      rw [hexL_len] at h1
      have hx := hexV_take s.data.toList i _ (List.getElem?_eq_getElem h2)
      have e := hexV_div s.data.toList h (15 - i) (by omega)
      rw [hl, show 16 - (15 - i) = i + 1 by omega, hx] at e
      have hc := List.all_eq_true.1 h _ (List.getElem_mem h2)
      have hd := hexN_lt hc
      have hm : hexV s.data.toList / 16 ^ (15 - i) % 16 = hexN (s.data.toList[i]).toNat := by rw [← e]; omega
      have : (hexL (hexV s.data.toList) 16)[i]'(by rw [hexL_len]; exact h1) = digC (hexV s.data.toList / 16 ^ (15 - i) % 16) := by simp [hexL]
      rw [this, hm]
      exact UInt8.toNat_inj.1 (hex_dig ⟨_, (s.data.toList[i]).toNat_lt⟩ hc)
theorem from_cases (s : ByteArray) : fromR s = (0, 2) ∨ ∃ n : Nat, n < 18446744073709551616 ∧ fromR s = ((n : Int), 0) ∧ hexS n = s := by
  by_cases h : s.size = 16 ∧ (s.data.toList.all fun c => isHex c.toNat) = true
  · obtain ⟨h1, h2⟩ := hex_from s h.1 h.2
    exact .inr ⟨_, h1, from_good h.1 h.2, h2⟩
  · left
    unfold fromR
    rw [if_neg h]
end Go.Proofs.YtnodlkjajgeepaaDoor
