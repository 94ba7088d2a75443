/- The reference's ends (printed by genRng2.py). -/
import Derived.Test.YtdkcfgahdcpkkaaDoorBRng1
set_option linter.all false
namespace Go.Proofs.YtdkcfgahdcpkkaaDoor
open Go.RowKit
set_option maxRecDepth 100000
def BdR (r : Rg) : Prop := (-274877906944 ≤ r.start ∧ r.start ≤ 274877906944) ∧ -274877906944 ≤ r.len ∧ r.len ≤ 274877906944
theorem x3_ : ∀ {l : List Int} {n z : Int}, z ∈ insR l n → z ∈ l ∨ z = n
 | [], n, z, h => by simp [insR] at h; exact .inr h
 | x :: l, n, z, h => by
  unfold insR at h;split at h
  ·rcases List.mem_cons.1 h with h | h
   ·exact .inl (by simp [h])
   ·rcases x3_ h with h | h
    ·exact .inl (by simp [h])
    ·exact .inr h
  ·split at h
   ·exact .inl h
   ·rcases List.mem_cons.1 h with h | h
    ·exact .inr h
    ·exact .inl h
theorem qE_ : ∀ {l : List Rg} {o : List Int} {z : Int}, z ∈ xZ_ o l → z ∈ o ∨ ∃ r ∈ l, z = r.start ∨ z = r.start + r.len
 | [], o, z, h => .inl h
 | r :: l, o, z, h => by
  rcases qE_ (l := l) h with h | ⟨r', h1, h2⟩
  ·rcases x3_ h with h | h
   ·rcases x3_ h with h | h
    ·exact .inl h
    ·exact .inr ⟨r, by simp, .inl h⟩
   ·exact .inr ⟨r, by simp, .inr h⟩
  ·exact .inr ⟨r', by simp [h1], h2⟩
theorem kP_ {l : List Rg} (h : ∀ r ∈ l, BdR r) {z : Int} (hz : z ∈ z8_ l) : -549755813888 ≤ z ∧ z ≤ 549755813888 := by
 rcases qE_ hz with h1 | ⟨r, h1, h2⟩
 ·cases h1
 ·obtain ⟨⟨b1, b2⟩, b3, b4⟩ := h r h1
  omega
set_option maxHeartbeats 16000000 in
theorem Qd_ {w : World} {S : Nat → Prop} {A : Option Addr} {c : Nat} {l : List Rg} (h : RL w S (.slice A l.length c) l) (hl : l.length ≤ 100000) (hbd : ∀ r ∈ l, BdR r) :
  Calls Tryd.prog 43 #[.slice A l.length c] w (Zv_ (fun _ => False) (z8_ l) w) := by
 have HL := hD h
 have HBD := hD hbd
 clear h hbd
 go_enter Tryd.func43, Tryd.ntmps43
 go_wp2_with fail
 go_loopw [3, 4] (fun o i wx => ∃ (k : Nat) (A' : Option Addr) (c' : Nat), k ≤ l.length ∧ i = .int .i64 (k : Int) ∧ o = .slice A' (z8_ (l.take k)).length c' ∧ IL wx (fun q => w.heap.size ≤ q) (.slice A' (z8_ (l.take k)).length c') (z8_ (l.take k)) ∧ Bel w wx) (fun _ i _ => l.length - (intOf i).toNat)
 case atStart => exact ⟨0, none, 0, Nat.zero_le _, rfl, rfl, LR.nil, Below.refl _ _⟩
 case round =>
  obtain ⟨k, A', c', hk, rfl, rfl, hi, hb⟩ := hrel;have HI := hD hi;have HB := hD hb
  have hlen : (z8_ (l.take k)).length ≤ 200000 := by
   have := xy_ (l.take k) [];unfold z8_;rw [List.length_take] at this;simp at this;omega
  clear hi hb;by_cases hlt : k < l.length
  ·have z0 : (k : Int) < (l.length : Int) := by omega
   have z1 : (0 : Int) ≤ (k : Int) := by omega
   obtain ⟨ad, x, rfl, hx, _, had, ⟨b0, b1⟩⟩ := (HL.out.up HB.out).at_ hlt
   have HN := hD (show z8_ (l.take (k + 1)) = insR (insR (z8_ (l.take k)) x.start) (x.start + x.len) by
    obtain ⟨h1, e1⟩ := List.getElem?_eq_some_iff.1 hx;unfold z8_;rw [List.take_succ_eq_append_getElem h1, e1, jc_])
   obtain ⟨⟨b2, b3⟩, b4, b5⟩ := HBD.out x (List.mem_of_getElem? hx);have wm : IntKind.i64.wrap (x.start + x.len) = x.start + x.len := IntWalk.i64_in _ (by omega);obtain ⟨L, hL⟩ : ∃ L, z8_ (l.take k) = L := ⟨_, rfl⟩;rw [hL] at HI HN hlen ⊢;obtain ⟨L1, hL1⟩ : ∃ L1, insR L x.start = L1 := ⟨_, rfl⟩;obtain ⟨L2, hL2⟩ : ∃ L2, insR L1 (x.start + x.len) = L2 := ⟨_, rfl⟩;have hlen1 : L1.length ≤ 200001 := by rw [← hL1]; have := x4_ L x.start; omega
   rw [hL1, hL2] at HN;have HS := hD (show ∀ X, Bel wr X → (X.cell? (ad.add (k * 2)) = some (.int .i64 x.start) ∧ X.cell? ⟨(ad.add (k * 2)).block, (ad.add (k * 2)).off + 1, none⟩ = some (.int .i64 x.len)) from fun X hX => ⟨(hX.cell (zq_ b0)).trans b0, (hX.cell (p := ⟨(ad.add (k * 2)).block, (ad.add (k * 2)).off + 1, none⟩) (zq_ b1)).trans b1⟩);have HI1 := hD hL1;have HI2 := hD hL2;have hd0 : Bel wr wr.drew := (Below.refl _ _).drew;have hSd : (wr.drew.cell? (ad.add (k * 2)) = some (.int .i64 x.start) ∧ wr.drew.cell? ⟨(ad.add (k * 2)).block, (ad.add (k * 2)).off + 1, none⟩ = some (.int .i64 x.len)) := HS.out _ hd0;clear hx hL hL1 hL2 b0 b1 b2 b3 b4 b5;go_upto_region 5 with fail
   refine wp_region_held_drew (S := fun w' : World => (w'.cell? (ad.add (k * 2)) = some (.int .i64 x.start) ∧ w'.cell? ⟨(ad.add (k * 2)).block, (ad.add (k * 2)).off + 1, none⟩ = some (.int .i64 x.len))) (by kernel_rfl) hSd (fun _ => ?_);refine tkB [0, 1, 2, 3, 4, 5, 7, 8, 9, 10, 11, 12, 13, 14, 15, 16, 17] ?_
   iterate 17
    refine tk (oi := ⟨some _, _, _, _, _, _⟩) (v := ?_) rfl (by kernel_rfl) (by kernel_rfl) (by kernel_rfl) (fun _ _ _ _ _ h => h) rfl (Or.inl ⟨by rfl, ?_⟩) (by assumption) ?_;rotate_left 1
    ·(intro w hSw; (try dsimp only at hSw); go_simp; try with_reducible rfl)
    simp only [Act.put, tS]
   refine tkE ?_;refine wpAnyH_all (rs := [6]) (by kernel_rfl) (by simp) (fun i hi => ?_);obtain rfl : i = 6 := by simpa using hi
   refine wpOp_step (o := ⟨some 17, _, _, _, _, _⟩) rfl (fun K1 hK1 => ?_);go_simp;go_at_call 91
   have HC1 := q6_ (S := fun q => w.heap.size ≤ q) (HI.out.up hd0) (by omega) x.start;rw [HI1.out] at HC1;refine HC1.mono ?_;rintro e w5 ⟨A5, c5, rfl, hi5, hb5⟩;have HB5 := hD (hd0.next hb5);have hwl := HB.out.size;have hsz0 := hd0.size;have HI5 := hD (IL.keep hi5 Kept.same (S' := fun q => w.heap.size ≤ q) (fun q hq => hq.elim id (fun h => by have h1 : wr.drew.heap.size ≤ q := h; omega)));clear hi5 hb5 HC1;refine hK1 _ _ ⟨HS.out _ HB5.out, ?_⟩;try simp only [Act.put, upd, Nat.reduceAdd, Nat.reduceBEq, tS]
   refine wpAnyH_all (rs := [18]) (by kernel_rfl) (by simp) (fun i hi => ?_);obtain rfl : i = 18 := by simpa using hi
   refine wpOp_step (o := ⟨some 29, _, _, _, _, _⟩) rfl (fun K2 hK2 => ?_);go_simp;go_at_call 91
   have HC2 := q6_ (S := fun q => w.heap.size ≤ q) HI5.out (by omega) (x.start + x.len);rw [HI2.out] at HC2;refine HC2.mono ?_;rintro e w6 ⟨A6, c6, rfl, hi6, hb6⟩;have HB6 := hD (HB5.out.next hb6);have hsz5 := HB5.out.size;have HI6 := hD (IL.keep hi6 Kept.same (S' := fun q => w.heap.size ≤ q) (fun q hq => hq.elim id (fun h => by have h1 : w5.heap.size ≤ q := h; omega)));clear hi6 hb6 HC2;refine hK2 _ _ ⟨HS.out _ HB6.out, ?_⟩;try simp only [Act.put, upd, Nat.reduceAdd, Nat.reduceBEq, tS]
   refine wpAnyH_all (rs := [19]) (by kernel_rfl) (by simp) (fun i hi => ?_);obtain rfl : i = 19 := by simpa using hi
   refine wpOp_step (o := ⟨some 3, _, _, _, _, _⟩) rfl (fun K3 hK3 => ?_);go_simp;refine hK3 _ _ ⟨HS.out _ HB6.out, ?_⟩;try simp only [Act.put, upd, Nat.reduceAdd, Nat.reduceBEq, tS]
   refine wpAnyH_done (by kernel_rfl) ?_ _;go_wp2_with fail
   go_roundw
   case rel => exact ⟨k + 1, A6, c6, by omega, by go_num, by rw [HN.out], by rw [HN.out]; exact HI6.out, HB.out.next HB6.out⟩
   case measure => simp [intOf]; omega
  ·obtain rfl : k = l.length := by omega
   have HT := hD (show z8_ (l.take l.length) = z8_ l by rw [List.take_length]);rw [HT.out] at HI ⊢;clear hlen;go_wp2_with fail
   go_ret
   exact ⟨A', c', rfl, IL.keep HI.out Kept.same (fun _ h => .inr h), HB.out⟩
end Go.Proofs.YtdkcfgahdcpkkaaDoor
