/- What a volume uses: model.uses, the reference's Used (printed by genUses.py). -/
import Derived.Test.YtdkcfgahdcpkkaaDoorBUsed
import Derived.Test.YtdkcfgahdcpkkaaDoorBOwnS
import Derived.Test.YtdkcfgahdcpkkaaDoorBNeedP
import Derived.Test.YtdkcfgahdcpkkaaDoorBKind
import Derived.Deep.QuietTactic
import Derived.BigQuiet
set_option linter.all false
set_option linter.unusedVariables false
set_option linter.unusedSimpArgs false
namespace Go.Proofs.YtdkcfgahdcpkkaaDoor
open Go.RowKit
set_option maxRecDepth 100000
theorem ownsRow_formT {w : World} {base n size : Nat} {T : TypeId} {v : Value} {xs : List Value} (h : w.ownsRow base T size v n xs) : ∃ A c, v = .slice A n c ∧ n ≤ c := by
 rcases h.2 with ⟨h, h0⟩ | ⟨g, cap, cur, h, _, _, hc, _⟩
 ·exact ⟨none, 0, by rw [h, h0], by omega⟩
 ·exact ⟨_, _, h, hc⟩
theorem own_ne_blkT {w : World} {base size n k : Nat} {e T : TypeId} {v : Value} {xs : List Value} {cs : Array Value} (h : w.ownsRow base e size v n xs) (hk : v.ownBlock = some k) (hb : Blk w k T cs) (hne : e ≠ T) : False := by
 rcases h.2 with ⟨rfl, _⟩ | ⟨g, cap, cur, rfl, _, hh, _⟩
 ·cases hk
 ·injection hk with hk
  have hk' : g = k := hk
  subst hk'
  have := hh.symm.trans hb
  injection this with this
  injection this with _ e2 _
  exact hne e2
theorem addT_zero (g n : Nat) : (⟨g, 0, none⟩ : Addr).add n = ⟨g, n, none⟩ := add_zero g n
def txV (l : List ByteArray) : List Value := l.map Value.string
theorem txV_len (l : List ByteArray) : (txV l).length = l.length := by simp [txV]
theorem txV_snoc (l : List ByteArray) (s : ByteArray) : txV (l ++ [s]) = txV l ++ [.string s] := by simp [txV]
theorem txV_append (l m : List ByteArray) : txV (l ++ m) = txV l ++ txV m := by simp [txV]
theorem txV_one (l : List ByteArray) : ∀ u ∈ txV l, u.oneCell' = true := fun u hu => by
 unfold txV at hu
 obtain ⟨s, _, rfl⟩ := List.mem_map.1 hu
 rfl
/-- v is a list of texts, its row one's own, behind base; nothing of w0 has turned -/
structure TxS (w0 : World) (base : Nat) (v : Value) (l : List ByteArray) (w : World) : Prop where
 row : w.ownsRow base 9 1 v l.length (txV l)
 bel : Below w0.heap.size w0 w
 lo : w0.heap.size ≤ base ∧ base ≤ w.heap.size
section
variable {w0 w w' : World} {base : Nat} {v : Value} {l : List ByteArray}
theorem TxS.nil (hb : Below w0.heap.size w0 w) (h : w0.heap.size ≤ base ∧ base ≤ w.heap.size) : TxS w0 base (.slice none 0 0) [] w := ⟨World.ownsRow_nil _ _ _ _, hb, h⟩
theorem TxS.cast {m : List ByteArray} (h : TxS w0 base v l w) (e : l = m) : TxS w0 base v m w := e ▸ h
theorem TxS.form (h : TxS w0 base v l w) : ∃ A c, v = .slice A l.length c := by
 obtain ⟨A, c, e, _⟩ := ownsRow_formT h.row
 exact ⟨A, c, e⟩
theorem TxS.only {F : Nat → Prop} (h : TxS w0 base v l w) (ho : Only F w w') (h1 : ∀ k, v.ownBlock = some k → ¬ F k) (h2 : ∀ k, F k → w0.heap.size ≤ k) : TxS w0 base v l w' :=
 ⟨own_only h.row ho h1, h.bel.trans (ho.below h.bel.size h2), h.lo.1, Nat.le_trans h.lo.2 ho.size⟩
theorem TxS.up (h : TxS w0 base v l w) (hb : Below w.heap.size w w') : TxS w0 base v l w' := h.only (Only.of_below (fun _ => False) hb) (fun _ _ h => h) (fun _ h => h.elim)
theorem TxS.lt (h : TxS w0 base v l w) {k : Nat} (hk : v.ownBlock = some k) : base ≤ k ∧ k < w.heap.size := World.ownsRow.lt h.row k hk
theorem TxS.ne {k : Nat} {T : TypeId} {cs : Array Value} (h : TxS w0 base v l w) (hb : Blk w k T cs) (hne : 9 ≠ T) : v.ownBlock ≠ some k := fun e => own_ne_blkT h.row e hb hne
theorem tl_of_own (h : w.ownsRow base 9 1 v l.length (txV l)) : TL w (fun k => v.ownBlock = some k) v l := by
 rcases id h.2 with ⟨rfl, h0⟩ | ⟨g, cap, cur, rfl, _, _, hc, _⟩
 ·have : l = [] := List.eq_nil_of_length_eq_zero h0
  subst this
  exact LR.nil
 ·refine ⟨_, cap, rfl, hc, fun _ => ⟨_, rfl, rfl, (World.ownsRow.lt h g rfl).2, fun k x hx => ?_⟩⟩
  have hk := (List.getElem?_eq_some_iff.1 hx).1
  unfold TextC
  rw [Nat.mul_one, addT_zero, World.ownsRow.cellAt h k (by omega)]
  simp [txV, hx]
theorem TxS.tl (h : TxS w0 base v l w) {S : Nat → Prop} (hS : ∀ k, base ≤ k → S k) : TL w S v l := TL.keep (tl_of_own h.row) Kept.same (fun k hk => hS k (h.lt hk).1)
/-- how a call that builds a list ends -/
theorem TxS.ret (h : TxS w0 base v l w) : TxRet l w0 (.returned v) w := by
 obtain ⟨A, c, rfl⟩ := h.form
 exact ⟨A, c, rfl, h.tl (fun k hk => Nat.le_trans h.lo.1 hk), h.bel⟩
/-- the last one is taken off -/
theorem TxS.pop {A : Option Addr} {c : Nat} {x : ByteArray} (h : TxS w0 base (.slice A (l ++ [x]).length c) (l ++ [x]) w) : TxS w0 base (.slice A l.length c) l w := by
 refine ⟨?_, h.bel, h.lo⟩
 obtain ⟨h1, h2⟩ := h.row
 refine ⟨by rw [txV_len]; omega, ?_⟩
 rcases h2 with ⟨_, h3⟩ | ⟨g, cap, cur, hv, hg, hh, hcap, hm, hsz, htake⟩
 ·simp at h3
 ·injection hv with e1 e2 e3
  subst e1 e3
  refine .inr ⟨g, c, cur, rfl, hg, hh, by simp at hcap; omega, hm, hsz, ?_⟩
  rw [txV_snoc] at htake
  have h4 : cur.toList.take (l.length * 1) = (cur.toList.take ((l ++ [x]).length * 1)).take (l.length * 1) := by rw [List.take_take, Nat.min_eq_left (by simp)]
  rw [h4, htake, List.take_append_of_le_length (by rw [txV_len]; omega), List.take_of_length_le (by rw [txV_len]; omega)]
end
section
variable {w0 w : World} {base : Nat} {v : Value} {l : List ByteArray} {ops : Array Oper} {rest : List Oper} {o : Oper} {a : Act} {Q : Exit → Act → World → Prop}
/-- a text is appended -/
theorem wpList_tx {g : Nat} {s : ByteArray} (hgd : o.guard = none) (x y : Operand) (ho : o.op = .call { callee := .builtin .append, args := #[x, y], argTypes := #[26, 26] }) (h : TxS w0 base v l w) (hb : Blk w g 9 #[.string s]) (hl : l.length ≤ 4000000)
  (hx : a.eval x = v) (hy : a.eval y = .slice (some ⟨g, 0, none⟩) 1 1) (hK : ∀ A n c w', n = l.length + 1 → TxS w0 base (.slice A n c) (l ++ [s]) w' → Only (fun k => v.ownBlock = some k) w w' → wpList Tryd.prog ops Q rest (a.put o.dst (.slice A n c)) w') : wpList Tryd.prog ops Q (o :: rest) a w := by
 obtain ⟨i0, hi0, hz0, hz1, hz2⟩ := info_parts infoT
 refine wpList_append_any w hgd x y 26 ho base 9 i0 _ 1 16 Tryd.underlying26 hi0 hz0 hz1 hz2 rfl (by decide) v l.length (txV l) hx h.row w.heap.size (some ⟨g, 0, none⟩) 1 1 [.string s] hy ?_ (by intro u hu; simp at hu; subst hu; rfl) (by unfold maxLen; omega) (by omega) h.lo.2 ?_
 ·refine ⟨rfl, fun _ => ⟨_, rfl, hb.lt, fun j u hu => ?_⟩⟩
  rw [addT_zero, hb.cell]
  simpa using hu
 ·intro v' w' h1 h2 h3
  obtain ⟨A, c, rfl, _⟩ := ownsRow_formT h1
  have hon : Only (fun k => v.ownBlock = some k) w w' := (Only.refl _ w).grown h2 (fun k e => .inl e)
  exact hK A _ c w' rfl ⟨by rw [List.length_append, txV_snoc]; exact h1, h.bel.trans (hon.below h.bel.size (fun k e => Nat.le_trans h.lo.1 (h.lt e).1)), h.lo.1, Nat.le_trans h.lo.2 hon.size⟩ hon
/-- a list is appended -/
theorem wpList_cat {S : Nat → Prop} {A2 : Option Addr} {c2 : Nat} {m : List ByteArray} (hgd : o.guard = none) (x y : Operand) (ho : o.op = .call { callee := .builtin .append, args := #[x, y], argTypes := #[26, 26] }) (h : TxS w0 base v l w) (hm : TL w S (.slice A2 m.length c2) m) (hl : l.length ≤ 4000000) (hl2 : m.length ≤ 4000000)
  (hx : a.eval x = v) (hy : a.eval y = .slice A2 m.length c2) (hK : ∀ A n c w', n = l.length + m.length → TxS w0 base (.slice A n c) (l ++ m) w' → Only (fun k => v.ownBlock = some k) w w' → wpList Tryd.prog ops Q rest (a.put o.dst (.slice A n c)) w') : wpList Tryd.prog ops Q (o :: rest) a w := by
 obtain ⟨i0, hi0, hz0, hz1, hz2⟩ := info_parts infoT
 refine wpList_append_any w hgd x y 26 ho base 9 i0 _ 1 16 Tryd.underlying26 hi0 hz0 hz1 hz2 rfl (by decide) v l.length (txV l) hx h.row w.heap.size A2 m.length c2 (txV m) hy ?_ (txV_one m) (by unfold maxLen; omega) (by omega) h.lo.2 ?_
 ·refine ⟨by rw [txV_len]; omega, fun h0 => ?_⟩
  obtain ⟨ad, x, e, _, _, hlt, _⟩ := hm.cell h0
  subst e
  refine ⟨ad, rfl, hlt, fun j u hu => ?_⟩
  have hj : j < m.length := by have := (List.getElem?_eq_some_iff.1 hu).1; rwa [txV_len] at this
  obtain ⟨ad', x', e', hx', _, _, hc⟩ := hm.cell hj
  injection e' with e'
  subst e'
  unfold txV at hu
  rw [List.getElem?_map, hx'] at hu
  simp at hu
  rw [hc, hu]
 ·intro v' w' h1 h2 h3
  obtain ⟨A, c, rfl, _⟩ := ownsRow_formT h1
  have hon : Only (fun k => v.ownBlock = some k) w w' := (Only.refl _ w).grown h2 (fun k e => .inl e)
  exact hK A _ c w' rfl ⟨by rw [List.length_append, txV_append]; exact h1, h.bel.trans (hon.below h.bel.size (fun k e => Nat.le_trans h.lo.1 (h.lt e).1)), h.lo.1, Nat.le_trans h.lo.2 hon.size⟩ hon
end
end Go.Proofs.YtdkcfgahdcpkkaaDoor
namespace Go.Proofs.YtdkcfgahdcpkkaaDoor
open Go.RowKit
set_option maxRecDepth 100000
theorem usesL_take {l : List Sg} {k : Nat} {s : Sg} (h : l[k]? = some s) : usesL (l.take (k + 1)) = usesL (l.take k) ++ usesS s := by
 obtain ⟨h1, e1⟩ := List.getElem?_eq_some_iff.1 h
 rw [List.take_succ_eq_append_getElem h1, e1]
 simp [usesL]
theorem usesL_len (l : List Sg) (k : Nat) : (usesL (l.take k)).length ≤ (usesL l).length := by
 have : usesL l = usesL (l.take k) ++ usesL (l.drop k) := by
  conv => lhs; rw [← List.take_append_drop k l]
  simp only [usesL, List.map_append, List.flatten_append]
 rw [this, List.length_append]; omega
theorem usesS_eq (s : Sg) : usesS s = usedA s.areas ++ (if s.log = ⟨#[]⟩ then [] else [s.log]) ++ (if s.pool = ⟨#[]⟩ then [] else [s.pool]) := by
 unfold usesS usedA
 rw [List.append_assoc]
/-- bounds on what a volume uses -/
structure UsB (v : Vo) : Prop where
 segs : v.segs.length ≤ 1000000
 areas : ∀ s ∈ v.segs, s.areas.length ≤ 1000000
 uses : (usesV v).length ≤ 1000000
theorem six_u {W : World} {g : Nat} {T : TypeId} {v0 v1 v2 v3 v4 v5 : Value} (h : Blk W g T #[v0, v1, v2, v3, v4, v5]) : W.cell? ⟨g, 5, none⟩ = some v5 := by rw [h.cell 5]; rfl
set_option maxHeartbeats 16000000 in
theorem uses_any {w : World} {S : Nat → Prop} {v : Vo} {A0 A1 : Option Addr} {d0 d1 : Nat} (hs : SL w S (.slice A1 v.segs.length d1) v.segs) (hu : UsB v) :
  Calls Tryd.prog 99 #[.agg (voA v (.slice A0 v.tags.length d0) (.slice A1 v.segs.length d1))] w (TxRet (usesV v) w) := by
 have HS := Lib.hid hs
 have HU := Lib.hid hu
 have hl := hu.segs
 have hbx := Blk.new w 53 #[.string v.name, .int .u64 v.id, .bool v.hid, .bool v.ro, .slice A0 v.tags.length d0, .slice A1 v.segs.length d1]
 have HC5 := Lib.hid (show ∀ w', Below (w.alloc (.cells #[.string v.name, .int .u64 v.id, .bool v.hid, .bool v.ro, .slice A0 v.tags.length d0, .slice A1 v.segs.length d1] 53)).heap.size (w.alloc (.cells #[.string v.name, .int .u64 v.id, .bool v.hid, .bool v.ro, .slice A0 v.tags.length d0, .slice A1 v.segs.length d1] 53)) w' → w'.cell? ⟨w.heap.size, 5, none⟩ = some (.slice A1 v.segs.length d1) from fun w' hb => six_u (hbx.below hb hbx.lt))
 have HW := Lib.hid (show ∀ w', Below (w.alloc (.cells #[.string v.name, .int .u64 v.id, .bool v.hid, .bool v.ro, .slice A0 v.tags.length d0, .slice A1 v.segs.length d1] 53)).heap.size (w.alloc (.cells #[.string v.name, .int .u64 v.id, .bool v.hid, .bool v.ro, .slice A0 v.tags.length d0, .slice A1 v.segs.length d1] 53)) w' → Below w.heap.size w w' from fun w' hb => ((Below.refl _ _).al _).next hb)
 have HSW := Lib.hid (show w.heap.size + 1 ≤ (w.alloc (.cells #[.string v.name, .int .u64 v.id, .bool v.hid, .bool v.ro, .slice A0 v.tags.length d0, .slice A1 v.segs.length d1] 53)).heap.size from by simp)
 have HZ := Lib.hid (show TxS (w.alloc (.cells #[.string v.name, .int .u64 v.id, .bool v.hid, .bool v.ro, .slice A0 v.tags.length d0, .slice A1 v.segs.length d1] 53)) (w.heap.size + 1) (.slice none 0 0) [] (w.alloc (.cells #[.string v.name, .int .u64 v.id, .bool v.hid, .bool v.ro, .slice A0 v.tags.length d0, .slice A1 v.segs.length d1] 53)) from TxS.nil (Below.refl _ _) ⟨by simp, by simp⟩)
 clear hs hu hbx
 unfold voA
 go_enter Tryd.func99, Tryd.ntmps99
 go_wp2_with fail
 generalize (w.alloc (.cells #[.string v.name, .int .u64 v.id, .bool v.hid, .bool v.ro, .slice A0 v.tags.length d0, .slice A1 v.segs.length d1] 53)) = wb at HC5 HW HZ HSW ⊢
 go_loopw [3, 11] (fun v' i wx => ∃ k : Nat, k ≤ v.segs.length ∧ i = .int .i64 (k : Int) ∧ TxS wb (w.heap.size + 1) v' (usesL (v.segs.take k)) wx) (fun _ i _ => v.segs.length - (intOf i).toNat)
 case atStart => exact ⟨0, Nat.zero_le _, rfl, HZ.out⟩
 case round =>
  obtain ⟨k, hk, rfl, hp⟩ := hrel
  obtain ⟨vo, hvo⟩ : ∃ vo, vo = u3 := ⟨_, rfl⟩
  subst hvo
  have HP := Lib.hid hp
  have c5 := HC5.out _ hp.bel
  clear hp
  by_cases hlt : k < v.segs.length
  ·have z0 : (k : Int) < (v.segs.length : Int) := by omega
   have z1 : (0 : Int) ≤ (k : Int) := by omega
   obtain ⟨ad, s, rfl, hx, _, had, v0, v1, hsc, har, hst⟩ := HS.out.at_ hlt
   obtain ⟨AA, cA, rfl⟩ := har.form
   obtain ⟨AZ, cZ, rfl⟩ := hst.form
   have had2 : (ad.add (k * 11)).block < w.heap.size := by rw [block_of_add]; exact had
   obtain ⟨f0, f1, f2, f3, f4, f5, f6, f7, f8, f9, f10⟩ := hsc.keep (Kept.of_below (S := fun _ => True) (HW.out _ HP.out.bel)) trivial had2
   have HAR := Lib.hid har
   have HTK := Lib.hid (usesL_take hx)
   have HAL := Lib.hid (HU.out.areas s (List.mem_of_getElem? hx))
   have HUL := Lib.hid (Nat.le_trans (usesL_len v.segs k) HU.out.uses)
   have HSB := Lib.hid (Blk.new wr 58 #[.int .i64 s.start, .int .i64 s.len, .int .i64 s.kind, .slice AA s.areas.length cA, .int .i64 s.chunk, .slice AZ s.stale.length cZ, .string s.log, .string s.pool, .int .i64 s.dev, .int .i64 s.mode, .int .i64 s.done])
   have HP2 := Lib.hid (HP.out.up ((Below.refl _ _).al (.cells #[.int .i64 s.start, .int .i64 s.len, .int .i64 s.kind, .slice AA s.areas.length cA, .int .i64 s.chunk, .slice AZ s.stale.length cZ, .string s.log, .string s.pool, .int .i64 s.dev, .int .i64 s.mode, .int .i64 s.done] 58)))
   have hal := HAL.out
   have hul := HUL.out
   clear hx hsc har hst
   go_wp2_with fail
   clear f0 f1 f2 f3 f4 f5 f6 f7 f8 f9 f10 c5
   obtain ⟨wo, rfl⟩ : ∃ wo, wo = wr := ⟨_, rfl⟩
   go_loopw [3, 18] (fun v' i wx => ∃ j : Nat, j ≤ s.areas.length ∧ i = .int .i64 (j : Int) ∧ TxS wb (w.heap.size + 1) v' (usesL (v.segs.take k) ++ usedA (s.areas.take j)) wx ∧ Blk wx wo.heap.size 58 #[.int .i64 s.start, .int .i64 s.len, .int .i64 s.kind, .slice AA s.areas.length cA, .int .i64 s.chunk, .slice AZ s.stale.length cZ, .string s.log, .string s.pool, .int .i64 s.dev, .int .i64 s.mode, .int .i64 s.done]) (fun _ i _ => s.areas.length - (intOf i).toNat)
   case atStart => exact ⟨0, Nat.zero_le _, rfl, by simpa [usedA] using HP2.out, HSB.out⟩
   case round =>
    obtain ⟨j, hj, rfl, hp, hsb⟩ := hrel
    obtain ⟨vi, hvi⟩ : ∃ vi, vi = u3 := ⟨_, rfl⟩
    subst hvi
    have HP3 := Lib.hid hp
    have HSB3 := Lib.hid hsb
    clear hp hsb
    obtain ⟨e0, e1, e2, e3, e4, e5, e6, e7, e8, e9, e10⟩ := elev HSB3.out
    by_cases hjt : j < s.areas.length
    ·have y0 : (j : Int) < (s.areas.length : Int) := by omega
     have y1 : (0 : Int) ≤ (j : Int) := by omega
     obtain ⟨ap, a, rfl, hax, _, hap, hac⟩ := HAR.out.at_ hjt
     have hap2 : (ap.add (j * 3)).block < w.heap.size := by rw [block_of_add]; exact hap
     obtain ⟨a0, a1, a2⟩ := hac.keep (Kept.of_below (S := fun _ => True) (HW.out _ HP3.out.bel)) trivial hap2
     have HTA := Lib.hid (usedA_take hax)
     have hua := usedA_len (s.areas.take j)
     have htl : (s.areas.take j).length = j := by rw [List.length_take]; omega
     obtain ⟨b, hxb⟩ : ∃ b, a.vol = b := ⟨_, rfl⟩
     rw [hxb] at a0 HTA
     clear hax hac hxb
     cases b with
     | false =>
      have HP4 := Lib.hid (HP3.out.up ((Below.refl _ _).al (.cells #[.bool false, .string a.on, .int .i64 a.start] 60)))
      have HSB4 := Lib.hid (HSB3.out.alloc (.cells #[.bool false, .string a.on, .int .i64 a.start] 60))
      have HE := Lib.hid (show usesL (v.segs.take k) ++ usedA (s.areas.take j) = usesL (v.segs.take k) ++ usedA (s.areas.take (j + 1)) by rw [HTA.out]; simp)
      go_wp2_with fail
      go_roundw
      case rel => exact ⟨j + 1, by omega, by go_num, HP4.out.cast HE.out, HSB4.out⟩
      case measure => simp [intOf]; omega
     | true =>
      have HP4a := Lib.hid (HP3.out.up ((Below.refl _ _).al (.cells #[.bool true, .string a.on, .int .i64 a.start] 60)))
      have HSB4a := Lib.hid (HSB3.out.alloc (.cells #[.bool true, .string a.on, .int .i64 a.start] 60))
      have HE := Lib.hid (show usesL (v.segs.take k) ++ usedA (s.areas.take j) ++ [a.on] = usesL (v.segs.take k) ++ usedA (s.areas.take (j + 1)) by rw [HTA.out]; simp)
      have HSB4b := Lib.hid (HSB4a.out.alloc (.cells #[.string a.on] 9))
      have hgb := Blk.new (wr.alloc (.cells #[.bool true, .string a.on, .int .i64 a.start] 60)) 9 #[.string a.on]
      rw [show (wr.alloc (.cells #[.bool true, .string a.on, .int .i64 a.start] 60)).heap.size = wr.heap.size + 1 by simp] at hgb
      have HGB := Lib.hid hgb
      have HP4b := Lib.hid (HP4a.out.up ((Below.refl _ _).al (.cells #[.string a.on] 9)))
      clear hgb
      go_wp2_with (at_builtin; refine wpList_tx rfl (.tmp 24) (.tmp 27) rfl HP4b.out HGB.out (by simp only [List.length_append]; omega) rfl rfl ?_; intro A8 n8 c8 w8 hn8 hp8 ho8; have HP4 := Lib.hid hp8; have HSB4 := Lib.hid (HSB4b.out.only ho8 (fun e => HP4b.out.ne HSB4b.out (by decide) e)); clear hn8 hp8 ho8; skip)
      go_roundw
      case rel => exact ⟨j + 1, by omega, by go_num, HP4.out.cast HE.out, HSB4.out⟩
      case measure => simp [intOf]; omega
    ·obtain rfl : j = s.areas.length := by omega
     rw [List.take_length] at HP3
     have HUA := Lib.hid (usedA_len s.areas)
     have hua := HUA.out
     have HUS := Lib.hid (usesS_eq s)
     by_cases hlog : s.log = ⟨#[]⟩
     ·have q1 : s.log.toList.isEmpty = true := by rw [hlog]; kernel_rfl
      by_cases hpool : s.pool = ⟨#[]⟩
      ·have q2 : s.pool.toList.isEmpty = true := by rw [hpool]; kernel_rfl
       have HE := Lib.hid (show usesL (v.segs.take k) ++ usedA s.areas = usesL (v.segs.take (k + 1)) by rw [HTK.out, HUS.out, if_pos hlog, if_pos hpool]; simp)
       clear hlog hpool
       go_wp2_with fail
       go_roundw
       case rel => exact ⟨k + 1, by omega, by go_num, HP3.out.cast HE.out⟩
       case measure => simp [intOf]; omega
      ·have q2 : s.pool.toList.isEmpty = false := Bool.eq_false_iff.2 (fun h => hpool (bytes_empty h))
       have HE := Lib.hid (show usesL (v.segs.take k) ++ usedA s.areas ++ [s.pool] = usesL (v.segs.take (k + 1)) by rw [HTK.out, HUS.out, if_pos hlog, if_neg hpool]; simp)
       clear hlog hpool
       go_wp2_with (at_builtin; have HPqpool := Lib.hid (HP3.out.up ((Below.refl _ _).al (.cells #[.string s.pool] 9))); have HBqpool := Lib.hid (HSB3.out.alloc (.cells #[.string s.pool] 9)); refine wpList_tx rfl (.tmp 41) (.tmp 44) rfl HPqpool.out (Blk.new wr 9 #[.string s.pool]) (by (try simp only [List.length_append, List.length_cons, List.length_nil]); omega) rfl rfl ?_; intro Aw4 nw4 cw4 w4 hn8 hp8 ho8; have HP4 := Lib.hid hp8; have HSBX := Lib.hid (HBqpool.out.only ho8 (fun e => HPqpool.out.ne HBqpool.out (by decide) e)); obtain ⟨e0, e1, e2, e3, e4, e5, e6, e7, e8, e9, e10⟩ := elev HSBX.out; clear hn8 hp8 ho8; skip)
       go_roundw
       case rel => exact ⟨k + 1, by omega, by go_num, HP4.out.cast HE.out⟩
       case measure => simp [intOf]; omega
     ·have q1 : s.log.toList.isEmpty = false := Bool.eq_false_iff.2 (fun h => hlog (bytes_empty h))
      by_cases hpool : s.pool = ⟨#[]⟩
      ·have q2 : s.pool.toList.isEmpty = true := by rw [hpool]; kernel_rfl
       have HE := Lib.hid (show usesL (v.segs.take k) ++ usedA s.areas ++ [s.log] = usesL (v.segs.take (k + 1)) by rw [HTK.out, HUS.out, if_neg hlog, if_pos hpool]; simp)
       clear hlog hpool
       go_wp2_with (at_builtin; have HPqlog := Lib.hid (HP3.out.up ((Below.refl _ _).al (.cells #[.string s.log] 9))); have HBqlog := Lib.hid (HSB3.out.alloc (.cells #[.string s.log] 9)); refine wpList_tx rfl (.tmp 33) (.tmp 36) rfl HPqlog.out (Blk.new wr 9 #[.string s.log]) (by (try simp only [List.length_append, List.length_cons, List.length_nil]); omega) rfl rfl ?_; intro Aw4 nw4 cw4 w4 hn8 hp8 ho8; have HP4 := Lib.hid hp8; have HSBX := Lib.hid (HBqlog.out.only ho8 (fun e => HPqlog.out.ne HBqlog.out (by decide) e)); obtain ⟨e0, e1, e2, e3, e4, e5, e6, e7, e8, e9, e10⟩ := elev HSBX.out; clear hn8 hp8 ho8; skip)
       go_roundw
       case rel => exact ⟨k + 1, by omega, by go_num, HP4.out.cast HE.out⟩
       case measure => simp [intOf]; omega
      ·have q2 : s.pool.toList.isEmpty = false := Bool.eq_false_iff.2 (fun h => hpool (bytes_empty h))
       have HE := Lib.hid (show usesL (v.segs.take k) ++ usedA s.areas ++ [s.log] ++ [s.pool] = usesL (v.segs.take (k + 1)) by rw [HTK.out, HUS.out, if_neg hlog, if_neg hpool]; simp)
       clear hlog hpool
       go_wp2_with (first | (at_builtin; have HPqlog := Lib.hid (HP3.out.up ((Below.refl _ _).al (.cells #[.string s.log] 9))); have HBqlog := Lib.hid (HSB3.out.alloc (.cells #[.string s.log] 9)); refine wpList_tx rfl (.tmp 33) (.tmp 36) rfl HPqlog.out (Blk.new wr 9 #[.string s.log]) (by (try simp only [List.length_append, List.length_cons, List.length_nil]); omega) rfl rfl ?_; intro Aw4 nw4 cw4 w4 hn8 hp8 ho8; have HP4 := Lib.hid hp8; have HSBX := Lib.hid (HBqlog.out.only ho8 (fun e => HPqlog.out.ne HBqlog.out (by decide) e)); obtain ⟨e0, e1, e2, e3, e4, e5, e6, e7, e8, e9, e10⟩ := elev HSBX.out; clear hn8 hp8 ho8; skip) | (at_builtin; have HPqpool := Lib.hid (HP4.out.up ((Below.refl _ _).al (.cells #[.string s.pool] 9))); have HBqpool := Lib.hid (HSBX.out.alloc (.cells #[.string s.pool] 9)); refine wpList_tx rfl (.tmp 41) (.tmp 44) rfl HPqpool.out (Blk.new w4 9 #[.string s.pool]) (by (try simp only [List.length_append, List.length_cons, List.length_nil]); omega) rfl rfl ?_; intro Aw5 nw5 cw5 w5 hn8 hp8 ho8; have HP5 := Lib.hid hp8; have HSBY := Lib.hid (HBqpool.out.only ho8 (fun e => HPqpool.out.ne HBqpool.out (by decide) e)); obtain ⟨e0, e1, e2, e3, e4, e5, e6, e7, e8, e9, e10⟩ := elev HSBY.out; clear hn8 hp8 ho8; skip))
       go_roundw
       case rel => exact ⟨k + 1, by omega, by go_num, HP5.out.cast HE.out⟩
       case measure => simp [intOf]; omega
  ·obtain rfl : k = v.segs.length := by omega
   have HE := Lib.hid (show usesL (v.segs.take v.segs.length) = usesV v by rw [List.take_length]; rfl)
   go_wp2_with fail
   go_ret
   have hr := (HE.out ▸ HP.out : TxS wb (w.heap.size + 1) vo (usesV v) wr).ret
   obtain ⟨A, c, e, h1, h2⟩ := hr
   exact ⟨A, c, e, TL.keep h1 Kept.same (fun g hg => by have := HSW.out; omega), HW.out _ h2⟩
set_option maxHeartbeats 16000000 in
theorem rused_any {w : World} {S : Nat → Prop} {v : Vo} {A0 A1 : Option Addr} {d0 d1 : Nat} (hs : SL w S (.slice A1 v.segs.length d1) v.segs) (hu : UsB v) :
  Calls Tryd.prog 17 #[.agg (voA v (.slice A0 v.tags.length d0) (.slice A1 v.segs.length d1))] w (TxRet (usesV v) w) := by
 have HS := Lib.hid hs
 have HU := Lib.hid hu
 have hl := hu.segs
 have hbx := Blk.new w 53 #[.string v.name, .int .u64 v.id, .bool v.hid, .bool v.ro, .slice A0 v.tags.length d0, .slice A1 v.segs.length d1]
 have HC5 := Lib.hid (show ∀ w', Below (w.alloc (.cells #[.string v.name, .int .u64 v.id, .bool v.hid, .bool v.ro, .slice A0 v.tags.length d0, .slice A1 v.segs.length d1] 53)).heap.size (w.alloc (.cells #[.string v.name, .int .u64 v.id, .bool v.hid, .bool v.ro, .slice A0 v.tags.length d0, .slice A1 v.segs.length d1] 53)) w' → w'.cell? ⟨w.heap.size, 5, none⟩ = some (.slice A1 v.segs.length d1) from fun w' hb => six_u (hbx.below hb hbx.lt))
 have HW := Lib.hid (show ∀ w', Below (w.alloc (.cells #[.string v.name, .int .u64 v.id, .bool v.hid, .bool v.ro, .slice A0 v.tags.length d0, .slice A1 v.segs.length d1] 53)).heap.size (w.alloc (.cells #[.string v.name, .int .u64 v.id, .bool v.hid, .bool v.ro, .slice A0 v.tags.length d0, .slice A1 v.segs.length d1] 53)) w' → Below w.heap.size w w' from fun w' hb => ((Below.refl _ _).al _).next hb)
 have HSW := Lib.hid (show w.heap.size + 1 ≤ (w.alloc (.cells #[.string v.name, .int .u64 v.id, .bool v.hid, .bool v.ro, .slice A0 v.tags.length d0, .slice A1 v.segs.length d1] 53)).heap.size from by simp)
 have HZ := Lib.hid (show TxS (w.alloc (.cells #[.string v.name, .int .u64 v.id, .bool v.hid, .bool v.ro, .slice A0 v.tags.length d0, .slice A1 v.segs.length d1] 53)) (w.heap.size + 1) (.slice none 0 0) [] (w.alloc (.cells #[.string v.name, .int .u64 v.id, .bool v.hid, .bool v.ro, .slice A0 v.tags.length d0, .slice A1 v.segs.length d1] 53)) from TxS.nil (Below.refl _ _) ⟨by simp, by simp⟩)
 clear hs hu hbx
 unfold voA
 go_enter Tryd.func17, Tryd.ntmps17
 go_wp2_with fail
 generalize (w.alloc (.cells #[.string v.name, .int .u64 v.id, .bool v.hid, .bool v.ro, .slice A0 v.tags.length d0, .slice A1 v.segs.length d1] 53)) = wb at HC5 HW HZ HSW ⊢
 go_loopw [3, 4] (fun v' i wx => ∃ k : Nat, k ≤ v.segs.length ∧ i = .int .i64 (k : Int) ∧ TxS wb (w.heap.size + 1) v' (usesL (v.segs.take k)) wx) (fun _ i _ => v.segs.length - (intOf i).toNat)
 case atStart => exact ⟨0, Nat.zero_le _, rfl, HZ.out⟩
 case round =>
  obtain ⟨k, hk, rfl, hp⟩ := hrel
  obtain ⟨vo, hvo⟩ : ∃ vo, vo = u3 := ⟨_, rfl⟩
  subst hvo
  have HP := Lib.hid hp
  have c5 := HC5.out _ hp.bel
  clear hp
  by_cases hlt : k < v.segs.length
  ·have z0 : (k : Int) < (v.segs.length : Int) := by omega
   have z1 : (0 : Int) ≤ (k : Int) := by omega
   obtain ⟨ad, s, rfl, hx, _, had, v0, v1, hsc, har, hst⟩ := HS.out.at_ hlt
   obtain ⟨AA, cA, rfl⟩ := har.form
   obtain ⟨AZ, cZ, rfl⟩ := hst.form
   have had2 : (ad.add (k * 11)).block < w.heap.size := by rw [block_of_add]; exact had
   obtain ⟨f0, f1, f2, f3, f4, f5, f6, f7, f8, f9, f10⟩ := hsc.keep (Kept.of_below (S := fun _ => True) (HW.out _ HP.out.bel)) trivial had2
   have HAR := Lib.hid har
   have HTK := Lib.hid (usesL_take hx)
   have HAL := Lib.hid (HU.out.areas s (List.mem_of_getElem? hx))
   have HUL := Lib.hid (Nat.le_trans (usesL_len v.segs k) HU.out.uses)
   have HSB := Lib.hid (Blk.new wr 58 #[.int .i64 s.start, .int .i64 s.len, .int .i64 s.kind, .slice AA s.areas.length cA, .int .i64 s.chunk, .slice AZ s.stale.length cZ, .string s.log, .string s.pool, .int .i64 s.dev, .int .i64 s.mode, .int .i64 s.done])
   have HP2 := Lib.hid (HP.out.up ((Below.refl _ _).al (.cells #[.int .i64 s.start, .int .i64 s.len, .int .i64 s.kind, .slice AA s.areas.length cA, .int .i64 s.chunk, .slice AZ s.stale.length cZ, .string s.log, .string s.pool, .int .i64 s.dev, .int .i64 s.mode, .int .i64 s.done] 58)))
   have hal := HAL.out
   have hul := HUL.out
   clear hx hsc har hst
   go_wp2_with fail
   clear f0 f1 f2 f3 f4 f5 f6 f7 f8 f9 f10 c5
   obtain ⟨wo, rfl⟩ : ∃ wo, wo = wr := ⟨_, rfl⟩
   go_loopw [3, 6] (fun v' i wx => ∃ j : Nat, j ≤ s.areas.length ∧ i = .int .i64 (j : Int) ∧ TxS wb (w.heap.size + 1) v' (usesL (v.segs.take k) ++ usedA (s.areas.take j)) wx ∧ Blk wx wo.heap.size 58 #[.int .i64 s.start, .int .i64 s.len, .int .i64 s.kind, .slice AA s.areas.length cA, .int .i64 s.chunk, .slice AZ s.stale.length cZ, .string s.log, .string s.pool, .int .i64 s.dev, .int .i64 s.mode, .int .i64 s.done]) (fun _ i _ => s.areas.length - (intOf i).toNat)
   case atStart => exact ⟨0, Nat.zero_le _, rfl, by simpa [usedA] using HP2.out, HSB.out⟩
   case round =>
    obtain ⟨j, hj, rfl, hp, hsb⟩ := hrel
    obtain ⟨vi, hvi⟩ : ∃ vi, vi = u3 := ⟨_, rfl⟩
    subst hvi
    have HP3 := Lib.hid hp
    have HSB3 := Lib.hid hsb
    clear hp hsb
    obtain ⟨e0, e1, e2, e3, e4, e5, e6, e7, e8, e9, e10⟩ := elev HSB3.out
    by_cases hjt : j < s.areas.length
    ·have y0 : (j : Int) < (s.areas.length : Int) := by omega
     have y1 : (0 : Int) ≤ (j : Int) := by omega
     obtain ⟨ap, a, rfl, hax, _, hap, hac⟩ := HAR.out.at_ hjt
     have hap2 : (ap.add (j * 3)).block < w.heap.size := by rw [block_of_add]; exact hap
     obtain ⟨a0, a1, a2⟩ := hac.keep (Kept.of_below (S := fun _ => True) (HW.out _ HP3.out.bel)) trivial hap2
     have HTA := Lib.hid (usedA_take hax)
     have hua := usedA_len (s.areas.take j)
     have htl : (s.areas.take j).length = j := by rw [List.length_take]; omega
     obtain ⟨b, hxb⟩ : ∃ b, a.vol = b := ⟨_, rfl⟩
     rw [hxb] at a0 HTA
     clear hax hac hxb
     cases b with
     | false =>
      have HE := Lib.hid (show usesL (v.segs.take k) ++ usedA (s.areas.take j) = usesL (v.segs.take k) ++ usedA (s.areas.take (j + 1)) by rw [HTA.out]; simp)
      go_wp2_with fail
      go_roundw
      case rel => exact ⟨j + 1, by omega, by go_num, HP3.out.cast HE.out, HSB3.out⟩
      case measure => simp [intOf]; omega
     | true =>
      have HE := Lib.hid (show usesL (v.segs.take k) ++ usedA (s.areas.take j) ++ [a.on] = usesL (v.segs.take k) ++ usedA (s.areas.take (j + 1)) by rw [HTA.out]; simp)
      have HSB4b := Lib.hid (HSB3.out.alloc (.cells #[.string a.on] 9))
      have HGB := Lib.hid (Blk.new wr 9 #[.string a.on])
      have HP4b := Lib.hid (HP3.out.up ((Below.refl _ _).al (.cells #[.string a.on] 9)))
      go_wp2_with (at_builtin; refine wpList_tx rfl (.tmp 32) (.tmp 39) rfl HP4b.out HGB.out (by simp only [List.length_append]; omega) rfl rfl ?_; intro A8 n8 c8 w8 hn8 hp8 ho8; have HP4 := Lib.hid hp8; have HSB4 := Lib.hid (HSB4b.out.only ho8 (fun e => HP4b.out.ne HSB4b.out (by decide) e)); clear hn8 hp8 ho8; skip)
      go_roundw
      case rel => exact ⟨j + 1, by omega, by go_num, HP4.out.cast HE.out, HSB4.out⟩
      case measure => simp [intOf]; omega
    ·obtain rfl : j = s.areas.length := by omega
     rw [List.take_length] at HP3
     have HUA := Lib.hid (usedA_len s.areas)
     have hua := HUA.out
     have HUS := Lib.hid (usesS_eq s)
     by_cases hlog : s.log = ⟨#[]⟩
     ·have q1 : s.log.toList.isEmpty = true := by rw [hlog]; kernel_rfl
      by_cases hpool : s.pool = ⟨#[]⟩
      ·have q2 : s.pool.toList.isEmpty = true := by rw [hpool]; kernel_rfl
       have HE := Lib.hid (show usesL (v.segs.take k) ++ usedA s.areas = usesL (v.segs.take (k + 1)) by rw [HTK.out, HUS.out, if_pos hlog, if_pos hpool]; simp)
       clear hlog hpool
       go_wp2_with fail
       go_roundw
       case rel => exact ⟨k + 1, by omega, by go_num, HP3.out.cast HE.out⟩
       case measure => simp [intOf]; omega
      ·have q2 : s.pool.toList.isEmpty = false := Bool.eq_false_iff.2 (fun h => hpool (bytes_empty h))
       have HE := Lib.hid (show usesL (v.segs.take k) ++ usedA s.areas ++ [s.pool] = usesL (v.segs.take (k + 1)) by rw [HTK.out, HUS.out, if_pos hlog, if_neg hpool]; simp)
       clear hlog hpool
       go_wp2_with (at_builtin; have HPqpool := Lib.hid (HP3.out.up ((Below.refl _ _).al (.cells #[.string s.pool] 9))); have HBqpool := Lib.hid (HSB3.out.alloc (.cells #[.string s.pool] 9)); refine wpList_tx rfl (.tmp 52) (.tmp 55) rfl HPqpool.out (Blk.new wr 9 #[.string s.pool]) (by (try simp only [List.length_append, List.length_cons, List.length_nil]); omega) rfl rfl ?_; intro Aw4 nw4 cw4 w4 hn8 hp8 ho8; have HP4 := Lib.hid hp8; have HSBX := Lib.hid (HBqpool.out.only ho8 (fun e => HPqpool.out.ne HBqpool.out (by decide) e)); obtain ⟨e0, e1, e2, e3, e4, e5, e6, e7, e8, e9, e10⟩ := elev HSBX.out; clear hn8 hp8 ho8; skip)
       go_roundw
       case rel => exact ⟨k + 1, by omega, by go_num, HP4.out.cast HE.out⟩
       case measure => simp [intOf]; omega
     ·have q1 : s.log.toList.isEmpty = false := Bool.eq_false_iff.2 (fun h => hlog (bytes_empty h))
      by_cases hpool : s.pool = ⟨#[]⟩
      ·have q2 : s.pool.toList.isEmpty = true := by rw [hpool]; kernel_rfl
       have HE := Lib.hid (show usesL (v.segs.take k) ++ usedA s.areas ++ [s.log] = usesL (v.segs.take (k + 1)) by rw [HTK.out, HUS.out, if_neg hlog, if_pos hpool]; simp)
       clear hlog hpool
       go_wp2_with (at_builtin; have HPqlog := Lib.hid (HP3.out.up ((Below.refl _ _).al (.cells #[.string s.log] 9))); have HBqlog := Lib.hid (HSB3.out.alloc (.cells #[.string s.log] 9)); refine wpList_tx rfl (.tmp 44) (.tmp 47) rfl HPqlog.out (Blk.new wr 9 #[.string s.log]) (by (try simp only [List.length_append, List.length_cons, List.length_nil]); omega) rfl rfl ?_; intro Aw4 nw4 cw4 w4 hn8 hp8 ho8; have HP4 := Lib.hid hp8; have HSBX := Lib.hid (HBqlog.out.only ho8 (fun e => HPqlog.out.ne HBqlog.out (by decide) e)); obtain ⟨e0, e1, e2, e3, e4, e5, e6, e7, e8, e9, e10⟩ := elev HSBX.out; clear hn8 hp8 ho8; skip)
       go_roundw
       case rel => exact ⟨k + 1, by omega, by go_num, HP4.out.cast HE.out⟩
       case measure => simp [intOf]; omega
      ·have q2 : s.pool.toList.isEmpty = false := Bool.eq_false_iff.2 (fun h => hpool (bytes_empty h))
       have HE := Lib.hid (show usesL (v.segs.take k) ++ usedA s.areas ++ [s.log] ++ [s.pool] = usesL (v.segs.take (k + 1)) by rw [HTK.out, HUS.out, if_neg hlog, if_neg hpool]; simp)
       clear hlog hpool
       go_wp2_with (first | (at_builtin; have HPqlog := Lib.hid (HP3.out.up ((Below.refl _ _).al (.cells #[.string s.log] 9))); have HBqlog := Lib.hid (HSB3.out.alloc (.cells #[.string s.log] 9)); refine wpList_tx rfl (.tmp 44) (.tmp 47) rfl HPqlog.out (Blk.new wr 9 #[.string s.log]) (by (try simp only [List.length_append, List.length_cons, List.length_nil]); omega) rfl rfl ?_; intro Aw4 nw4 cw4 w4 hn8 hp8 ho8; have HP4 := Lib.hid hp8; have HSBX := Lib.hid (HBqlog.out.only ho8 (fun e => HPqlog.out.ne HBqlog.out (by decide) e)); obtain ⟨e0, e1, e2, e3, e4, e5, e6, e7, e8, e9, e10⟩ := elev HSBX.out; clear hn8 hp8 ho8; skip) | (at_builtin; have HPqpool := Lib.hid (HP4.out.up ((Below.refl _ _).al (.cells #[.string s.pool] 9))); have HBqpool := Lib.hid (HSBX.out.alloc (.cells #[.string s.pool] 9)); refine wpList_tx rfl (.tmp 52) (.tmp 55) rfl HPqpool.out (Blk.new w4 9 #[.string s.pool]) (by (try simp only [List.length_append, List.length_cons, List.length_nil]); omega) rfl rfl ?_; intro Aw5 nw5 cw5 w5 hn8 hp8 ho8; have HP5 := Lib.hid hp8; have HSBY := Lib.hid (HBqpool.out.only ho8 (fun e => HPqpool.out.ne HBqpool.out (by decide) e)); obtain ⟨e0, e1, e2, e3, e4, e5, e6, e7, e8, e9, e10⟩ := elev HSBY.out; clear hn8 hp8 ho8; skip))
       go_roundw
       case rel => exact ⟨k + 1, by omega, by go_num, HP5.out.cast HE.out⟩
       case measure => simp [intOf]; omega
  ·obtain rfl : k = v.segs.length := by omega
   have HE := Lib.hid (show usesL (v.segs.take v.segs.length) = usesV v by rw [List.take_length]; rfl)
   go_wp2_with fail
   go_ret
   have hr := (HE.out ▸ HP.out : TxS wb (w.heap.size + 1) vo (usesV v) wr).ret
   obtain ⟨A, c, e, h1, h2⟩ := hr
   exact ⟨A, c, e, TL.keep h1 Kept.same (fun g hg => by have := HSW.out; omega), HW.out _ h2⟩
end Go.Proofs.YtdkcfgahdcpkkaaDoor
