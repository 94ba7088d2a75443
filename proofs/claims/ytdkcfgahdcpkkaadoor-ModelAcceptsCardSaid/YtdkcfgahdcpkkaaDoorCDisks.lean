/- Rule 2. -/
import Derived.Test.YtdkcfgahdcpkkaaDoorCCk
import Derived.BigQuiet
import Derived.Deep.QuietTactic
set_option linter.all false
namespace Go.Proofs.YtdkcfgahdcpkkaaDoor
open Go.RowKit
set_option maxRecDepth 100000
theorem nine9 {W : World} {g : Nat} {T : TypeId} {v0 v1 v2 v3 v4 v5 v6 v7 v8 : Value} (h : Blk W g T #[v0, v1, v2, v3, v4, v5, v6, v7, v8]) : W.cell? ⟨g, 0, none⟩ = some v0 ∧ W.cell? ⟨g, 1, none⟩ = some v1 ∧ W.cell? ⟨g, 2, none⟩ = some v2 ∧ W.cell? ⟨g, 3, none⟩ = some v3 ∧ W.cell? ⟨g, 4, none⟩ = some v4 ∧ W.cell? ⟨g, 5, none⟩ = some v5 ∧ W.cell? ⟨g, 6, none⟩ = some v6 ∧ W.cell? ⟨g, 7, none⟩ = some v7 ∧ W.cell? ⟨g, 8, none⟩ = some v8 :=
  ⟨by rw [h.cell 0]; rfl, by rw [h.cell 1]; rfl, by rw [h.cell 2]; rfl, by rw [h.cell 3]; rfl, by rw [h.cell 4]; rfl, by rw [h.cell 5]; rfl, by rw [h.cell 6]; rfl, by rw [h.cell 7]; rfl, by rw [h.cell 8]; rfl⟩
set_option maxHeartbeats 8000000 in
theorem k5_ {w : World} {gc : Nat} {g : Gr} {At Ad Av Ah : Option Addr} {ct cd cv ch : Nat} {vm : Value} (h : Ck w gc g At Ad Av Ah ct cd cv ch vm) (hz : Szg g) :
    Calls Tryd.prog 33 #[.pointer (some ⟨gc, 0, none⟩)] w (Ret (zU_ (⟨#[]⟩, yT_ g)) w) := by
  obtain ⟨c0, c1, c2, c3, c4, c5, c6, c7, c8, c9⟩ := nine h.blk;have H := hD h;obtain ⟨o, ho⟩ : ∃ o : Obj, o = (.cells (grX g At ct Ad cd Av cv Ah ch) 31) := ⟨_, rfl⟩;have hb0 : Bel w (w.alloc o) := (Below.refl _ _).al _;have HB0 := hD hb0;have HV := hD (xH_ g.name (w.alloc o) hz.name (h.suf.below hb0 h.suf.pos))
  have HG := hD (show ∀ w', Bel (w.alloc o) w' → Blk w' w.heap.size 31 (grX g At ct Ad cd Av cv Ah ch) from fun w' hb => by
    subst ho;exact (Blk.new w _ _).below hb (Blk.new w _ _).lt)
  clear h hb0;obtain ⟨b, hv⟩ : ∃ b, visB g.name = b := ⟨_, rfl⟩;rw [hv] at HV;subst ho;go_enter Tryd.func33, Tryd.ntmps33
  go_wp2_with fail
  refine HV.out.mono ?_;rintro e w1 ⟨rfl, hb1⟩;have HB1 := hD (HB0.out.next hb1);obtain ⟨d0, d1, d2, d3, d4, d5, d6, d7, d8⟩ := nine9 (HG.out w1 hb1);have HH := hD hb1;clear hb1;cases b with
  | false =>
    have HE := hD (show yT_ g = 10 by unfold yT_; rw [if_pos hv]);clear hv;go_wp2_with fail
    go_ret2
    exact ⟨by rw [HE.out]; rfl, HB1.out⟩
  | true =>
    by_cases h1 : g.seq < 0 ∨ 1048575 < g.seq ∨ g.extent < 1 ∨ 1024 < g.extent ∨ g.next < 0 ∨ 1073741824 < g.next
    · have HE := hD (show yT_ g = 1 by unfold yT_; rw [if_neg (by rw [hv]; simp), if_pos h1])
      clear hv;go_wp2_with fail
      all_goals
        go_ret2
        exact ⟨by rw [HE.out]; rfl, HB1.out⟩
    have h1' := h1;simp only [not_or] at h1';obtain ⟨e0, e1, e2, e3, e4, e5⟩ := h1';by_cases h2 : 8 < g.disks.length ∨ 32 < g.vols.length ∨ 32 < g.hist.length
    · have HE := hD (show yT_ g = 4 by unfold yT_; rw [if_neg (by rw [hv]; simp), if_neg h1, if_pos h2])
      clear hv h1;go_wp2_with fail
      all_goals first
        | (go_ret2
           exact ⟨by rw [HE.out]; rfl, HB1.out⟩)
        | (exfalso; omega)
    obtain ⟨et, het⟩ : ∃ et, yj_ g.tags = et := ⟨_, rfl⟩;have HT := hD (jg_ (H.out.up HB1.out).tl);rw [het] at HT;have HE := hD (show yT_ g = if et = 0 then (if g.hist.all yH_ then 0 else 2) else et by unfold yT_; rw [if_neg (by rw [hv]; simp), if_neg h1, if_neg h2, het]);have h2' := h2;simp only [not_or] at h2';obtain ⟨e6, e7, e8⟩ := h2';have e6' : ¬ (8 : Int) < (g.disks.length : Int) := by omega
    have e7' : ¬ (32 : Int) < (g.vols.length : Int) := by omega
    have e8' : ¬ (32 : Int) < (g.hist.length : Int) := by omega
    clear h1 h2 hv het;go_wp2_with fail
    refine HT.out.mono ?_;rintro e w2 ⟨rfl, hb2⟩;have HB2 := hD (HB1.out.next hb2);obtain ⟨d0, d1, d2, d3, d4, d5, d6, d7, d8⟩ := nine9 (HG.out w2 (HH.out.next hb2));clear hb2;by_cases h0 : et = 0
    case neg =>
      have HE2 := hD (show yT_ g = et by rw [HE.out, if_neg h0]);have q : (et != 0) = true := by simp [h0]
      clear h0;go_wp2_with fail
      go_ret2
      exact ⟨by rw [HE2.out]; rfl, HB2.out⟩
    subst h0;go_wp2_with fail
    clear d0 d1 d2 d3 d4 d5 d6 d7 d8 c0 c1 c2 c3 c4 c5 c6 c7 c8 c9;have HE2 := hD (show yT_ g = if g.hist.all yH_ then 0 else 2 by rw [HE.out]; simp);go_loopw [72] (fun i wx => ∃ k : Nat, k ≤ g.hist.length ∧ i = .int .i64 (k : Int) ∧ (∀ j x, j < k → g.hist[j]? = some x → yH_ x = true) ∧ Bel w wx) (fun i _ => g.hist.length - (intOf i).toNat)
    case atStart => exact ⟨0, Nat.zero_le _, rfl, fun j t h => absurd h (Nat.not_lt_zero _), HB2.out⟩
    case round =>
      obtain ⟨k, hk, rfl, hall, hb⟩ := hrel;have HA := hD hall;have HB := hD hb;clear hall hb HB2 HB1 HV HT HG HH;by_cases hlt : k < g.hist.length
      · have z0 : (k : Int) < (g.hist.length : Int) := by omega
        have z1 : (0 : Int) ≤ (k : Int) := by omega
        obtain ⟨ad, x, rfl, hx, _, had, h3⟩ := (H.out.up HB.out).hl.at_ hlt;have p0 := h3.c0;have p1 := h3.c1;have p2 := h3.c2;have hba : Bel wr (wr.alloc (.cells #[.string x.name, .int .u64 x.id, .int .i64 x.seq] 70)) := (Below.refl _ _).al _;have HBA := hD hba;have HV := hD (xH_ x.name _ (hz.hist x (List.mem_of_getElem? hx)) ((H.out.up (HB.out.next hba)).suf));have HN := hD (show ∀ w', Bel (wr.alloc (.cells #[.string x.name, .int .u64 x.id, .int .i64 x.seq] 70)) w' → Blk w' wr.heap.size 70 #[.string x.name, .int .u64 x.id, .int .i64 x.seq] from fun w' hb => (Blk.new wr _ _).below hb (Blk.new wr _ _).lt);obtain ⟨b, hv⟩ : ∃ b, visB x.name = b := ⟨_, rfl⟩;rw [hv] at HV;clear hba h3;go_wp2_with fail
        refine HV.out.mono ?_;rintro e w3 ⟨rfl, hb3⟩;have HB3 := hD ((HB.out.next HBA.out).next hb3);have d1 : w3.cell? ⟨wr.heap.size, 2, none⟩ = some (.int .i64 x.seq) := by rw [(HN.out w3 hb3).cell 2]; rfl
        clear hb3;by_cases hok : yH_ x = true
        · have hok' := hok
          unfold yH_ at hok';rw [hv] at hok';simp only [Bool.and_eq_true, decide_eq_true_eq] at hok';obtain ⟨⟨rfl, s1⟩, s2⟩ := hok'
          have HS := hD (show ∀ j y, j < k + 1 → g.hist[j]? = some y → yH_ y = true from fun j y hj hy => by
            rcases Nat.lt_or_ge j k with h | h
            · exact HA.out j y h hy
            · obtain rfl : j = k := by omega
              rw [hx] at hy; injection hy with hy; subst hy;exact hok)
          have s1' : ¬ x.seq < 0 := by omega
          have s2' : ¬ 1048575 < x.seq := by omega
          clear hok hv hx s1 s2;go_wp2_with fail
          go_roundw
          case rel => exact ⟨k + 1, by omega, by go_num, HS.out, HB3.out⟩
          case measure => simp [intOf]; omega
        · have HF := hD (show g.hist.all yH_ = false from Bool.eq_false_iff.2 (fun h => hok (List.all_eq_true.1 h x (List.mem_of_getElem? hx))))
          have hok' := hok;unfold yH_ at hok';rw [hv] at hok';simp only [Bool.and_eq_true, decide_eq_true_eq] at hok';clear hok hv hx;cases b
          all_goals
            go_wp2_with fail
          all_goals first
            | (exfalso; simp at hok'; omega)
            | (go_ret2
               exact ⟨by rw [HE2.out, HF.out]; rfl, HB3.out⟩)
      · obtain rfl : k = g.hist.length := by omega
        have HF := hD (show g.hist.all yH_ = true from List.all_eq_true.2 (fun x hx => by
          obtain ⟨j, hj⟩ := List.getElem?_of_mem hx;exact HA.out j x (List.getElem?_eq_some_iff.1 hj).1 hj))
        go_wp2_with fail
        go_ret2
        exact ⟨by rw [HE2.out, HF.out]; rfl, HB.out⟩
theorem yi_ (a b : ByteArray) : (a.toList == b.toList) = decide (a = b) := by
  rw [ByteArray.toList_eq, ByteArray.toList_eq];by_cases h : a = b
  · subst h; simp
  · rw [decide_eq_false h]
    refine beq_eq_false_iff_ne.2 fun e => h ?_;obtain ⟨⟨l⟩⟩ := a;obtain ⟨⟨m⟩⟩ := b;simp only at e;subst e;rfl
theorem q8_ {α : Type} {p : α → Bool} {l : List α} {k : Nat} {t : α} (h : l[k]? = some t) (hn : ∀ x ∈ l.take k, p x = false) (hp : p t = true) : l.findIdx? p = some k := by
  obtain ⟨hk, e⟩ := List.getElem?_eq_some_iff.1 h;rw [List.findIdx?_eq_some_iff_getElem];refine ⟨hk, by rw [e]; exact hp, fun j hj => ?_⟩;rw [hn l[j] (List.mem_iff_getElem.2 ⟨j, by rw [List.length_take]; omega, by simp⟩)];exact Bool.false_ne_true
theorem jZ_ {α : Type} {p : α → Bool} {l : List α} {k : Nat} {t : α} (h : l[k]? = some t) (hn : ∀ x ∈ l.take k, p x = false) (hp : p t = false) : ∀ x ∈ l.take (k + 1), p x = false := by
  obtain ⟨hk, e⟩ := List.getElem?_eq_some_iff.1 h;rw [List.take_succ_eq_append_getElem hk, e];intro x hx;rcases List.mem_append.1 hx with h1 | h1
  · exact hn x h1
  · simp at h1; rw [h1]; exact hp
def optI : Option Nat → Int
  | some i => i
  | none => -1
theorem kX_ {α : Type} {p : α → Bool} {l : List α} : decide (0 ≤ optI (l.findIdx? p)) = l.any p := by
  cases h : l.findIdx? p with
  | none =>
    rw [List.findIdx?_eq_none_iff] at h;rw [show optI none = -1 from rfl];have : l.any p = false := by rw [List.any_eq_false]; intro x hx; rw [h x hx]; decide
    rw [this]; rfl
  | some i =>
    obtain ⟨hi, hp, _⟩ := List.findIdx?_eq_some_iff_getElem.1 h;rw [show optI (some i) = (i : Int) from rfl];have : l.any p = true := List.any_eq_true.2 ⟨l[i], List.getElem_mem hi, hp⟩;rw [this];exact decide_eq_true (by omega)
def twDk (s : ByteArray) (id : Int) (x : Dk) : Bool := decide (x.name = s) || decide (x.id = id)
theorem Yl_ {x : Dk} {v0 : Value} {gd : Nat} {s : ByteArray} {id : Int} {w : World} (hb : w.cell? ⟨gd, 0, none⟩ = some (.string s)) (hb1 : w.cell? ⟨gd, 1, none⟩ = some (.int .u64 id)) {q : Bool} (hq : twDk s id x = q) :
    Calls Tryd.prog 72 #[.agg (dkA x v0), .pointer (some ⟨gd, 0, none⟩)] w (Ret (.bool q) w) := by
  have hlt : gd < w.heap.size := zD_ hb
  have hq' : ((x.name.toList == s.toList) || (x.id == id)) = q := by
    rw [yi_, ← hq];unfold twDk;by_cases h : x.id = id <;> simp [h]
  unfold dkA;generalize x.name = nm at *;generalize x.id = xi at *;clear hq;cases h1 : (nm.toList == s.toList) <;> cases h2 : (xi == id) <;> rw [h1, h2] at hq' <;> simp at hq' <;> subst hq'
  all_goals
    go_enter Tryd.func72, Tryd.ntmps72
    go_wp2_with fail
    go_ret
    exact ⟨rfl, (Below.refl _ _).al _⟩
set_option maxHeartbeats 4000000 in
theorem Yh_ {A : Option Addr} {c gd : Nat} {n : Nat} {l : List Dk} {s : ByteArray} {id : Int} {S : Nat → Prop} {w : World} (hr : DL w S (.slice A l.length c) l) (hn : n ≤ l.length) (hl : l.length ≤ maxLen) (hb : w.cell? ⟨gd, 0, none⟩ = some (.string s)) (hb1 : w.cell? ⟨gd, 1, none⟩ = some (.int .u64 id)) {i : Int} (hi : optI ((l.take n).findIdx? (twDk s id)) = i) :
    Calls Tryd.prog 104 #[.slice A n c, .func (.func 72) #[] #[.pointer (some ⟨gd, 0, none⟩)]] w (Ret (.int .i64 i) w) := by
  have HR := hD hr;have HI := hD hi;have HCB := hD hb;have HCB1 := hD hb1;have hl2 := hl;unfold maxLen at hl2;have hlt0 : gd < w.heap.size := zD_ hb;clear hr hi hb hb1;go_enter Tryd.func104, Tryd.ntmps104
  go_wp2_with fail
  go_loopw [8] (fun v wr => ∃ k : Nat, k ≤ n ∧ v = .int .i64 (k : Int) ∧ (∀ x ∈ l.take k, twDk s id x = false) ∧ Bel w wr) (fun v _ => n - (intOf v).toNat)
  case atStart => exact ⟨0, by omega, rfl, by simp, Below.refl _ _⟩
  case round =>
    obtain ⟨k, hk, rfl, hx, hbw⟩ := hrel;have HX := hD hx;have HB := hD hbw;clear hx hbw;by_cases hlt : k < n
    · have j0 : (k : Int) < (n : Int) := by omega
      have j1 : (0 : Int) ≤ (k : Int) := by omega
      obtain ⟨ad, t, rfl, ht, _, had, h6⟩ := (HR.out.up HB.out).at_ (show k < l.length by omega);have HT := hD ht;have HC1 := hD (show wr.cell? ⟨gd, 0, none⟩ = some (.string s) from (HB.out.cell (p := ⟨gd, 0, none⟩) hlt0).trans HCB.out);have HC2 := hD (show wr.cell? ⟨gd, 1, none⟩ = some (.int .u64 id) from (HB.out.cell (p := ⟨gd, 1, none⟩) hlt0).trans HCB1.out);obtain ⟨v0, h7, _⟩ := h6;obtain ⟨a0, a1, a2, a3, a4, a5, a6⟩ := h7;clear ht;obtain ⟨q, hq⟩ : ∃ q, twDk s id t = q := ⟨_, rfl⟩;have HQ := hD (Yl_ (v0 := v0) HC1.out HC2.out hq);unfold dkA at HQ;cases q with
      | false =>
        have HN := hD (jZ_ HT.out HX.out hq);clear hq;go_wp2_with fail
        refine HQ.out.mono ?_;rintro e w5 ⟨rfl, hb5⟩;have HB5 := hD (HB.out.next hb5);clear hb5 a0 a1 a2 a3 a4 a5 a6;go_wp2_with fail
        go_roundw
        case rel => exact ⟨k + 1, by omega, by go_num, HN.out, HB5.out⟩
        case measure => simp [intOf]; omega
      | true =>
        have HE := hD (show i = (k : Int) by
          rw [← HI.out, q8_ (k := k) (by rw [List.getElem?_take, if_pos hlt]; exact HT.out) (by rw [List.take_take, Nat.min_eq_left (by omega)]; exact HX.out) hq]; rfl)
        clear hq;go_wp2_with fail
        refine HQ.out.mono ?_;rintro e w5 ⟨rfl, hb5⟩;have HB5 := hD (HB.out.next hb5);clear hb5 a0 a1 a2 a3 a4 a5 a6;go_wp2_with fail
        go_ret
        exact ⟨by rw [HE.out]; rfl, HB5.out⟩
    · obtain rfl : k = n := by omega
      have HE := hD (show i = -1 by rw [← HI.out, List.findIdx?_eq_none_iff.2 HX.out]; rfl);go_wp2_with fail
      go_ret
      exact ⟨by rw [HE.out]; rfl, HB.out⟩
theorem Yj_ {A : Option Addr} {c gd : Nat} {n : Nat} {l : List Dk} {s : ByteArray} {id : Int} {S : Nat → Prop} {w : World} (hr : DL w S (.slice A l.length c) l) (hn : n ≤ l.length) (hl : l.length ≤ maxLen) (hb : w.cell? ⟨gd, 0, none⟩ = some (.string s)) (hb1 : w.cell? ⟨gd, 1, none⟩ = some (.int .u64 id)) {q : Bool} (hq : (l.take n).any (twDk s id) = q) :
    Calls Tryd.prog 71 #[.slice A n c, .func (.func 72) #[] #[.pointer (some ⟨gd, 0, none⟩)]] w (Ret (.bool q) w) := by
  have h := @kX_ _ (twDk s id) (l.take n);rw [hq] at h;have HI := hD (Yh_ hr hn hl hb hb1 rfl);generalize optI ((l.take n).findIdx? (twDk s id)) = i at *;clear hr hb hq hb1;go_enter Tryd.func71, Tryd.ntmps71
  go_wp2_with fail
  refine HI.out.mono ?_;rintro e w5 ⟨rfl, hb5⟩;go_wp2_with fail
  go_ret
  exact ⟨by first | rfl | (rw [h]), hb5⟩
def twVo (s : ByteArray) (id : Int) (x : Vo) : Bool := decide (x.name = s) || decide (x.id = id)
theorem Yk_ {x : Vo} {v0 : Value} {v1 : Value} {gd : Nat} {s : ByteArray} {id : Int} {w : World} (hb : w.cell? ⟨gd, 0, none⟩ = some (.string s)) (hb1 : w.cell? ⟨gd, 1, none⟩ = some (.int .u64 id)) {q : Bool} (hq : twVo s id x = q) :
    Calls Tryd.prog 74 #[.agg (voA x v0 v1), .pointer (some ⟨gd, 0, none⟩)] w (Ret (.bool q) w) := by
  have hlt : gd < w.heap.size := zD_ hb
  have hq' : ((x.name.toList == s.toList) || (x.id == id)) = q := by
    rw [yi_, ← hq];unfold twVo;by_cases h : x.id = id <;> simp [h]
  unfold voA;generalize x.name = nm at *;generalize x.id = xi at *;clear hq;cases h1 : (nm.toList == s.toList) <;> cases h2 : (xi == id) <;> rw [h1, h2] at hq' <;> simp at hq' <;> subst hq'
  all_goals
    go_enter Tryd.func74, Tryd.ntmps74
    go_wp2_with fail
    go_ret
    exact ⟨rfl, (Below.refl _ _).al _⟩
set_option maxHeartbeats 4000000 in
theorem Yg_ {A : Option Addr} {c gd : Nat} {n : Nat} {l : List Vo} {s : ByteArray} {id : Int} {S : Nat → Prop} {w : World} (hr : VL w S (.slice A l.length c) l) (hn : n ≤ l.length) (hl : l.length ≤ maxLen) (hb : w.cell? ⟨gd, 0, none⟩ = some (.string s)) (hb1 : w.cell? ⟨gd, 1, none⟩ = some (.int .u64 id)) {i : Int} (hi : optI ((l.take n).findIdx? (twVo s id)) = i) :
    Calls Tryd.prog 105 #[.slice A n c, .func (.func 74) #[] #[.pointer (some ⟨gd, 0, none⟩)]] w (Ret (.int .i64 i) w) := by
  have HR := hD hr;have HI := hD hi;have HCB := hD hb;have HCB1 := hD hb1;have hl2 := hl;unfold maxLen at hl2;have hlt0 : gd < w.heap.size := zD_ hb;clear hr hi hb hb1;go_enter Tryd.func105, Tryd.ntmps105
  go_wp2_with fail
  go_loopw [8] (fun v wr => ∃ k : Nat, k ≤ n ∧ v = .int .i64 (k : Int) ∧ (∀ x ∈ l.take k, twVo s id x = false) ∧ Bel w wr) (fun v _ => n - (intOf v).toNat)
  case atStart => exact ⟨0, by omega, rfl, by simp, Below.refl _ _⟩
  case round =>
    obtain ⟨k, hk, rfl, hx, hbw⟩ := hrel;have HX := hD hx;have HB := hD hbw;clear hx hbw;by_cases hlt : k < n
    · have j0 : (k : Int) < (n : Int) := by omega
      have j1 : (0 : Int) ≤ (k : Int) := by omega
      obtain ⟨ad, t, rfl, ht, _, had, h6⟩ := (HR.out.up HB.out).at_ (show k < l.length by omega);have HT := hD ht;have HC1 := hD (show wr.cell? ⟨gd, 0, none⟩ = some (.string s) from (HB.out.cell (p := ⟨gd, 0, none⟩) hlt0).trans HCB.out);have HC2 := hD (show wr.cell? ⟨gd, 1, none⟩ = some (.int .u64 id) from (HB.out.cell (p := ⟨gd, 1, none⟩) hlt0).trans HCB1.out);obtain ⟨v0, v1, h7, _⟩ := h6;obtain ⟨a0, a1, a2, a3, a4, a5⟩ := h7;clear ht;obtain ⟨q, hq⟩ : ∃ q, twVo s id t = q := ⟨_, rfl⟩;have HQ := hD (Yk_ (v0 := v0) (v1 := v1) HC1.out HC2.out hq);unfold voA at HQ;cases q with
      | false =>
        have HN := hD (jZ_ HT.out HX.out hq);clear hq;go_wp2_with fail
        refine HQ.out.mono ?_;rintro e w5 ⟨rfl, hb5⟩;have HB5 := hD (HB.out.next hb5);clear hb5 a0 a1 a2 a3 a4 a5;go_wp2_with fail
        go_roundw
        case rel => exact ⟨k + 1, by omega, by go_num, HN.out, HB5.out⟩
        case measure => simp [intOf]; omega
      | true =>
        have HE := hD (show i = (k : Int) by
          rw [← HI.out, q8_ (k := k) (by rw [List.getElem?_take, if_pos hlt]; exact HT.out) (by rw [List.take_take, Nat.min_eq_left (by omega)]; exact HX.out) hq]; rfl)
        clear hq;go_wp2_with fail
        refine HQ.out.mono ?_;rintro e w5 ⟨rfl, hb5⟩;have HB5 := hD (HB.out.next hb5);clear hb5 a0 a1 a2 a3 a4 a5;go_wp2_with fail
        go_ret
        exact ⟨by rw [HE.out]; rfl, HB5.out⟩
    · obtain rfl : k = n := by omega
      have HE := hD (show i = -1 by rw [← HI.out, List.findIdx?_eq_none_iff.2 HX.out]; rfl);go_wp2_with fail
      go_ret
      exact ⟨by rw [HE.out]; rfl, HB.out⟩
theorem Yi_ {A : Option Addr} {c gd : Nat} {n : Nat} {l : List Vo} {s : ByteArray} {id : Int} {S : Nat → Prop} {w : World} (hr : VL w S (.slice A l.length c) l) (hn : n ≤ l.length) (hl : l.length ≤ maxLen) (hb : w.cell? ⟨gd, 0, none⟩ = some (.string s)) (hb1 : w.cell? ⟨gd, 1, none⟩ = some (.int .u64 id)) {q : Bool} (hq : (l.take n).any (twVo s id) = q) :
    Calls Tryd.prog 73 #[.slice A n c, .func (.func 74) #[] #[.pointer (some ⟨gd, 0, none⟩)]] w (Ret (.bool q) w) := by
  have h := @kX_ _ (twVo s id) (l.take n);rw [hq] at h;have HI := hD (Yg_ hr hn hl hb hb1 rfl);generalize optI ((l.take n).findIdx? (twVo s id)) = i at *;clear hr hb hq hb1;go_enter Tryd.func73, Tryd.ntmps73
  go_wp2_with fail
  refine HI.out.mono ?_;rintro e w5 ⟨rfl, hb5⟩;go_wp2_with fail
  go_ret
  exact ⟨by first | rfl | (rw [h]), hb5⟩
theorem q7_ {α : Type} {f : Nat → α → Int} {nm : α → ByteArray} {x : α} : ∀ (l : List α) (k0 k : Nat), (∀ j y, j < k → l[j]? = some y → f (k0 + j) y = 0) → l[k]? = some x → f (k0 + k) x ≠ 0 → zM_ f nm k0 l = (nm x, f (k0 + k) x)
  | [], k0, k, _, h, _ => by simp at h
  | u :: r, k0, 0, _, h, hb => by
    simp at h;subst h;rw [zM_, if_neg (by exact hb)];rfl
  | u :: r, k0, k + 1, hall, h, hb => by
    rw [zM_, if_pos (show f k0 u = 0 from hall 0 u (by omega) rfl), q7_ r (k0 + 1) k (fun j y hj hy => by rw [show k0 + 1 + j = k0 + (j + 1) by omega]; exact hall (j + 1) y (by omega) (by simpa using hy)) (by simpa using h) (by rw [show k0 + 1 + k = k0 + (k + 1) by omega]; exact hb)];rw [show k0 + 1 + k = k0 + (k + 1) by omega]
theorem j9_ {α : Type} {f : Nat → α → Int} {nm : α → ByteArray} : ∀ (l : List α) (k0 : Nat), (∀ j y, l[j]? = some y → f (k0 + j) y = 0) → zM_ f nm k0 l = (⟨#[]⟩, 0)
  | [], k0, _ => rfl
  | u :: r, k0, hall => by
    rw [zM_, if_pos (show f k0 u = 0 from hall 0 u rfl), j9_ r (k0 + 1) (fun j y hy => by rw [show k0 + 1 + j = k0 + (j + 1) by omega]; exact hall (j + 1) y (by simpa using hy))]
theorem zi_ {α : Type} {f : Nat → α → Int} {nm : α → ByteArray} {x : α} {l : List α} {k : Nat} {e : Int} (hall : ∀ j y, j < k → l[j]? = some y → f j y = 0) (h : l[k]? = some x) (he : f k x = e) (hb : e ≠ 0) : zM_ f nm 0 l = (nm x, e) := by
  subst he;have := q7_ (f := f) (nm := nm) l 0 k (fun j y hj hy => by rw [Nat.zero_add]; exact hall j y hj hy) h (by rw [Nat.zero_add]; exact hb);rw [Nat.zero_add] at this;exact this
theorem z2_ {α : Type} {f : Nat → α → Int} {nm : α → ByteArray} {l : List α} (hall : ∀ j y, j < l.length → l[j]? = some y → f j y = 0) : zM_ f nm 0 l = (⟨#[]⟩, 0) :=
  j9_ l 0 (fun j y hy => by rw [Nat.zero_add]; exact hall j y (List.getElem?_eq_some_iff.1 hy).1 hy)
theorem zk_ {α : Type} {P : Nat → α → Prop} {l : List α} {k : Nat} {x : α} (hall : ∀ j y, j < k → l[j]? = some y → P j y) (hx : l[k]? = some x) (h : P k x) : ∀ j y, j < k + 1 → l[j]? = some y → P j y := fun j y hj hy => by
  rcases Nat.lt_or_ge j k with h' | h'
  · exact hall j y h' hy
  · obtain rfl : j = k := by omega
    rw [hx] at hy; injection hy with hy; subst hy;exact h
theorem seven {W : World} {g : Nat} {T : TypeId} {v0 v1 v2 v3 v4 v5 v6 : Value} (h : Blk W g T #[v0, v1, v2, v3, v4, v5, v6]) : W.cell? ⟨g, 0, none⟩ = some v0 ∧ W.cell? ⟨g, 1, none⟩ = some v1 ∧ W.cell? ⟨g, 2, none⟩ = some v2 ∧ W.cell? ⟨g, 3, none⟩ = some v3 ∧ W.cell? ⟨g, 4, none⟩ = some v4 ∧ W.cell? ⟨g, 5, none⟩ = some v5 ∧ W.cell? ⟨g, 6, none⟩ = some v6 :=
  ⟨by rw [h.cell 0]; rfl, by rw [h.cell 1]; rfl, by rw [h.cell 2]; rfl, by rw [h.cell 3]; rfl, by rw [h.cell 4]; rfl, by rw [h.cell 5]; rfl, by rw [h.cell 6]; rfl⟩
theorem Qy_ {a b : Int} (h0 : 0 ≤ a) (h1 : a ≤ 4096) (h2 : 1 ≤ b) (h3 : b ≤ 1024) : -9223372036854775808 ≤ a * b ∧ a * b ≤ 9223372036854775807 := by
  have := Int.mul_nonneg h0 (show 0 ≤ b by omega);have : a * b ≤ 4096 * 1024 := Int.mul_le_mul h1 h3 (by omega) (by omega);omega
theorem Qs_ {c a b : Int} (g0 : 0 ≤ c) (g1 : c ≤ 65536) (h0 : 0 ≤ a) (h1 : a ≤ 4096) (h2 : 1 ≤ b) (h3 : b ≤ 1024) : -9223372036854775808 ≤ c + a * b ∧ c + a * b ≤ 9223372036854775807 := by
  have := Int.mul_nonneg h0 (show 0 ≤ b by omega);have : a * b ≤ 4096 * 1024 := Int.mul_le_mul h1 h3 (by omega) (by omega);omega
theorem LR.cap {α : Type} {w : World} {S : Nat → Prop} {size : Nat} {a : Addr → α → Prop} {l : List α} {A : Option Addr} {n c : Nat} (h : LR w S size a (.slice A n c) l) : n = l.length ∧ l.length ≤ c := by
  obtain ⟨A', c', e, hc, _⟩ := h;injection e with e1 e2 e3;omega
set_option maxHeartbeats 8000000 in
theorem ke_ {w : World} {gc : Nat} {g : Gr} {At Ad Av Ah : Option Addr} {ct cd cv ch : Nat} {vm : Value} (h : Ck w gc g At Ad Av Ah ct cd cv ch vm) (hz : Szg g) (he : 1 ≤ g.extent ∧ g.extent ≤ 1024) :
    Calls Tryd.prog 34 #[.pointer (some ⟨gc, 0, none⟩)] w (Ret (zU_ (yl_ g)) w) := by
  obtain ⟨c0, c1, c2, c3, c4, c5, c6, c7, c8, c9⟩ := nine h.blk;have H := hD h;have hlen := h.len.1;unfold maxLen at hlen;clear h;go_enter Tryd.func34, Tryd.ntmps34
  go_wp2_with fail
  clear c0 c1 c2 c3 c4 c5 c6 c7 c8 c9;go_loopw [14] (fun i wx => ∃ k : Nat, k ≤ g.disks.length ∧ i = .int .i64 (k : Int) ∧ (∀ j x, j < k → g.disks[j]? = some x → xC_ g j x = 0) ∧ Bel w wx) (fun i _ => g.disks.length - (intOf i).toNat)
  case atStart => exact ⟨0, Nat.zero_le _, rfl, fun j t h => absurd h (Nat.not_lt_zero _), Below.refl _ _⟩
  case round =>
    obtain ⟨k, hk, rfl, hall, hb⟩ := hrel;have HA := hD hall;have HB := hD hb;clear hall hb;by_cases hlt : k < g.disks.length
    · have z0 : (k : Int) < (g.disks.length : Int) := by omega
      have z1 : (0 : Int) ≤ (k : Int) := by omega
      have z2 : (k : Int) ≤ (cd : Int) := by have := (H.out.up HB.out).dl.cap; omega
      obtain ⟨ad, x, rfl, hx, _, had, h7⟩ := (H.out.up HB.out).dl.at_ hlt;obtain ⟨v0, h7, htl⟩ := h7;obtain ⟨a0, a1, a2, a3, a4, a5, a6⟩ := h7;obtain ⟨Bt, bt, rfl⟩ := htl.form;have HX := hD hx;have hba : Bel wr (wr.alloc (.cells (dkX x Bt bt) 46)) := (Below.refl _ _).al _;have HBA := hD (HB.out.next hba);have HR0 := hD hba;have HTG := hD (fun w' (hb : Bel wr w') => jg_ (TL.up htl hb));obtain ⟨c0, c1, c2, c3, c4, c5, c6, c7, c8, c9⟩ := nine (H.out.up HBA.out).blk;have HN := hD (show ∀ w', Bel (wr.alloc (.cells (dkX x Bt bt) 46)) w' → Blk w' wr.heap.size 46 (dkX x Bt bt) from fun w' hb => (Blk.new wr _ _).below hb (Blk.new wr _ _).lt);obtain ⟨d0, d1, d2, d3, d4, d5, d6⟩ := seven (HN.out _ (Below.refl _ _));obtain ⟨q, hq⟩ : ∃ q, x0_ g k x = q := ⟨_, rfl⟩;have HQ := hD (Yj_ (w := wr.alloc (.cells (dkX x Bt bt) 46)) (H.out.up HBA.out).dl (Nat.le_of_lt hlt) (H.out.len.1) d0 d1 (show (g.disks.take k).any (twDk x.name x.id) = q from hq));clear d0 d1 d2 d3 d4 d5 d6 hx hba htl;go_wp2_with fail
      refine HQ.out.mono ?_;rintro e w1 ⟨rfl, hb1⟩;have HB1 := hD (HBA.out.next hb1);have HR1 := hD (HR0.out.next hb1);have HN1 := hD (fun w' hb => HN.out w' (hb1.next hb));obtain ⟨d0, d1, d2, d3, d4, d5, d6⟩ := seven (HN.out _ hb1);obtain ⟨b, hv⟩ : ∃ b, visB x.name = b := ⟨_, rfl⟩;have HV := hD (xH_ x.name w1 (hz.disks x (List.mem_of_getElem? HX.out)) (H.out.up HB1.out).suf);rw [hv] at HV;clear a0 a1 a2 a3 a4 a5 a6 c0 c1 c2 c3 c4 c5 c6 c7 c8 c9 hb1 HN HQ HBA;go_wp2_with fail
      refine HV.out.mono ?_;rintro e w2 ⟨rfl, hb2⟩;have HB2 := hD (HB1.out.next hb2);have HR2 := hD (HR1.out.next hb2);have HN2 := hD (fun w' hb => HN1.out w' (hb2.next hb));obtain ⟨d0, d1, d2, d3, d4, d5, d6⟩ := seven (HN1.out _ hb2);obtain ⟨c0, c1, c2, c3, c4, c5, c6, c7, c8, c9⟩ := nine (H.out.up HB2.out).blk;clear hb2 HV HN1 HB1;cases b with
      | false =>
        have HE := hD (show yl_ g = (x.name, 10) from zi_ HA.out HX.out (show xC_ g k x = 10 by unfold xC_; rw [if_pos hv]) (by decide));clear hv hq;go_wp2_with fail
        go_ret2
        exact ⟨by rw [HE.out]; rfl, HB2.out⟩
      | true =>
        cases q with
        | true =>
          have HE := hD (show yl_ g = (x.name, 9) from zi_ HA.out HX.out (show xC_ g k x = 9 by unfold xC_; rw [if_neg (by rw [hv]; simp), if_pos hq]) (by decide));clear hv hq;go_wp2_with fail
          go_ret2
          exact ⟨by rw [HE.out]; rfl, HB2.out⟩
        | false =>
          by_cases h1 : x.first < 0 ∨ 65536 < x.first ∨ x.ext < 0 ∨ 4096 < x.ext ∨ 65536 < x.first + x.ext * g.extent
          · have HE := hD (show yl_ g = (x.name, 1) from zi_ HA.out HX.out (show xC_ g k x = 1 by unfold xC_; rw [if_neg (by rw [hv]; simp), if_neg (by rw [hq]; simp), if_pos h1]) (by decide))
            clear hv hq
            have hcs : x.first < 0 ∨ (¬ x.first < 0 ∧ 65536 < x.first) ∨ (¬ x.first < 0 ∧ ¬ 65536 < x.first ∧ x.ext < 0) ∨ (¬ x.first < 0 ∧ ¬ 65536 < x.first ∧ ¬ x.ext < 0 ∧ 4096 < x.ext) ∨ (¬ x.first < 0 ∧ ¬ 65536 < x.first ∧ ¬ x.ext < 0 ∧ ¬ 4096 < x.ext ∧ 65536 < x.first + x.ext * g.extent) := by
              generalize x.first + x.ext * g.extent = z at h1 ⊢;omega
            clear h1;rcases hcs with e0 | ⟨e0, e1⟩ | ⟨e0, e1, e2⟩ | ⟨e0, e1, e2, e3⟩ | ⟨e0, e1, e2, e3, e4⟩
            · have q0 : decide (x.first < 0) = true := decide_eq_true e0
              go_wp2_with fail
              go_quiet (fail)
              go_wp2_with fail
              go_ret2
              exact ⟨by rw [HE.out]; rfl, zg_ HB2.out _⟩
            · have q0 : decide (x.first < 0) = false := decide_eq_false e0
              have q1 : decide (65536 < x.first) = true := decide_eq_true e1;go_wp2_with fail
              go_quiet (fail)
              go_wp2_with fail
              go_ret2
              exact ⟨by rw [HE.out]; rfl, zg_ HB2.out _⟩
            · have q0 : decide (x.first < 0) = false := decide_eq_false e0
              have q1 : decide (65536 < x.first) = false := decide_eq_false e1;have q2 : decide (x.ext < 0) = true := decide_eq_true e2;go_wp2_with fail
              go_quiet (fail)
              go_wp2_with fail
              go_ret2
              exact ⟨by rw [HE.out]; rfl, zg_ HB2.out _⟩
            · have q0 : decide (x.first < 0) = false := decide_eq_false e0
              have q1 : decide (65536 < x.first) = false := decide_eq_false e1;have q2 : decide (x.ext < 0) = false := decide_eq_false e2;have q3 : decide (4096 < x.ext) = true := decide_eq_true e3;go_wp2_with fail
              go_quiet (fail)
              go_wp2_with fail
              go_ret2
              exact ⟨by rw [HE.out]; rfl, zg_ HB2.out _⟩
            · have q0 : decide (x.first < 0) = false := decide_eq_false e0
              have q1 : decide (65536 < x.first) = false := decide_eq_false e1;have q2 : decide (x.ext < 0) = false := decide_eq_false e2;have q3 : decide (4096 < x.ext) = false := decide_eq_false e3;have q4 : decide (65536 < x.first + x.ext * g.extent) = true := decide_eq_true e4;have wm : IntKind.i64.wrap (x.ext * g.extent) = x.ext * g.extent := IntWalk.i64_in _ (Qy_ (by omega) (by omega) he.1 he.2);have wa : IntKind.i64.wrap (x.first + x.ext * g.extent) = x.first + x.ext * g.extent := IntWalk.i64_in _ (Qs_ (by omega) (by omega) (by omega) (by omega) he.1 he.2);go_wp2_with fail
              go_quiet (fail)
              go_wp2_with fail
              go_ret2
              exact ⟨by rw [HE.out]; rfl, zg_ HB2.out _⟩
          · have h1' := h1
            simp only [not_or] at h1';obtain ⟨e0, e1, e2, e3, e4⟩ := h1';obtain ⟨et, het⟩ : ∃ et, yj_ x.tags = et := ⟨_, rfl⟩;have HT := hD (show xC_ g k x = et by unfold xC_; rw [if_neg (by rw [hv]; simp), if_neg (by rw [hq]; simp), if_neg h1]; exact het);have wm : IntKind.i64.wrap (x.ext * g.extent) = x.ext * g.extent := IntWalk.i64_in _ (Qy_ (by omega) (by omega) he.1 he.2);have wa : IntKind.i64.wrap (x.first + x.ext * g.extent) = x.first + x.ext * g.extent := IntWalk.i64_in _ (Qs_ (by omega) (by omega) (by omega) (by omega) he.1 he.2);rw [het] at HTG;clear hv hq h1;go_wp2_with fail
            go_quiet (fail)
            obtain ⟨d0, d1, d2, d3, d4, d5, d6⟩ := seven (HN2.out _ (zg_ (Below.refl _ _) nq));go_wp2_with fail
            refine (HTG.out _ (zg_ HR2.out _)).mono ?_;rintro e w4 ⟨rfl, hb4⟩;have HB4 := hD ((zg_ HB2.out _).next hb4);obtain ⟨d0, d1, d2, d3, d4, d5, d6⟩ := seven (HN2.out _ ((zg_ (Below.refl _ _) nq).next hb4));clear hb4;by_cases h0 : et = 0
            · subst h0
              have HS := hD (zk_ (P := fun j x => xC_ g j x = 0) HA.out HX.out HT.out);go_wp2_with fail
              go_roundw
              case rel => exact ⟨k + 1, by omega, by go_num, HS.out, HB4.out⟩
              case measure => simp [intOf]; omega
            · have HE := hD (show yl_ g = (x.name, et) from zi_ HA.out HX.out HT.out h0)
              have q : (et != 0) = true := by simp [h0]
              clear h0;go_wp2_with fail
              go_ret2
              exact ⟨by rw [HE.out]; rfl, HB4.out⟩
    · obtain rfl : k = g.disks.length := by omega
      have HE := hD (show yl_ g = (⟨#[]⟩, 0) from z2_ HA.out);go_wp2_with fail
      go_ret2
      exact ⟨by rw [HE.out]; rfl, HB.out⟩
end Go.Proofs.YtdkcfgahdcpkkaaDoor
