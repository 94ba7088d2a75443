/- Merged: RNodes, RParse. -/
import Derived.Test.YtfmdbmalmeimbaaDoorMRead
import Derived.Test.YtfmdbmalmeimbaaDoorPSectW
import Derived.Deep.CutBlock
import Derived.Deep.DeepCutAuto
import Derived.Test.YtfmdbmalmeimbaaDoorPParse
/- nodes of the reference's reader. -/
namespace Go.Proofs.YtfmdbmalmeimbaaDoor
open Go.RowKit
set_option maxRecDepth 100000

def RNodesRet (w : World) (g : Nat) (A : Option Addr) (c : Nat) (T : List Tk) (r : PR (List Nd)) : Ending → World → Prop := ReadRet w g A c T (fun w' v l => NL w' (fun k => w.heap.size ≤ k) v l) isNil r
set_option maxHeartbeats 8000000 in
theorem rnodes_bad {w : World} {g c d : Nat} {A : Option Addr} {T : List Tk} {s : RdS} (h : RB w g A c T s) (he : s.er ≠ 0) :
    Calls Tryd.prog 50 #[.pointer (some ⟨g, 0, none⟩), .int .i64 (d : Int)] w (KeptRet w g A c T isNil s.fl) := by
  have q : (s.er == 0) = false := beq_eq_false_iff_ne.2 he
  have HP := Lib.hid h
  clear h he
  go_enter Tryd.func50, Tryd.ntmps50
  go_wp2_with fail
  go_loopw [5] (fun _ wr => RB wr g A c T s ∧ Only (· = g) w wr) (fun _ _ => 0)
  case atStart => exact ⟨HP.out, Only.refl _ _⟩
  case round =>
    obtain ⟨h2, ho2⟩ := hrel
    have H2 := Lib.hid h2
    have HO2 := Lib.hid ho2
    obtain ⟨a0, a1, a2, a3, a4, a5, ff⟩ := h2.cs
    clear h2 ho2
    go_wp2_with fail
    go_ret
    exact ⟨_, _, rfl, rfl, H2.out, rfl, HO2.out⟩
theorem sign_one {t : Tk} {a b : UInt8} (h : isSign t a = true) (hab : a ≠ b) : isSign t b = false := by
  cases hb : isSign t b with
  | false => rfl
  | true =>
    have h1 := (sign_kind h).2
    have h2 := (sign_kind hb).2
    rw [h1] at h2
    injection h2 with h2
    injection h2 with h2
    injection h2 with h2
    exact absurd h2 hab
theorem rnode_info : (Tryd.prog.info? 48).map (fun i => (i.zero, i.size, i.bytes)) = some (some (.agg Z6), 6, 96) := node_info
/-- nodes in a row of one's own, all below B -/
structure NB (w : World) (base : Nat) (v : Value) (x : List (Nd × Value × Value)) (B : Nat) : Prop where
  own : w.ownsRow base 48 6 v x.length (NC x)
  l : ∀ (k : Nat) (y : Nd × Value × Value), x[k]? = some y → TL w (fun g => base ≤ g ∧ v.ownBlock ≠ some g ∧ g < B) y.2.1 y.1.list
  n : ∀ (k : Nat) (y : Nd × Value × Value), x[k]? = some y → NL w (fun g => base ≤ g ∧ v.ownBlock ≠ some g ∧ g < B) y.2.2 y.1.nodes
  lt : ∀ k, v.ownBlock = some k → k < B
theorem NO.nb {w : World} {base : Nat} {v : Value} {x : List (Nd × Value × Value)} (h : NO w base v x) : NB w base v x w.heap.size :=
  ⟨h.own, fun k y hy => (h.l k y hy).low, fun k y hy => (h.n k y hy).low, fun k hk => (h.own.lt k hk).2⟩
theorem NB.no {w : World} {base B : Nat} {v : Value} {x : List (Nd × Value × Value)} (h : NB w base v x B) : NO w base v x :=
  ⟨h.own, fun k y hy => (h.l k y hy).mono (fun _ h => ⟨h.1, h.2.1⟩), fun k y hy => (h.n k y hy).mono (fun _ h => ⟨h.1, h.2.1⟩)⟩
theorem NB.only {w w' : World} {base B : Nat} {v : Value} {x : List (Nd × Value × Value)} {F : Nat → Prop} (h : NB w base v x B) (ho : Only F w w') (hF : ∀ k, F k → k < base ∨ B ≤ k) : NB w' base v x B := by
  have hk : Kept (fun g => base ≤ g ∧ v.ownBlock ≠ some g ∧ g < B) w w' := Kept.of_only ho (fun g hg e => by
    rcases hF g e with h | h
    · omega
    · omega)
  exact ⟨own_only h.own ho (fun k hk e => by
    have h1 := (h.own.lt k hk).1
    have h2 := h.lt k hk
    rcases hF k e with h | h <;> omega), fun k y hy => (h.l k y hy).keep hk (fun _ h => h), fun k y hy => (h.n k y hy).keep hk (fun _ h => h), h.lt⟩
theorem NB.up {w w' : World} {base B : Nat} {v : Value} {x : List (Nd × Value × Value)} (h : NB w base v x B) (hb : Below w.heap.size w w') : NB w' base v x B := h.only (Only.of_below (fun _ => False) hb) (fun _ h => h.elim)
/-- what lies behind the switch: a node, and either all is well or an error is kept -/
structure SW (w wx : World) (g : Nat) (A : Option Addr) (c : Nat) (T : List Tk) (F f d i n : Nat) (v : Value) (x : List (Nd × Value × Value)) (j m : Nat) (name : ByteArray) (xb : Nat) : Prop where
  only : Only (· = g) w wx
  own : NO wx w.heap.size v x
  lt : w.heap.size ≤ xb
  node : ∃ (t : Nd) (vl vn : Value), Blk wx xb 48 (ncA t vl vn) ∧ vl.oneCell' = true ∧ vn.oneCell' = true ∧
    ((∃ i' n', nodeP (fun d i n => sectP T f d [] i n) T name d (j + 1) (m + 1) = .ok t i' n' ∧ TL wx (fun k => w.heap.size ≤ k ∧ v.ownBlock ≠ some k) vl t.list ∧ NL wx (fun k => w.heap.size ≤ k ∧ v.ownBlock ≠ some k) vn t.nodes ∧ RB wx g A c T ⟨i', n', 0, 0, 0⟩ ∧ n' ≤ 1024 ∧ shutP T d (sectP T F d [] i n) = shutP T d (sectP T f d (x.map (·.1) ++ [t]) i' n')) ∨
     (∃ s, shutP T d (sectP T F d [] i n) = .bad s.fl ∧ s.er ≠ 0 ∧ RB wx g A c T s))
/-- the node is put where it lies -/
theorem SW.put {w w9 : World} {g c : Nat} {A : Option Addr} {T : List Tk} {F f d i n : Nat} {v : Value} {x : List (Nd × Value × Value)} {j m : Nat} {name : ByteArray} {xb : Nat} {x0 x1 x2 x3 x4 x5 : Value}
    (ho : Only (· = g) w w9) (hn : NB w9 w.heap.size v x xb) (hx : Blk w9 xb 48 #[x0, x1, x2, x3, x4, x5]) (hlt : w.heap.size ≤ xb) (hg : g < w.heap.size) (t : Nd) (vl vn : Value) (o1 : vl.oneCell' = true) (o2 : vn.oneCell' = true)
    (hD : (∃ i' n', nodeP (fun d i n => sectP T f d [] i n) T name d (j + 1) (m + 1) = .ok t i' n' ∧ TL w9 (fun k => xb < k) vl t.list ∧ NL w9 (fun k => xb < k) vn t.nodes ∧ RB w9 g A c T ⟨i', n', 0, 0, 0⟩ ∧ n' ≤ 1024 ∧ shutP T d (sectP T F d [] i n) = shutP T d (sectP T f d (x.map (·.1) ++ [t]) i' n')) ∨
     (∃ s, shutP T d (sectP T F d [] i n) = .bad s.fl ∧ s.er ≠ 0 ∧ RB w9 g A c T s)) : SW w (put6 w9 xb (.string t.name) (.int .i64 t.kind) (.int .i64 t.num) (.string t.text) vl vn) g A c T F f d i n v x j m name xb := by
  have hop := put6_only w9 xb (.string t.name) (.int .i64 t.kind) (.int .i64 t.num) (.string t.text) vl vn
  have hk : Kept (fun k => xb < k) w9 (put6 w9 xb (.string t.name) (.int .i64 t.kind) (.int .i64 t.num) (.string t.text) vl vn) := Kept.of_only hop (fun k hk e => by have hk : xb < k := hk; omega)
  have hS : ∀ k, xb < k → w.heap.size ≤ k ∧ v.ownBlock ≠ some k := fun k hk => ⟨by omega, fun e => by have := hn.lt k e; omega⟩
  refine ⟨put6_from ho hlt _ _ _ _ _ _, (hn.only hop (fun k e => by right; omega)).no, hlt, t, vl, vn, put6_blk hx, o1, o2, ?_⟩
  rcases hD with ⟨i', n', h1, h2, h3, h4, h5, h6⟩ | ⟨s, h1, h2, h3⟩
  · exact .inl ⟨i', n', h1, h2.keep hk hS, h3.keep hk hS, h4.only hop (fun k e => by omega), h5, h6⟩
  · exact .inr ⟨s, h1, h2, h3.only hop (fun k e => by omega)⟩
/-- the node lies already where it lies -/
theorem SW.here {w w9 : World} {g c : Nat} {A : Option Addr} {T : List Tk} {F f d i n : Nat} {v : Value} {x : List (Nd × Value × Value)} {j m : Nat} {name : ByteArray} {xb : Nat}
    (ho : Only (· = g) w w9) (hn : NB w9 w.heap.size v x xb) (hlt : w.heap.size ≤ xb) (t : Nd) (vl vn : Value) (hx : Blk w9 xb 48 (ncA t vl vn)) (o1 : vl.oneCell' = true) (o2 : vn.oneCell' = true)
    (hD : (∃ i' n', nodeP (fun d i n => sectP T f d [] i n) T name d (j + 1) (m + 1) = .ok t i' n' ∧ TL w9 (fun k => xb < k) vl t.list ∧ NL w9 (fun k => xb < k) vn t.nodes ∧ RB w9 g A c T ⟨i', n', 0, 0, 0⟩ ∧ n' ≤ 1024 ∧ shutP T d (sectP T F d [] i n) = shutP T d (sectP T f d (x.map (·.1) ++ [t]) i' n')) ∨
     (∃ s, shutP T d (sectP T F d [] i n) = .bad s.fl ∧ s.er ≠ 0 ∧ RB w9 g A c T s)) : SW w w9 g A c T F f d i n v x j m name xb := by
  have hS : ∀ k, xb < k → w.heap.size ≤ k ∧ v.ownBlock ≠ some k := fun k hk => ⟨by omega, fun e => by have := hn.lt k e; omega⟩
  refine ⟨ho, hn.no, hlt, t, vl, vn, hx, o1, o2, ?_⟩
  rcases hD with ⟨i', n', h1, h2, h3, h4, h5, h6⟩ | ⟨s, h1, h2, h3⟩
  · exact .inl ⟨i', n', h1, h2.mono hS, h3.mono hS, h4, h5, h6⟩
  · exact .inr ⟨s, h1, h2, h3⟩
set_option maxHeartbeats 16000000 in
theorem rnodes_any : ∀ F : Nat, ∀ {w : World} {g c d i n : Nat} {A : Option Addr} {T : List Tk}, RB w g A c T ⟨i, n, 0, 0, 0⟩ → n ≤ 1024 → d ≤ 8 → T.length - i < F →
    Calls Tryd.prog 50 #[.pointer (some ⟨g, 0, none⟩), .int .i64 (d : Int)] w (RNodesRet w g A c T (shutP T d (sectP T F d [] i n))) := by
  intro F
  induction F using Nat.strongRecOn with
  | _ F ih =>
  intro w g c d i n A T h hn hd hf
  have hg := h.blk.lt
  have hlen := h.ok.small
  have HOK := Lib.hid h.ok
  have HP := Lib.hid h
  have HNN := Lib.hid hn
  have hd' := hd
  clear h hn
  obtain ⟨i0, hi0, hz0, hz1, hz2⟩ := info_parts node_info
  go_enter Tryd.func50, Tryd.ntmps50
  go_wp2_with fail
  go_loopw [5] (fun v wr => (∃ (x : List (Nd × Value × Value)) (j m f : Nat), shutP T d (sectP T F d [] i n) = shutP T d (sectP T f d (x.map (·.1)) j m) ∧ T.length - j < f ∧ f ≤ F ∧ x.length ≤ j ∧ lenV v = x.length ∧ NO wr w.heap.size v x ∧ RB wr g A c T ⟨j, m, 0, 0, 0⟩ ∧ m ≤ 1024 ∧ Only (· = g) w wr) ∨
    (∃ s : RdS, shutP T d (sectP T F d [] i n) = .bad s.fl ∧ s.er ≠ 0 ∧ RB wr g A c T s ∧ Only (· = g) w wr)) (fun v _ => T.length - lenV v)
  case atStart => exact .inl ⟨[], i, n, F, rfl, hf, Nat.le_refl _, Nat.zero_le _, rfl, ⟨World.ownsRow_nil _ _ _ _, fun k y hy => by simp at hy, fun k y hy => by simp at hy⟩, HP.out, HNN.out, Only.refl _ _⟩
  case round =>
    rcases hrel with hrel | ⟨s, hr, he, h2, ho2⟩
    case inr =>
      have q : (s.er == 0) = false := beq_eq_false_iff_ne.2 he
      have HR := Lib.hid hr
      have HE := Lib.hid he
      have H2 := Lib.hid h2
      have HO2 := Lib.hid ho2
      obtain ⟨a0, a1, a2, a3, a4, a5, ff⟩ := h2.cs
      clear h2 ho2 hr he
      go_wp2_with fail
      go_ret
      exact HR.out ▸ ⟨HE.out, _, _, rfl, rfl, H2.out, rfl, HO2.out⟩
    case inl =>
      obtain ⟨x, j, m, f, hr, hfj, hfF, hxj, hlv, hno, hp, hm, ho⟩ := hrel
      have hj : j < T.length := hp.hi
      obtain ⟨f, rfl⟩ : ∃ f', f = f' + 1 := ⟨f - 1, by omega⟩
      have HR := Lib.hid hr
      have HNO := Lib.hid hno
      have HPj := Lib.hid hp
      have HOj := Lib.hid ho
      have HLV := Lib.hid hlv
      obtain ⟨Av, cv, ev⟩ := hno.form
      subst ev
      obtain ⟨a0, a1, a2, a3, a4, a5, ff⟩ := hp.cs
      clear hr hno hp ho hlv
      go_wp2_with fail
      refine (rnext_any HPj.out).mono ?_
      rintro e w2 ⟨rfl, h2, ho2⟩
      have H2 := Lib.hid (show RB w2 g A c T ⟨nx T j, m, 0, 0, 0⟩ from h2)
      have HO2 := Lib.hid (HOj.out.trans ho2)
      have HN2 := Lib.hid (HNO.out.only ho2 (fun k e => by rw [e]; exact hg))
      clear h2 ho2 a0 a1 a2 a3 a4 a5 ff HNO HPj HOj
      unfold tokV tokC
      simp only
      obtain ⟨⟨kd, tx, nu, li, co⟩, ht⟩ : ∃ t, tkAt T j = t := ⟨_, rfl⟩
      have HT := Lib.hid ht
      simp only [ht]
      clear ht
      obtain ⟨q, hq⟩ : ∃ q, shut d ⟨kd, tx, nu, li, co⟩ = q := ⟨_, rfl⟩
      have HQ := Lib.hid hq
      have HU := Lib.hid (show sectP T (f + 1) d (x.map (·.1)) j m = (if kd = 1 then (if 40 < tx.size then .bad (flAt ⟨kd, tx, nu, li, co⟩ 4)
        else if (x.map (·.1)).any (isN tx) = true then .bad (flAt ⟨kd, tx, nu, li, co⟩ 9)
        else if m = 1024 then .bad (flAt ⟨kd, tx, nu, li, co⟩ 4)
        else match nodeP (fun d i n => sectP T f d [] i n) T tx d (j + 1) (m + 1) with
          | .bad f => .bad f
          | .ok t i' n' => sectP T f d (x.map (·.1) ++ [t]) i' n') else .ok (x.map (·.1)) j m) by conv => lhs; unfold sectP
                                                                                                  rw [HT.out]
                                                                                                  rfl)
      clear hq
      go_upto_region 4 with fail
      go_cut [36] (fun b wx => b = .bool q ∧ wx = w2.alloc (.cells #[.int .i64 kd, .string tx, .int .i64 nu, .int .i64 (li : Int), .int .i64 (co : Int)] 81))
      case first =>
        by_cases hd0 : d = 0
        · have z1 : ¬ (0 : Int) < (d : Int) := by omega
          have z2 : ((d : Int) == 0) = true := beq_iff_eq.2 (by omega)
          have hq := HQ.out
          unfold shut at hq
          rw [if_pos hd0] at hq
          have HD := Lib.hid hd0
          clear hd0
          by_cases h5 : kd = 5
          · have k5 : (kd == 5) = true := beq_iff_eq.2 h5
            have HE := Lib.hid (show q = true by rw [← hq]; exact decide_eq_true h5)
            have H5 := Lib.hid h5
            clear hq h5
            go_wp2_with fail
            go_meet
            case rel => exact ⟨by rw [HE.out], rfl⟩
          · have k5 : (kd == 5) = false := beq_eq_false_iff_ne.2 h5
            have HE := Lib.hid (show q = false by rw [← hq]; exact decide_eq_false h5)
            clear hq h5
            go_wp2_with fail
            go_meet
            case rel => exact ⟨by rw [HE.out], rfl⟩
        · have z1 : (0 : Int) < (d : Int) := by omega
          have z2 : ((d : Int) == 0) = false := beq_eq_false_iff_ne.2 (by omega)
          have hq := HQ.out
          unfold shut at hq
          rw [if_neg hd0] at hq
          clear hd0
          rcases sign_cases ⟨kd, tx, nu, li, co⟩ 125 with ⟨hs, s1, s2, s3, s4⟩ | ⟨hs, s1, s2, s3, s4⟩ | ⟨hs, s1, s2⟩
          all_goals
            simp only at s1 s2
            try simp only at s3 s4
            have HE := Lib.hid (hq.symm.trans hs)
            clear hq hs
            go_wp2_with fail
            go_meet
            case rel => exact ⟨by rw [HE.out], rfl⟩
      case rest =>
        obtain ⟨rfl, rfl⟩ := hcut
        have HP4 := Lib.hid (H2.out.up ((Below.refl _ _).al (.cells #[.int .i64 kd, .string tx, .int .i64 nu, .int .i64 (li : Int), .int .i64 (co : Int)] 81)))
        have HN4 := Lib.hid (HN2.out.up ((Below.refl _ _).al (.cells #[.int .i64 kd, .string tx, .int .i64 nu, .int .i64 (li : Int), .int .i64 (co : Int)] 81)))
        have HO4 := Lib.hid (HO2.out.alloc (.cells #[.int .i64 kd, .string tx, .int .i64 nu, .int .i64 (li : Int), .int .i64 (co : Int)] 81))
        have HT4 := Lib.hid (Blk.new w2 81 (tokC ⟨kd, tx, nu, li, co⟩))
        unfold tokC at HT4
        have hw2 : w.heap.size ≤ w2.heap.size := HO2.out.size
        have hg2 : g < w2.heap.size := by omega
        clear H2 HN2 HO2
        cases q with
        | true =>
          have HF := Lib.hid (show ∀ e w', RNodesRet w g A c T (.ok (x.map (·.1)) (adv T j) m) e w' → RNodesRet w g A c T (shutP T d (sectP T F d [] i n)) e w' from fun _ _ h => by
            have hk : ¬ kd = 1 := fun e => by
              have h1 := HQ.out
              unfold shut at h1
              split at h1
              · simp at h1; omega
              · have := (sign_kind h1).1; simp at this; omega
            rw [HR.out, HU.out, if_neg hk]
            unfold shutP
            simp only
            rw [HT.out, HQ.out]
            exact h)
          have HNX := Lib.hid (nx_adv HOK.out hj)
          go_wp2_with fail
          go_ret
          exact HF.out _ _ ⟨_, rfl, HN4.out.nl, HNX.out ▸ HP4.out, hm, HO4.out⟩
        | false =>
          have hst : ∀ (W : World) (s' : RdS) (e : Int) (h : RB W g A c T s'), Calls Tryd.prog 69 #[.pointer (some ⟨g, 0, none⟩), tokV ⟨kd, tx, nu, li, co⟩, .int .i64 e] W (StopRet W g A c T (s'.stop ⟨kd, tx, nu, li, co⟩ e)) := fun W s' e h => rstop_any h ⟨kd, tx, nu, li, co⟩ e
          unfold tokV tokC at hst
          have HST := Lib.hid hst
          clear hst
          by_cases hk : kd = 1
          · subst hk
            simp only at HST HT4
            have hj1 : j + 1 < T.length := HOK.out.next hj (by rw [HT.out]; show (1 : Int) ≠ 5; decide)
            have hlm : (x.map (·.1)).length = x.length := List.length_map ..
            have hlm2 : (x.map (·.1)).length ≤ 1000000 := by omega
            have HP5 := Lib.hid (show RB (w2.alloc (.cells #[.int .i64 1, .string tx, .int .i64 nu, .int .i64 (li : Int), .int .i64 (co : Int)] 81)) g A c T ⟨j + 1, m, 0, 0, 0⟩ by have h := HP4.out; simp only [show nx T j = j + 1 by unfold nx; rw [if_pos hj1]] at h; exact h)
            have hnm := rname_any HP5.out hm ⟨1, tx, nu, li, co⟩ (by have h := HN4.out.nl; rw [← hlm] at h; exact h) (fun k hk e => by have hk : w.heap.size ≤ k := hk; omega) hlm2
            rw [hlm] at hnm
            unfold tokV tokC at hnm
            have HNM := Lib.hid hnm
            clear hnm hlm2 HP4
            have hlm3 : (x.map (·.1)).length ≤ j := by omega
            clear hlm
            go_wp2_with fail
            refine HNM.out.mono ?_
            rintro e w5 ⟨rfl, h5, ho5⟩
            obtain ⟨s1, hs1⟩ : ∃ s1 : RdS, nameS ⟨1, tx, nu, li, co⟩ (x.map (·.1)) ⟨j + 1, m, 0, 0, 0⟩ = s1 := ⟨_, rfl⟩
            rw [hs1] at h5
            have HS1 := Lib.hid hs1
            have H5 := Lib.hid h5
            have HO5 := Lib.hid (HO4.out.trans ho5)
            have HN5 := Lib.hid (HN4.out.only ho5 (fun k e => by rw [e]; exact hg)).nb
            have hb5 := HT4.out.only ho5 (by omega)
            have b1 : w5.cell? ⟨w2.heap.size, 1, none⟩ = some (.string tx) := by rw [hb5.cell]; rfl
            have hw5 : w.heap.size ≤ w5.heap.size := HO5.out.size
            have hg5 : g < w5.heap.size := by omega
            clear hs1 h5 ho5 hb5 HNM
            go_wp2_with fail
            have HX5 := Lib.hid (Blk.new w5 48 #[.string tx, .int .i64 0, .int .i64 0, .string ⟨#[]⟩, .slice none 0 0, .slice none 0 0])
            refine (rnext_any (H5.out.up ((Below.refl _ _).al (.cells #[.string tx, .int .i64 0, .int .i64 0, .string ⟨#[]⟩, .slice none 0 0, .slice none 0 0] 48)))).mono ?_
            rintro e w7 ⟨rfl, h7, ho7⟩
            have H7 := Lib.hid h7
            have HO7 := Lib.hid ((HO5.out.alloc (.cells #[.string tx, .int .i64 0, .int .i64 0, .string ⟨#[]⟩, .slice none 0 0, .slice none 0 0] 48)).trans ho7)
            have HN7 := Lib.hid ((HN5.out.up ((Below.refl _ _).al (.cells #[.string tx, .int .i64 0, .int .i64 0, .string ⟨#[]⟩, .slice none 0 0, .slice none 0 0] 48))).only ho7 (fun k e => by rw [e]; exact .inl hg))
            have HX7 := Lib.hid (HX5.out.only ho7 (by omega))
            have hx7 : w5.heap.size < w7.heap.size := HX7.out.lt
            clear h7 ho7 b1 HX5
            unfold tokV tokC
            obtain ⟨⟨kd2, tx2, nu2, li2, co2⟩, ht2⟩ : ∃ t, tkAt T s1.i = t := ⟨_, rfl⟩
            have HT2 := Lib.hid ht2
            simp only [ht2]
            clear ht2
            go_upto_block 2 with fail
            go_cut [7] (fun v wx => v = .pointer (some ⟨w5.heap.size, 0, none⟩) ∧ SW w wx g A c T F f d i n (.slice Av x.length cv) x j m tx w5.heap.size)
            case first =>
              have hst : (s1 = ⟨j + 1, m + 1, 0, 0, 0⟩ ∧ m + 1 ≤ 1024 ∧ shutP T d (sectP T F d [] i n) = (match nodeP (fun d i n => sectP T f d [] i n) T tx d (j + 1) (m + 1) with | .bad f => .bad f | .ok t i' n' => shutP T d (sectP T f d (x.map (·.1) ++ [t]) i' n'))) ∨ (s1.er ≠ 0 ∧ shutP T d (sectP T F d [] i n) = .bad s1.fl) := by
                rw [HR.out, HU.out, if_pos (by trivial), ← HS1.out]
                by_cases h1 : 40 < tx.size
                · have h := nameS_bad (t := ⟨1, tx, nu, li, co⟩) (l := x.map (·.1)) (i := j + 1) hm 4 (.inl rfl) (by rw [if_pos h1])
                  exact .inr ⟨h.1, by rw [if_pos h1, h.2]; rfl⟩
                · by_cases h2 : (x.map (·.1)).any (isN tx) = true
                  · have h := nameS_bad (t := ⟨1, tx, nu, li, co⟩) (l := x.map (·.1)) (i := j + 1) hm 9 (.inr rfl) (by rw [if_neg h1, if_pos h2])
                    exact .inr ⟨h.1, by rw [if_neg h1, if_pos h2, h.2]; rfl⟩
                  · by_cases h3 : m = 1024
                    · have h := nameS_bad (t := ⟨1, tx, nu, li, co⟩) (l := x.map (·.1)) (i := j + 1) hm 4 (.inl rfl) (by rw [if_neg h1, if_neg h2, if_pos h3])
                      exact .inr ⟨h.1, by rw [if_neg h1, if_neg h2, if_pos h3, h.2]; rfl⟩
                    · refine .inl ⟨nameS_ok h1 h2 hm h3, by omega, ?_⟩
                      rw [if_neg h1, if_neg h2, if_neg h3]
                      cases nodeP (fun d i n => sectP T f d [] i n) T tx d (j + 1) (m + 1) <;> rfl
              have HN8 := Lib.hid (HN7.out.up ((Below.refl _ _).al (.cells #[.int .i64 kd2, .string tx2, .int .i64 nu2, .int .i64 (li2 : Int), .int .i64 (co2 : Int)] 81)))
              have HX8 := Lib.hid (HX7.out.below ((Below.refl _ _).al (.cells #[.int .i64 kd2, .string tx2, .int .i64 nu2, .int .i64 (li2 : Int), .int .i64 (co2 : Int)] 81)) HX7.out.lt)
              have HO8 := Lib.hid (HO7.out.alloc (.cells #[.int .i64 kd2, .string tx2, .int .i64 nu2, .int .i64 (li2 : Int), .int .i64 (co2 : Int)] 81))
              have H8 := Lib.hid (H7.out.up ((Below.refl _ _).al (.cells #[.int .i64 kd2, .string tx2, .int .i64 nu2, .int .i64 (li2 : Int), .int .i64 (co2 : Int)] 81)))
              have hw8 : (w7.alloc (.cells #[.int .i64 kd2, .string tx2, .int .i64 nu2, .int .i64 (li2 : Int), .int .i64 (co2 : Int)] 81)).heap.size = w7.heap.size + 1 := by simp
              have HW8 := Lib.hid hw8
              have c0 : w7.cell? ⟨w5.heap.size, 0, none⟩ = some (.string tx) := by rw [HX7.out.cell]; rfl
              have c1 : w7.cell? ⟨w5.heap.size, 1, none⟩ = some (.int .i64 0) := by rw [HX7.out.cell]; rfl
              have c2 : w7.cell? ⟨w5.heap.size, 2, none⟩ = some (.int .i64 0) := by rw [HX7.out.cell]; rfl
              have c3 : w7.cell? ⟨w5.heap.size, 3, none⟩ = some (.string ⟨#[]⟩) := by rw [HX7.out.cell]; rfl
              have c4 : w7.cell? ⟨w5.heap.size, 4, none⟩ = some (.slice none 0 0) := by rw [HX7.out.cell]; rfl
              have c5 : w7.cell? ⟨w5.heap.size, 5, none⟩ = some (.slice none 0 0) := by rw [HX7.out.cell]; rfl
              have hxw : w.heap.size ≤ w5.heap.size := hw5
              clear hw8 H7 HN7 HX7 HO7 HN5 HO5 H5 HT4 HO4 HN4 HP5 HR HU HS1
              rcases hst with ⟨rfl, hm1, hq⟩ | ⟨her, hq⟩
              · have HQQ := Lib.hid hq
                clear hq
                simp only at H8 HT2
                rcases sign_cases ⟨kd2, tx2, nu2, li2, co2⟩ 61 with ⟨hs, s1a, s2a, s3a, s4a⟩ | ⟨hs, s1a, s2a, s3a, s4a⟩ | ⟨hs, s1a, s2a⟩
                · simp only at s1a s2a s3a s4a
                  have HE := Lib.hid (show nodeP (fun d i n => sectP T f d [] i n) T tx d (j + 1) (m + 1) = valueP T tx (j + 2) (m + 1) by rw [nodeP_alt, HT2.out, if_neg (by rw [sign_one hs (by decide)]; decide), if_pos hs])
                  have hj2 : j + 2 < T.length := HOK.out.sign hj1 (c := 61) (by rw [HT2.out]; exact hs)
                  have HG := Lib.hid (show RB (w7.alloc (.cells #[.int .i64 kd2, .string tx2, .int .i64 nu2, .int .i64 (li2 : Int), .int .i64 (co2 : Int)] 81)) g A c T ⟨j + 2, m + 1, 0, 0, 0⟩ by have h := H8.out; simp only [show nx T (j + 1) = j + 2 by unfold nx; rw [if_pos (by omega)]] at h; exact h)
                  have HV := Lib.hid (rvalue_any HG.out hm1 tx)
                  clear hs
                  cases hr : valueP T tx (j + 2) (m + 1) with
                  | bad fl =>
                    rw [hr] at HV
                    have HQ2 := Lib.hid (show shutP T d (sectP T F d [] i n) = .bad fl by rw [HQQ.out, HE.out, hr])
                    clear hr
                    go_wp2_with fail
                    refine HV.out.mono ?_
                    rintro e w9 ⟨he9, v9, s9, rfl, ⟨t9, rfl⟩, h9, hf9, ho9⟩
                    have HX9 := Lib.hid (HX8.out.only ho9 (by omega))
                    have HN9 := Lib.hid (HN8.out.only ho9 (fun k e => by rw [e]; exact .inl hg))
                    have HO9 := Lib.hid (HO8.out.trans ho9)
                    have H9 := Lib.hid h9
                    obtain ⟨n0, n1, n2, n3, n4, n5, nf⟩ := (show w9.cell? ⟨w5.heap.size, 0, none⟩ = some (.string tx) ∧ w9.cell? ⟨w5.heap.size, 1, none⟩ = some (.int .i64 0) ∧ w9.cell? ⟨w5.heap.size, 2, none⟩ = some (.int .i64 0) ∧ w9.cell? ⟨w5.heap.size, 3, none⟩ = some (.string ⟨#[]⟩) ∧ w9.cell? ⟨w5.heap.size, 4, none⟩ = some (.slice none 0 0) ∧ w9.cell? ⟨w5.heap.size, 5, none⟩ = some (.slice none 0 0) ∧ ∀ o, w9.frozen? ⟨w5.heap.size, o, none⟩ = false from
                      ⟨by rw [HX9.out.cell]; rfl, by rw [HX9.out.cell]; rfl, by rw [HX9.out.cell]; rfl, by rw [HX9.out.cell]; rfl, by rw [HX9.out.cell]; rfl, by rw [HX9.out.cell]; rfl, fun o => HX9.out.frozen o⟩)
                    unfold ncA
                    clear ho9 h9 c0 c1 c2 c3 c4 c5
                    go_wp2_with fail
                    go_meet
                    case rel => exact ⟨rfl, SW.put HO9.out HN9.out HX9.out hxw hg t9 (.slice none 0 0) (.slice none 0 0) rfl rfl (.inr ⟨s9, by rw [HQ2.out, hf9], by have h := congrArg Fl.er hf9; rw [show s9.er = fl.er from h]; exact he9, H9.out⟩)⟩
                  | ok t9 i9 n9 =>
                    rw [hr] at HV
                    have HQ2 := Lib.hid (show shutP T d (sectP T F d [] i n) = shutP T d (sectP T f d (x.map (·.1) ++ [t9]) i9 n9) by rw [HQQ.out, HE.out, hr])
                    have HE2 := Lib.hid (HE.out.trans hr)
                    clear hr
                    go_wp2_with fail
                    refine HV.out.mono ?_
                    rintro e w9 ⟨v9, rfl, ⟨vl9, vn9, rfl, htl, hnl⟩, h9, hn9, ho9⟩
                    have HX9 := Lib.hid (HX8.out.only ho9 (by omega))
                    have HN9 := Lib.hid (HN8.out.only ho9 (fun k e => by rw [e]; exact .inl hg))
                    have HO9 := Lib.hid (HO8.out.trans ho9)
                    have H9 := Lib.hid h9
                    have HTL := Lib.hid (show TL w9 (fun k => w5.heap.size < k) vl9 t9.list from htl.mono (fun k hk => by have hk : (w7.alloc _).heap.size ≤ k := hk; rw [HW8.out] at hk; show w5.heap.size < k; omega))
                    have HNL := Lib.hid (show NL w9 (fun k => w5.heap.size < k) vn9 t9.nodes from hnl.mono (fun k hk => by have hk : (w7.alloc _).heap.size ≤ k := hk; rw [HW8.out] at hk; show w5.heap.size < k; omega))
                    obtain ⟨n0, n1, n2, n3, n4, n5, nf⟩ := (show w9.cell? ⟨w5.heap.size, 0, none⟩ = some (.string tx) ∧ w9.cell? ⟨w5.heap.size, 1, none⟩ = some (.int .i64 0) ∧ w9.cell? ⟨w5.heap.size, 2, none⟩ = some (.int .i64 0) ∧ w9.cell? ⟨w5.heap.size, 3, none⟩ = some (.string ⟨#[]⟩) ∧ w9.cell? ⟨w5.heap.size, 4, none⟩ = some (.slice none 0 0) ∧ w9.cell? ⟨w5.heap.size, 5, none⟩ = some (.slice none 0 0) ∧ ∀ o, w9.frozen? ⟨w5.heap.size, o, none⟩ = false from
                      ⟨by rw [HX9.out.cell]; rfl, by rw [HX9.out.cell]; rfl, by rw [HX9.out.cell]; rfl, by rw [HX9.out.cell]; rfl, by rw [HX9.out.cell]; rfl, by rw [HX9.out.cell]; rfl, fun o => HX9.out.frozen o⟩)
                    obtain ⟨Al9, cl9, rfl, _⟩ := id htl
                    obtain ⟨An9, cn9, rfl, _⟩ := id hnl.form
                    have HN9B := Lib.hid hn9
                    unfold ncA
                    clear ho9 h9 htl hnl hn9 c0 c1 c2 c3 c4 c5
                    go_wp2_with fail
                    go_meet
                    case rel => exact ⟨rfl, SW.put HO9.out HN9.out HX9.out hxw hg t9 _ _ rfl rfl (.inl ⟨i9, n9, HE2.out, HTL.out, HNL.out, H9.out, HN9B.out, HQ2.out⟩)⟩

                · simp only at s1a s2a s3a s4a
                  rcases sign_cases ⟨kd2, tx2, nu2, li2, co2⟩ 123 with ⟨hs2, s1b, s2b, s3b, s4b⟩ | ⟨hs2, s1b, s2b, s3b, s4b⟩ | ⟨hs2, s1b, s2b⟩
                  · simp only at s1b s2b s3b s4b
                    by_cases hd8 : d = 8
                    · have z8 : ((d : Int) == 8) = true := beq_iff_eq.2 (by omega)
                      have HST2 := Lib.hid (rstop_any H8.out ⟨kd2, tx2, nu2, li2, co2⟩ 4)
                      unfold tokV tokC at HST2
                      have HF8 := Lib.hid (show shutP T d (sectP T F d [] i n) = .bad (flAt ⟨kd2, tx2, nu2, li2, co2⟩ 4) by rw [HQQ.out, nodeP_alt, HT2.out, if_pos hs2, if_pos hd8])
                      have HFL := Lib.hid (show ((⟨nx T (j + 1), m + 1, 0, 0, 0⟩ : RdS).stop ⟨kd2, tx2, nu2, li2, co2⟩ 4).fl = flAt ⟨kd2, tx2, nu2, li2, co2⟩ 4 by unfold RdS.stop; rw [if_pos rfl]; rfl)
                      clear hd8 hs2
                      go_wp2_with fail
                      refine HST2.out.mono ?_
                      rintro e w9 ⟨rfl, h9, ho9⟩
                      have H9 := Lib.hid h9
                      have HO9 := Lib.hid (HO8.out.trans ho9)
                      clear h9 ho9
                      go_wp2_with fail
                      go_ret
                      rw [HF8.out]
                      exact ⟨(by decide : (4 : Int) ≠ 0), _, _, rfl, rfl, H9.out, HFL.out, HO9.out⟩
                    · have z8 : ((d : Int) == 8) = false := beq_eq_false_iff_ne.2 (by omega)
                      have d1 : (0 : Int) ≤ (d : Int) := by omega
                      have d2 : (d : Int) ≤ 8 := by omega
                      have hj2 : j + 2 < T.length := HOK.out.sign hj1 (c := 123) (by rw [HT2.out]; exact hs2)
                      have HG := Lib.hid (show RB (w7.alloc (.cells #[.int .i64 kd2, .string tx2, .int .i64 nu2, .int .i64 (li2 : Int), .int .i64 (co2 : Int)] 81)) g A c T ⟨j + 2, m + 1, 0, 0, 0⟩ by have h := H8.out; simp only [show nx T (j + 1) = j + 2 by unfold nx; rw [if_pos (by omega)]] at h; exact h)
                      have HV := Lib.hid (show Calls Tryd.prog 50 #[.pointer (some ⟨g, 0, none⟩), .int .i64 ((d : Int) + 1)] (w7.alloc (.cells #[.int .i64 kd2, .string tx2, .int .i64 nu2, .int .i64 (li2 : Int), .int .i64 (co2 : Int)] 81)) (RNodesRet (w7.alloc (.cells #[.int .i64 kd2, .string tx2, .int .i64 nu2, .int .i64 (li2 : Int), .int .i64 (co2 : Int)] 81)) g A c T (shutP T (d + 1) (sectP T f (d + 1) [] (j + 2) (m + 1)))) from ih f (by omega) (d := d + 1) HG.out hm1 (by omega) (by omega))
                      cases hr : shutP T (d + 1) (sectP T f (d + 1) [] (j + 2) (m + 1)) with
                      | bad fl =>
                        rw [hr] at HV
                        have HQ2 := Lib.hid (show shutP T d (sectP T F d [] i n) = .bad fl by rw [HQQ.out, nodeP_alt, HT2.out, if_pos hs2, if_neg hd8, hr])
                        clear hr hs2 hd8
                        go_wp2_with fail
                        refine HV.out.mono ?_
                        rintro e w9 ⟨he9, v9, s9, rfl, rfl, h9, hf9, ho9⟩
                        have HX9 := Lib.hid (HX8.out.only ho9 (by omega))
                        have HN9 := Lib.hid (HN8.out.only ho9 (fun k e => by rw [e]; exact .inl hg))
                        have HO9 := Lib.hid (HO8.out.trans ho9)
                        have H9 := Lib.hid h9
                        obtain ⟨n0, n1, n2, n3, n4, n5, nf⟩ := (show w9.cell? ⟨w5.heap.size, 0, none⟩ = some (.string tx) ∧ w9.cell? ⟨w5.heap.size, 1, none⟩ = some (.int .i64 0) ∧ w9.cell? ⟨w5.heap.size, 2, none⟩ = some (.int .i64 0) ∧ w9.cell? ⟨w5.heap.size, 3, none⟩ = some (.string ⟨#[]⟩) ∧ w9.cell? ⟨w5.heap.size, 4, none⟩ = some (.slice none 0 0) ∧ w9.cell? ⟨w5.heap.size, 5, none⟩ = some (.slice none 0 0) ∧ ∀ o, w9.frozen? ⟨w5.heap.size, o, none⟩ = false from
                          ⟨by rw [HX9.out.cell]; rfl, by rw [HX9.out.cell]; rfl, by rw [HX9.out.cell]; rfl, by rw [HX9.out.cell]; rfl, by rw [HX9.out.cell]; rfl, by rw [HX9.out.cell]; rfl, fun o => HX9.out.frozen o⟩)
                        have hso : Only (· = w5.heap.size) w9 ((w9.setCell ⟨w5.heap.size, 1, none⟩ (.int .i64 4)).setCell ⟨w5.heap.size, 5, none⟩ (.slice none 0 0)) := (((Only.refl (· = w5.heap.size) w9).setCell (p := ⟨w5.heap.size, 1, none⟩) (.inl rfl) (.int .i64 4)).setCell (p := ⟨w5.heap.size, 5, none⟩) (.inl rfl) (.slice none 0 0))
                        have HXs := Lib.hid (show Blk ((w9.setCell ⟨w5.heap.size, 1, none⟩ (.int .i64 4)).setCell ⟨w5.heap.size, 5, none⟩ (.slice none 0 0)) w5.heap.size 48 (ncA (.mk tx 4 0 e0 [] []) (.slice none 0 0) (.slice none 0 0)) from (HX9.out.set_ 1 (.int .i64 4)).set_ 5 (.slice none 0 0))
                        have HNs := Lib.hid (HN9.out.only hso (fun k e => by rw [e]; exact .inr (Nat.le_refl _)))
                        have HOs := Lib.hid (show Only (· = g) w ((w9.setCell ⟨w5.heap.size, 1, none⟩ (.int .i64 4)).setCell ⟨w5.heap.size, 5, none⟩ (.slice none 0 0)) from (HO9.out.setCell (p := ⟨w5.heap.size, 1, none⟩) (.inr hxw) (.int .i64 4)).setCell (p := ⟨w5.heap.size, 5, none⟩) (.inr hxw) (.slice none 0 0))
                        have HRs := Lib.hid (H9.out.only hso (fun k e => by rw [e]; omega))
                        clear ho9 h9 hso c0 c1 c2 c3 c4 c5
                        go_wp2_with fail
                        go_meet
                        case rel => exact ⟨rfl, SW.here HOs.out HNs.out hxw (.mk tx 4 0 e0 [] []) (.slice none 0 0) (.slice none 0 0) HXs.out rfl rfl (.inr ⟨s9, by rw [HQ2.out, hf9], by have h := congrArg Fl.er hf9; rw [show s9.er = fl.er from h]; exact he9, HRs.out⟩)⟩
                      | ok l9 i9 n9 =>
                        rw [hr] at HV
                        have HE2 := Lib.hid (show nodeP (fun d i n => sectP T f d [] i n) T tx d (j + 1) (m + 1) = .ok (.mk tx 4 0 e0 [] l9) i9 n9 by rw [nodeP_alt, HT2.out, if_pos hs2, if_neg hd8, hr])
                        have HQ2 := Lib.hid (show shutP T d (sectP T F d [] i n) = shutP T d (sectP T f d (x.map (·.1) ++ [.mk tx 4 0 e0 [] l9]) i9 n9) by rw [HQQ.out, HE2.out])
                        clear hr hs2 hd8
                        go_wp2_with fail
                        refine HV.out.mono ?_
                        rintro e w9 ⟨v9, rfl, hnl, h9, hn9, ho9⟩
                        obtain ⟨A9, c9, rfl, _⟩ := id hnl.form
                        have HX9 := Lib.hid (HX8.out.only ho9 (by omega))
                        have HN9 := Lib.hid (HN8.out.only ho9 (fun k e => by rw [e]; exact .inl hg))
                        have HO9 := Lib.hid (HO8.out.trans ho9)
                        have H9 := Lib.hid h9
                        obtain ⟨n0, n1, n2, n3, n4, n5, nf⟩ := (show w9.cell? ⟨w5.heap.size, 0, none⟩ = some (.string tx) ∧ w9.cell? ⟨w5.heap.size, 1, none⟩ = some (.int .i64 0) ∧ w9.cell? ⟨w5.heap.size, 2, none⟩ = some (.int .i64 0) ∧ w9.cell? ⟨w5.heap.size, 3, none⟩ = some (.string ⟨#[]⟩) ∧ w9.cell? ⟨w5.heap.size, 4, none⟩ = some (.slice none 0 0) ∧ w9.cell? ⟨w5.heap.size, 5, none⟩ = some (.slice none 0 0) ∧ ∀ o, w9.frozen? ⟨w5.heap.size, o, none⟩ = false from
                          ⟨by rw [HX9.out.cell]; rfl, by rw [HX9.out.cell]; rfl, by rw [HX9.out.cell]; rfl, by rw [HX9.out.cell]; rfl, by rw [HX9.out.cell]; rfl, by rw [HX9.out.cell]; rfl, fun o => HX9.out.frozen o⟩)
                        have hso : Only (· = w5.heap.size) w9 ((w9.setCell ⟨w5.heap.size, 1, none⟩ (.int .i64 4)).setCell ⟨w5.heap.size, 5, none⟩ (.slice A9 l9.length c9)) := (((Only.refl (· = w5.heap.size) w9).setCell (p := ⟨w5.heap.size, 1, none⟩) (.inl rfl) (.int .i64 4)).setCell (p := ⟨w5.heap.size, 5, none⟩) (.inl rfl) (.slice A9 l9.length c9))
                        have HXs := Lib.hid (show Blk ((w9.setCell ⟨w5.heap.size, 1, none⟩ (.int .i64 4)).setCell ⟨w5.heap.size, 5, none⟩ (.slice A9 l9.length c9)) w5.heap.size 48 (ncA (.mk tx 4 0 e0 [] l9) (.slice none 0 0) (.slice A9 l9.length c9)) from (HX9.out.set_ 1 (.int .i64 4)).set_ 5 (.slice A9 l9.length c9))
                        have HNs := Lib.hid (HN9.out.only hso (fun k e => by rw [e]; exact .inr (Nat.le_refl _)))
                        have HOs := Lib.hid (show Only (· = g) w ((w9.setCell ⟨w5.heap.size, 1, none⟩ (.int .i64 4)).setCell ⟨w5.heap.size, 5, none⟩ (.slice A9 l9.length c9)) from (HO9.out.setCell (p := ⟨w5.heap.size, 1, none⟩) (.inr hxw) (.int .i64 4)).setCell (p := ⟨w5.heap.size, 5, none⟩) (.inr hxw) (.slice A9 l9.length c9))
                        have HRs := Lib.hid (H9.out.only hso (fun k e => by rw [e]; omega))
                        have HNL := Lib.hid (hnl.keep (S' := fun k => w5.heap.size < k) (Kept.of_only hso (fun k hk e => by have hk : (w7.alloc _).heap.size ≤ k := hk; rw [HW8.out] at hk; omega)) (fun k hk => by have hk : (w7.alloc _).heap.size ≤ k := hk; rw [HW8.out] at hk; show w5.heap.size < k; omega))
                        have HN9B := Lib.hid hn9
                        clear ho9 h9 hnl hn9 hso c0 c1 c2 c3 c4 c5
                        go_wp2_with fail
                        go_meet
                        case rel => exact ⟨rfl, SW.here HOs.out HNs.out hxw (.mk tx 4 0 e0 [] l9) (.slice none 0 0) (.slice A9 l9.length c9) HXs.out rfl rfl (.inl ⟨i9, n9, HE2.out, tl_nil _ _, HNL.out, HRs.out, HN9B.out, HQ2.out⟩)⟩

                  · simp only at s1b s2b s3b s4b
                    have HST2 := Lib.hid (rstop_any H8.out ⟨kd2, tx2, nu2, li2, co2⟩ 8)
                    unfold tokV tokC at HST2
                    have HQ2 := Lib.hid (show shutP T d (sectP T F d [] i n) = .bad (flAt ⟨kd2, tx2, nu2, li2, co2⟩ 8) by rw [HQQ.out, nodeP_alt, HT2.out, if_neg (by rw [hs2]; decide), if_neg (by rw [hs]; decide)])
                    have HFL := Lib.hid (show ((⟨nx T (j + 1), m + 1, 0, 0, 0⟩ : RdS).stop ⟨kd2, tx2, nu2, li2, co2⟩ 8).fl = flAt ⟨kd2, tx2, nu2, li2, co2⟩ 8 by unfold RdS.stop; rw [if_pos rfl]; rfl)
                    clear hs hs2
                    go_wp2_with fail
                    refine HST2.out.mono ?_
                    rintro e w9 ⟨rfl, h9, ho9⟩
                    have HX9 := Lib.hid (HX8.out.only ho9 (by omega))
                    have HN9 := Lib.hid (HN8.out.only ho9 (fun k e => by rw [e]; exact .inl hg))
                    have HO9 := Lib.hid (HO8.out.trans ho9)
                    have H9 := Lib.hid h9
                    clear ho9 h9 c0 c1 c2 c3 c4 c5
                    go_wp2_with fail
                    go_meet
                    case rel => exact ⟨rfl, SW.here HO9.out HN9.out hxw (.mk tx 0 0 e0 [] []) (.slice none 0 0) (.slice none 0 0) HX9.out rfl rfl (.inr ⟨_, by rw [HFL.out]; exact HQ2.out, by have h := congrArg Fl.er HFL.out; exact fun e0 => (by decide : (8 : Int) ≠ 0) (h.symm.trans e0), H9.out⟩)⟩

                  · simp only at s1b
                    rw [s1a] at s1b
                    cases s1b
                · simp only at s1a s2a
                  have hs2 : isSign ⟨kd2, tx2, nu2, li2, co2⟩ 123 = false := by
                    cases h : isSign ⟨kd2, tx2, nu2, li2, co2⟩ 123 with
                    | false => rfl
                    | true => have := (sign_kind h).1; simp only at this; rw [this] at s1a; cases s1a
                  have HST2 := Lib.hid (rstop_any H8.out ⟨kd2, tx2, nu2, li2, co2⟩ 8)
                  unfold tokV tokC at HST2
                  have HQ2 := Lib.hid (show shutP T d (sectP T F d [] i n) = .bad (flAt ⟨kd2, tx2, nu2, li2, co2⟩ 8) by rw [HQQ.out, nodeP_alt, HT2.out, if_neg (by rw [hs2]; decide), if_neg (by rw [hs]; decide)])
                  have HFL := Lib.hid (show ((⟨nx T (j + 1), m + 1, 0, 0, 0⟩ : RdS).stop ⟨kd2, tx2, nu2, li2, co2⟩ 8).fl = flAt ⟨kd2, tx2, nu2, li2, co2⟩ 8 by unfold RdS.stop; rw [if_pos rfl]; rfl)
                  clear hs hs2
                  go_wp2_with fail
                  refine HST2.out.mono ?_
                  rintro e w9 ⟨rfl, h9, ho9⟩
                  have HX9 := Lib.hid (HX8.out.only ho9 (by omega))
                  have HN9 := Lib.hid (HN8.out.only ho9 (fun k e => by rw [e]; exact .inl hg))
                  have HO9 := Lib.hid (HO8.out.trans ho9)
                  have H9 := Lib.hid h9
                  clear ho9 h9 c0 c1 c2 c3 c4 c5
                  go_wp2_with fail
                  go_meet
                  case rel => exact ⟨rfl, SW.here HO9.out HN9.out hxw (.mk tx 0 0 e0 [] []) (.slice none 0 0) (.slice none 0 0) HX9.out rfl rfl (.inr ⟨_, by rw [HFL.out]; exact HQ2.out, by have h := congrArg Fl.er HFL.out; exact fun e0 => (by decide : (8 : Int) ≠ 0) (h.symm.trans e0), H9.out⟩)⟩
              · have HQQ := Lib.hid hq
                clear hq
                have HER := Lib.hid her
                clear her
                rcases sign_cases ⟨kd2, tx2, nu2, li2, co2⟩ 61 with ⟨hs, s1a, s2a, s3a, s4a⟩ | ⟨hs, s1a, s2a, s3a, s4a⟩ | ⟨hs, s1a, s2a⟩
                · simp only at s1a s2a s3a s4a
                  have HV := Lib.hid (rvalue_bad H8.out HER.out tx)
                  clear hs
                  go_wp2_with fail
                  refine HV.out.mono ?_
                  rintro e w9 ⟨v9, s9, rfl, ⟨t9, rfl⟩, h9, hf9, ho9⟩
                  have HX9 := Lib.hid (HX8.out.only ho9 (by omega))
                  have HN9 := Lib.hid (HN8.out.only ho9 (fun k e => by rw [e]; exact .inl hg))
                  have HO9 := Lib.hid (HO8.out.trans ho9)
                  have H9 := Lib.hid h9
                  have HF9 := Lib.hid (show s9.fl = s1.fl from hf9)
                  obtain ⟨n0, n1, n2, n3, n4, n5, nf⟩ := (show w9.cell? ⟨w5.heap.size, 0, none⟩ = some (.string tx) ∧ w9.cell? ⟨w5.heap.size, 1, none⟩ = some (.int .i64 0) ∧ w9.cell? ⟨w5.heap.size, 2, none⟩ = some (.int .i64 0) ∧ w9.cell? ⟨w5.heap.size, 3, none⟩ = some (.string ⟨#[]⟩) ∧ w9.cell? ⟨w5.heap.size, 4, none⟩ = some (.slice none 0 0) ∧ w9.cell? ⟨w5.heap.size, 5, none⟩ = some (.slice none 0 0) ∧ ∀ o, w9.frozen? ⟨w5.heap.size, o, none⟩ = false from
                    ⟨by rw [HX9.out.cell]; rfl, by rw [HX9.out.cell]; rfl, by rw [HX9.out.cell]; rfl, by rw [HX9.out.cell]; rfl, by rw [HX9.out.cell]; rfl, by rw [HX9.out.cell]; rfl, fun o => HX9.out.frozen o⟩)
                  unfold ncA
                  clear ho9 h9 hf9 c0 c1 c2 c3 c4 c5
                  go_wp2_with fail
                  go_meet
                  case rel => exact ⟨rfl, SW.put HO9.out HN9.out HX9.out hxw hg t9 (.slice none 0 0) (.slice none 0 0) rfl rfl (.inr ⟨s9, by rw [HQQ.out, HF9.out], by have h := congrArg Fl.er HF9.out; rw [show s9.er = s1.er from h]; exact HER.out, H9.out⟩)⟩

                · simp only at s1a s2a s3a s4a
                  rcases sign_cases ⟨kd2, tx2, nu2, li2, co2⟩ 123 with ⟨hs2, s1b, s2b, s3b, s4b⟩ | ⟨hs2, s1b, s2b, s3b, s4b⟩ | ⟨hs2, s1b, s2b⟩
                  · simp only at s1b s2b s3b s4b
                    by_cases hd8 : d = 8
                    · have z8 : ((d : Int) == 8) = true := beq_iff_eq.2 (by omega)
                      have HST2 := Lib.hid (rstop_any H8.out ⟨kd2, tx2, nu2, li2, co2⟩ 4)
                      unfold tokV tokC at HST2
                      have HF8 := Lib.hid (show True by trivial)
                      have HFL := Lib.hid (show ((⟨nx T s1.i, s1.n, s1.er, s1.line, s1.col⟩ : RdS).stop ⟨kd2, tx2, nu2, li2, co2⟩ 4).fl = s1.fl by unfold RdS.stop; rw [if_neg HER.out]; rfl)
                      clear hd8 hs2
                      go_wp2_with fail
                      refine HST2.out.mono ?_
                      rintro e w9 ⟨rfl, h9, ho9⟩
                      have H9 := Lib.hid h9
                      have HO9 := Lib.hid (HO8.out.trans ho9)
                      clear h9 ho9
                      go_wp2_with fail
                      go_ret
                      rw [HQQ.out]
                      exact ⟨HER.out, _, _, rfl, rfl, H9.out, HFL.out, HO9.out⟩
                    · have z8 : ((d : Int) == 8) = false := beq_eq_false_iff_ne.2 (by omega)
                      have d1 : (0 : Int) ≤ (d : Int) := by omega
                      have d2 : (d : Int) ≤ 8 := by omega
                      have HV := Lib.hid (show Calls Tryd.prog 50 #[.pointer (some ⟨g, 0, none⟩), .int .i64 ((d : Int) + 1)] (w7.alloc (.cells #[.int .i64 kd2, .string tx2, .int .i64 nu2, .int .i64 (li2 : Int), .int .i64 (co2 : Int)] 81)) (KeptRet (w7.alloc (.cells #[.int .i64 kd2, .string tx2, .int .i64 nu2, .int .i64 (li2 : Int), .int .i64 (co2 : Int)] 81)) g A c T isNil s1.fl) from rnodes_bad (d := d + 1) (s := ⟨nx T s1.i, s1.n, s1.er, s1.line, s1.col⟩) H8.out HER.out)
                      clear hs2 hd8
                      go_wp2_with fail
                      refine HV.out.mono ?_
                      rintro e w9 ⟨v9, s9, rfl, rfl, h9, hf9, ho9⟩
                      have HX9 := Lib.hid (HX8.out.only ho9 (by omega))
                      have HN9 := Lib.hid (HN8.out.only ho9 (fun k e => by rw [e]; exact .inl hg))
                      have HO9 := Lib.hid (HO8.out.trans ho9)
                      have H9 := Lib.hid h9
                      have HF9 := Lib.hid hf9
                      obtain ⟨n0, n1, n2, n3, n4, n5, nf⟩ := (show w9.cell? ⟨w5.heap.size, 0, none⟩ = some (.string tx) ∧ w9.cell? ⟨w5.heap.size, 1, none⟩ = some (.int .i64 0) ∧ w9.cell? ⟨w5.heap.size, 2, none⟩ = some (.int .i64 0) ∧ w9.cell? ⟨w5.heap.size, 3, none⟩ = some (.string ⟨#[]⟩) ∧ w9.cell? ⟨w5.heap.size, 4, none⟩ = some (.slice none 0 0) ∧ w9.cell? ⟨w5.heap.size, 5, none⟩ = some (.slice none 0 0) ∧ ∀ o, w9.frozen? ⟨w5.heap.size, o, none⟩ = false from
                        ⟨by rw [HX9.out.cell]; rfl, by rw [HX9.out.cell]; rfl, by rw [HX9.out.cell]; rfl, by rw [HX9.out.cell]; rfl, by rw [HX9.out.cell]; rfl, by rw [HX9.out.cell]; rfl, fun o => HX9.out.frozen o⟩)
                      have hso : Only (· = w5.heap.size) w9 ((w9.setCell ⟨w5.heap.size, 1, none⟩ (.int .i64 4)).setCell ⟨w5.heap.size, 5, none⟩ (.slice none 0 0)) := (((Only.refl (· = w5.heap.size) w9).setCell (p := ⟨w5.heap.size, 1, none⟩) (.inl rfl) (.int .i64 4)).setCell (p := ⟨w5.heap.size, 5, none⟩) (.inl rfl) (.slice none 0 0))
                      have HXs := Lib.hid (show Blk ((w9.setCell ⟨w5.heap.size, 1, none⟩ (.int .i64 4)).setCell ⟨w5.heap.size, 5, none⟩ (.slice none 0 0)) w5.heap.size 48 (ncA (.mk tx 4 0 e0 [] []) (.slice none 0 0) (.slice none 0 0)) from (HX9.out.set_ 1 (.int .i64 4)).set_ 5 (.slice none 0 0))
                      have HNs := Lib.hid (HN9.out.only hso (fun k e => by rw [e]; exact .inr (Nat.le_refl _)))
                      have HOs := Lib.hid (show Only (· = g) w ((w9.setCell ⟨w5.heap.size, 1, none⟩ (.int .i64 4)).setCell ⟨w5.heap.size, 5, none⟩ (.slice none 0 0)) from (HO9.out.setCell (p := ⟨w5.heap.size, 1, none⟩) (.inr hxw) (.int .i64 4)).setCell (p := ⟨w5.heap.size, 5, none⟩) (.inr hxw) (.slice none 0 0))
                      have HRs := Lib.hid (H9.out.only hso (fun k e => by rw [e]; omega))
                      clear ho9 h9 hso hf9 c0 c1 c2 c3 c4 c5
                      go_wp2_with fail
                      go_meet
                      case rel => exact ⟨rfl, SW.here HOs.out HNs.out hxw (.mk tx 4 0 e0 [] []) (.slice none 0 0) (.slice none 0 0) HXs.out rfl rfl (.inr ⟨s9, by rw [HQQ.out, HF9.out], by have h := congrArg Fl.er HF9.out; rw [show s9.er = s1.er from h]; exact HER.out, HRs.out⟩)⟩

                  · simp only at s1b s2b s3b s4b
                    have HST2 := Lib.hid (rstop_any H8.out ⟨kd2, tx2, nu2, li2, co2⟩ 8)
                    unfold tokV tokC at HST2
                    have HQ2 := Lib.hid (show True by trivial)
                    have HFL := Lib.hid (show ((⟨nx T s1.i, s1.n, s1.er, s1.line, s1.col⟩ : RdS).stop ⟨kd2, tx2, nu2, li2, co2⟩ 8).fl = s1.fl by unfold RdS.stop; rw [if_neg HER.out]; rfl)
                    clear hs hs2
                    go_wp2_with fail
                    refine HST2.out.mono ?_
                    rintro e w9 ⟨rfl, h9, ho9⟩
                    have HX9 := Lib.hid (HX8.out.only ho9 (by omega))
                    have HN9 := Lib.hid (HN8.out.only ho9 (fun k e => by rw [e]; exact .inl hg))
                    have HO9 := Lib.hid (HO8.out.trans ho9)
                    have H9 := Lib.hid h9
                    clear ho9 h9 c0 c1 c2 c3 c4 c5
                    go_wp2_with fail
                    go_meet
                    case rel => exact ⟨rfl, SW.here HO9.out HN9.out hxw (.mk tx 0 0 e0 [] []) (.slice none 0 0) (.slice none 0 0) HX9.out rfl rfl (.inr ⟨_, by rw [HFL.out]; exact HQQ.out, by have h := congrArg Fl.er HFL.out; exact fun e0 => HER.out (h.symm.trans e0), H9.out⟩)⟩

                  · simp only at s1b
                    rw [s1a] at s1b
                    cases s1b
                · simp only at s1a s2a
                  have hs2 : isSign ⟨kd2, tx2, nu2, li2, co2⟩ 123 = false := by
                    cases h : isSign ⟨kd2, tx2, nu2, li2, co2⟩ 123 with
                    | false => rfl
                    | true => have := (sign_kind h).1; simp only at this; rw [this] at s1a; cases s1a
                  have HST2 := Lib.hid (rstop_any H8.out ⟨kd2, tx2, nu2, li2, co2⟩ 8)
                  unfold tokV tokC at HST2
                  have HQ2 := Lib.hid (show True by trivial)
                  have HFL := Lib.hid (show ((⟨nx T s1.i, s1.n, s1.er, s1.line, s1.col⟩ : RdS).stop ⟨kd2, tx2, nu2, li2, co2⟩ 8).fl = s1.fl by unfold RdS.stop; rw [if_neg HER.out]; rfl)
                  clear hs hs2
                  go_wp2_with fail
                  refine HST2.out.mono ?_
                  rintro e w9 ⟨rfl, h9, ho9⟩
                  have HX9 := Lib.hid (HX8.out.only ho9 (by omega))
                  have HN9 := Lib.hid (HN8.out.only ho9 (fun k e => by rw [e]; exact .inl hg))
                  have HO9 := Lib.hid (HO8.out.trans ho9)
                  have H9 := Lib.hid h9
                  clear ho9 h9 c0 c1 c2 c3 c4 c5
                  go_wp2_with fail
                  go_meet
                  case rel => exact ⟨rfl, SW.here HO9.out HN9.out hxw (.mk tx 0 0 e0 [] []) (.slice none 0 0) (.slice none 0 0) HX9.out rfl rfl (.inr ⟨_, by rw [HFL.out]; exact HQQ.out, by have h := congrArg Fl.er HFL.out; exact fun e0 => HER.out (h.symm.trans e0), H9.out⟩)⟩
            case rest =>
              obtain ⟨rfl, hsw⟩ := hcut
              obtain ⟨ho, hno, hlt, t, vl, vn, hb, o1, o2, hD⟩ := hsw
              have HO8 := Lib.hid ho
              have HN8 := Lib.hid hno
              have HB8 := Lib.hid hb
              have n0 : wc.cell? ⟨w5.heap.size, 0, none⟩ = some (.string t.name) := by rw [hb.cell]; rfl
              have n1 : wc.cell? ⟨w5.heap.size, 1, none⟩ = some (.int .i64 t.kind) := by rw [hb.cell]; rfl
              have n2 : wc.cell? ⟨w5.heap.size, 2, none⟩ = some (.int .i64 t.num) := by rw [hb.cell]; rfl
              have n3 : wc.cell? ⟨w5.heap.size, 3, none⟩ = some (.string t.text) := by rw [hb.cell]; rfl
              have n4 : wc.cell? ⟨w5.heap.size, 4, none⟩ = some vl := by rw [hb.cell]; rfl
              have n5 : wc.cell? ⟨w5.heap.size, 5, none⟩ = some vn := by rw [hb.cell]; rfl
              have hwc : w.heap.size ≤ wc.heap.size := ho.size
              have hlen5 : x.length ≤ 1000000 := by omega
              have hbl := (Below.refl wc.heap.size wc).al (.cells (ncA t vl vn) 48)
              have HN6 := Lib.hid (hno.up hbl)
              have HDD := Lib.hid hD
              clear ho hno hb hbl hD hlt HN5 HO5 H5 HN7 HX7 HO7 H7 HT4
              unfold ncA at HN6
              go_wp2_with (at_builtin; refine wpList_append_any _ rfl _ _ 30 rfl w.heap.size 48 i0 _ 6 96 Tryd.underlying30 hi0 hz0 hz1 hz2 rfl (by decide) _ _ _ rfl HN6.out.own _ (some ⟨wc.heap.size, 0, none⟩) 1 1 (ncells t vl vn) rfl (reads_node t _ _ rfl) (ncells_one o1 o2) (by unfold maxLen; omega) (by omega) (by simp; omega) ?_; intro v6 w6 ho6 hg6 hd6)
              have hv6 : lenV v6 = x.length + 1 := by
                rcases ho6.2 with ⟨h, h0⟩ | ⟨_, _, _, h, _⟩
                · exact absurd h0 (Nat.succ_ne_zero _)
                · rw [h]; rfl
              have hmes : T.length - lenV v6 < T.length - lenV (.slice Av x.length cv) := by rw [hv6]; show T.length - (x.length + 1) < T.length - x.length; omega
              have hrow : ∀ k, (Value.slice Av x.length cv).ownBlock = some k → w.heap.size ≤ k := fun k hk => (HN6.out.own.lt k hk).1
              have HO9 := Lib.hid ((HO8.out.alloc (.cells #[.string t.name, .int .i64 t.kind, .int .i64 t.num, .string t.text, vl, vn] 48)).grown hg6 (fun k hk => .inr (hrow k hk)))
              have hbl2 := (Below.refl wc.heap.size wc).al (.cells #[.string t.name, .int .i64 t.kind, .int .i64 t.num, .string t.text, vl, vn] 48)
              rcases HDD.out with ⟨i', n', h1, h2, h3, h4, h5, h6⟩ | ⟨s', h1, h2, h3⟩
              · have hmono := nodeP_mono (fun {d i n i' n' l} hh => sectP_mono (acc := []) hh) h1
                have h4' := (h4.up hbl2).grown hg6 (fun k hk => Nat.lt_of_lt_of_le hg (hrow k hk))
                exact ⟨.inl ⟨x ++ [(t, vl, vn)], i', n', f, by rw [h6, List.map_append]; rfl, by omega, by omega, by rw [List.length_append]; show x.length + 1 ≤ _; omega, by rw [hv6, List.length_append]; rfl, HN6.out.push ho6 hg6 hd6 (h2.up hbl2) (h3.up hbl2), h4', h5, HO9.out⟩, hmes⟩
              · exact ⟨.inr ⟨s', h1, h2, (h3.up hbl2).grown hg6 (fun k hk => Nat.lt_of_lt_of_le hg (hrow k hk)), HO9.out⟩, hmes⟩
          · have HE := Lib.hid (show shutP T d (sectP T F d [] i n) = .bad (flAt ⟨kd, tx, nu, li, co⟩ 8) by
              rw [HR.out, HU.out, if_neg hk]
              unfold shutP
              simp only
              rw [HT.out, if_neg (by rw [HQ.out]; decide)])
            have k1 : (kd != 1) = true := bne_iff_ne.2 hk
            have HFL := Lib.hid (show ((⟨nx T j, m, 0, 0, 0⟩ : RdS).stop ⟨kd, tx, nu, li, co⟩ 8).fl = flAt ⟨kd, tx, nu, li, co⟩ 8 by unfold RdS.stop; rw [if_pos rfl]; rfl)
            clear hk
            go_wp2_with fail
            refine (HST.out _ _ _ HP4.out).mono ?_
            rintro e w6 ⟨rfl, hp6, ho6⟩
            have HP7 := Lib.hid hp6
            have HO7 := Lib.hid (HO4.out.trans ho6)
            clear hp6 ho6
            go_wp2_with fail
            go_ret
            rw [HE.out]
            exact ⟨(by decide : (8 : Int) ≠ 0), _, _, rfl, rfl, HP7.out, HFL.out, HO7.out⟩
end Go.Proofs.YtfmdbmalmeimbaaDoor
/- Parse of the reference. -/
namespace Go.Proofs.YtfmdbmalmeimbaaDoor
open Go.RowKit
set_option maxRecDepth 100000

theorem parseR_shut {b : List UInt8} {T : List Tk} {li co : Nat} (hr : lexR b = ⟨T, li, co, 0⟩) : parseR b = match shutP T 0 (sectP T (T.length + 1) 0 [] 0 0) with
    | .bad f => ([], f.line, f.col, f.er)
    | .ok l _ _ => (l, 0, 0, 0) := by
  unfold parseR
  rw [hr]
  simp only [ne_eq, not_true, if_false]
  cases sectP T (T.length + 1) 0 [] 0 0 with
  | bad f => rfl
  | ok l i n =>
    simp only [shutP, shut, if_true]
    by_cases h5 : (tkAt T i).kind = 5
    · simp [h5]
    · simp [h5, flAt]
/-- a place lies, whatever it holds, in a world of a size -/
def QB (g n : Nat) (w : World) : Prop := w.heap.size = n ∧ ∃ cs, Blk w g 37 cs
theorem QB.set {g n : Nat} {w : World} (hs : QB g n w) (k : Nat) (u : Value) : QB g n (w.setCell ⟨g, k, none⟩ u) := by
  obtain ⟨hn, ⟨cs, b⟩⟩ := hs
  exact ⟨by simpa [World.setCell] using hn, ⟨_, b.set_ k u⟩⟩
theorem QB.cells {g n : Nat} {li co : Int} {w : World} (hs : QB g n w) :
    (w.alloc (.cells #[.int .i64 li, .int .i64 co] 37)).drew.cell? ⟨n, 0, none⟩ = some (.int .i64 li) ∧
    (w.alloc (.cells #[.int .i64 li, .int .i64 co] 37)).drew.cell? ⟨n, 1, none⟩ = some (.int .i64 co) ∧
    (w.alloc (.cells #[.int .i64 li, .int .i64 co] 37)).drew.frozen? ⟨g, 0, none⟩ = false ∧
    (w.alloc (.cells #[.int .i64 li, .int .i64 co] 37)).drew.frozen? ⟨g, 1, none⟩ = false := by
  obtain ⟨hn, ⟨cs, b⟩⟩ := hs
  subst hn
  have bt := Blk.new w 37 #[.int .i64 li, .int .i64 co]
  have b' := (b.below ((Below.refl _ _).al (.cells #[.int .i64 li, .int .i64 co] 37)) b.lt)
  exact ⟨(bt.cell 0).trans rfl, (bt.cell 1).trans rfl, b'.frozen 0, b'.frozen 1⟩
def QR (g r : Nat) (C : Array Value) (w : World) : Prop := g ≠ r ∧ (∃ cs, Blk w g 37 cs) ∧ Blk w r 92 C
theorem QR.set {g r : Nat} {C : Array Value} {w : World} (hs : QR g r C w) (k : Nat) (u : Value) : QR g r C (w.setCell ⟨g, k, none⟩ u) := by
  obtain ⟨hn, ⟨cs, b⟩, b2⟩ := hs
  exact ⟨hn, ⟨_, b.set_ k u⟩, b2.off_ ⟨g, k, none⟩ u (by show r ≠ g; omega)⟩
theorem QR.cells {g r : Nat} {x0 x1 x2 x3 x4 x5 : Value} {w : World} (hs : QR g r #[x0, x1, x2, x3, x4, x5] w) : w.drew.cell? ⟨r, 3, none⟩ = some x3 ∧ w.drew.cell? ⟨r, 4, none⟩ = some x4 ∧ w.drew.cell? ⟨r, 5, none⟩ = some x5 ∧ w.drew.frozen? ⟨g, 0, none⟩ = false ∧ w.drew.frozen? ⟨g, 1, none⟩ = false := by
  obtain ⟨hn, ⟨cs, b⟩, b2⟩ := hs
  exact ⟨(b2.cell 3).trans rfl, (b2.cell 4).trans rfl, (b2.cell 5).trans rfl, b.frozen 0, b.frozen 1⟩
set_option maxHeartbeats 8000000 in
theorem rparse_any (s : ByteArray) (w : World) : Calls Tryd.prog 26 #[.string s] w (ParseRet (parseR s.data.toList) w) := by
  obtain ⟨T, li, co, er, hr⟩ : ∃ T li co er, lexR s.data.toList = ⟨T, li, co, er⟩ := ⟨_, _, _, _, rfl⟩
  have HTK := Lib.hid (fun w => rtokens_row s w hr)
  by_cases he : er = 0
  · subst he
    have HOK := Lib.hid (show TOk T by have h := lexR_tok (b := s.data.toList) (by rw [hr]); rw [hr] at h; exact h)
    have HE := Lib.hid (parseR_shut hr)
    clear hr
    go_enter Tryd.func26, Tryd.ntmps26
    go_wp2_with fail
    refine (HTK.out _).mono ?_
    rintro e w1 ⟨A, c, rfl, hk, hb⟩
    have hp0 : Blk w1 w.heap.size 37 #[.int .i64 0, .int .i64 0] := (Blk.new w 37 #[.int .i64 0, .int .i64 0]).below hb (Blk.new w 37 #[.int .i64 0, .int .i64 0]).lt
    have HP0 := Lib.hid hp0
    have hz : w.heap.size < w1.heap.size := hp0.lt
    have HB1 := Lib.hid (((Below.refl w.heap.size w).al (.cells #[.int .i64 0, .int .i64 0] 37)).next hb)
    have HK := Lib.hid hk
    clear hk hb hp0
    go_wp2_with fail
    have HRB := Lib.hid (show RB ((w1.alloc (.cells #[.int .i64 (li : Int), .int .i64 (co : Int)] 37)).alloc (.cells #[.slice A T.length c, .int .i64 ((0 : Nat) : Int), .int .i64 ((0 : Nat) : Int), .int .i64 0, .int .i64 ((0 : Nat) : Int), .int .i64 ((0 : Nat) : Int)] 92)) (w1.heap.size + 1) A c T ⟨0, 0, 0, 0, 0⟩ from by
      have b := Blk.new (w1.alloc (.cells #[.int .i64 (li : Int), .int .i64 (co : Int)] 37)) 92 #[.slice A T.length c, .int .i64 ((0 : Nat) : Int), .int .i64 ((0 : Nat) : Int), .int .i64 0, .int .i64 ((0 : Nat) : Int), .int .i64 ((0 : Nat) : Int)]
      rw [show (w1.alloc (.cells #[.int .i64 (li : Int), .int .i64 (co : Int)] 37)).heap.size = w1.heap.size + 1 by simp] at b
      exact ⟨b, (HK.out.below (((Below.refl _ _).al _).al _) (Nat.le_refl _)).more (by omega), HOK.out, HOK.out.pos, by show 0 ≤ 1025; omega⟩)
    have HN := Lib.hid (rnodes_any (T.length + 1) (d := 0) HRB.out (by show 0 ≤ 1024; omega) (by omega) (by omega))
    have HB2 := Lib.hid (show Below w.heap.size w ((w1.alloc (.cells #[.int .i64 (li : Int), .int .i64 (co : Int)] 37)).alloc (.cells #[.slice A T.length c, .int .i64 ((0 : Nat) : Int), .int .i64 ((0 : Nat) : Int), .int .i64 0, .int .i64 ((0 : Nat) : Int), .int .i64 ((0 : Nat) : Int)] 92)) from (HB1.out.al _).al _)
    have HP2 := Lib.hid (show Blk ((w1.alloc (.cells #[.int .i64 (li : Int), .int .i64 (co : Int)] 37)).alloc (.cells #[.slice A T.length c, .int .i64 ((0 : Nat) : Int), .int .i64 ((0 : Nat) : Int), .int .i64 0, .int .i64 ((0 : Nat) : Int), .int .i64 ((0 : Nat) : Int)] 92)) w.heap.size 37 #[.int .i64 0, .int .i64 0] from HP0.out.below (((Below.refl _ _).al _).al _) HP0.out.lt)
    clear HRB
    cases hr : shutP T 0 (sectP T (T.length + 1) 0 [] 0 0) with
    | bad f =>
      rw [hr] at HN
      have HE2 := Lib.hid (show parseR s.data.toList = ([], f.line, f.col, f.er) by rw [HE.out, hr])
      clear hr HE
      refine HN.out.mono ?_
      rintro e w4 ⟨he, v, s4, rfl, rfl, h4, hf, ho4⟩
      subst hf
      have HB4 := Lib.hid (HB2.out.trans (ho4.below HB2.out.size (fun k e => by rw [e]; omega)))
      have hp4 := HP2.out.only ho4 (by omega)
      have HP4 := Lib.hid hp4
      obtain ⟨a0, a1, a2, a3, a4, a5, ff⟩ := h4.cs
      have hg4 := h4.blk.lt
      have q : (s4.er != 0) = true := bne_iff_ne.2 he
      have p0 : w4.cell? ⟨w.heap.size, 0, none⟩ = some (.int .i64 0) := by rw [hp4.cell]; rfl
      have p1 : w4.cell? ⟨w.heap.size, 1, none⟩ = some (.int .i64 0) := by rw [hp4.cell]; rfl
      have pf := hp4.frozen
      have HQR := Lib.hid (show QR w.heap.size (w1.heap.size + 1) (rsC A T.length c s4) w4 from ⟨by omega, ⟨_, hp4⟩, h4.blk⟩)
      unfold rsC at HQR
      clear h4 ho4 hp4 he
      go_wp2_with fail
      go_region_held3 (fun w' => w'.cell? ⟨w1.heap.size + 1, 3, none⟩ = some (.int .i64 s4.er) ∧ w'.cell? ⟨w1.heap.size + 1, 4, none⟩ = some (.int .i64 (s4.line : Int)) ∧ w'.cell? ⟨w1.heap.size + 1, 5, none⟩ = some (.int .i64 (s4.col : Int)) ∧ w'.frozen? ⟨w.heap.size, 0, none⟩ = false ∧ w'.frozen? ⟨w.heap.size, 1, none⟩ = false)
        (first | exact QR.cells HQR.out | exact QR.cells ((HQR.out.set _ _).set _ _)) (first | fail)
      all_goals
        generalize hW : World.drew _ = W
        have HB := Lib.hid (show Blk W w.heap.size 37 #[.int .i64 (s4.line : Int), .int .i64 (s4.col : Int)] ∧ Below w.heap.size w W by
          rw [← hW]
          refine ⟨((HP4.out.set_ 0 (.int .i64 (s4.line : Int))).set_ 1 (.int .i64 (s4.col : Int))), ?_⟩
          exact ((HB4.out.put ⟨w.heap.size, 0, none⟩ (Nat.le_refl _) _).put ⟨w.heap.size, 1, none⟩ (Nat.le_refl _) _).drew)
        have r0 : W.cell? ⟨w.heap.size, 0, none⟩ = some (.int .i64 (s4.line : Int)) := by rw [HB.out.1.cell]; rfl
        have r1 : W.cell? ⟨w.heap.size, 1, none⟩ = some (.int .i64 (s4.col : Int)) := by rw [HB.out.1.cell]; rfl
        clear hW p0 p1 pf a0 a1 a2 a3 a4 a5 ff
        go_wp2_with fail
        rw [HE2.out]
        exact bodyPost_ret (results_tmp_cell_tmp (q := 2) (r := 4) rfl _ _ w.heap.size _ _ _ rfl HB.out.1 Tryd.underlying37 rfl (by kernel_rfl)) rfl ⟨_, rfl, .nil _ _, HB.out.2⟩
    | ok l i n =>
      rw [hr] at HN
      have HE2 := Lib.hid (show parseR s.data.toList = (l, 0, 0, 0) by rw [HE.out, hr])
      clear hr HE
      refine HN.out.mono ?_
      rintro e w4 ⟨v, rfl, hnl, h4, hn, ho4⟩
      have HB4 := Lib.hid (HB2.out.trans (ho4.below HB2.out.size (fun k e => by rw [e]; omega)))
      have HP4 := Lib.hid (HP2.out.only ho4 (by omega))
      have hsz : w.heap.size + 1 ≤ ((w1.alloc (.cells #[.int .i64 (li : Int), .int .i64 (co : Int)] 37)).alloc (.cells #[.slice A T.length c, .int .i64 ((0 : Nat) : Int), .int .i64 ((0 : Nat) : Int), .int .i64 0, .int .i64 ((0 : Nat) : Int), .int .i64 ((0 : Nat) : Int)] 92)).heap.size := by simp; omega
      have HNL := Lib.hid (show NL w4 (fun k => w.heap.size < k) v l from hnl.mono (fun k hk => Nat.lt_of_lt_of_le hsz hk))
      clear hsz
      obtain ⟨a0, a1, a2, a3, a4, a5, ff⟩ := h4.cs
      have hg4 := h4.blk.lt
      have p0 : w4.cell? ⟨w.heap.size, 0, none⟩ = some (.int .i64 0) := by rw [HP4.out.cell]; rfl
      have p1 : w4.cell? ⟨w.heap.size, 1, none⟩ = some (.int .i64 0) := by rw [HP4.out.cell]; rfl
      have pf := HP4.out.frozen
      obtain ⟨Av, cv, rfl, _⟩ := id hnl.form
      clear h4 ho4 hnl
      have HB := Lib.hid (show Below w.heap.size w ((w4.setCell ⟨w.heap.size, 0, none⟩ (.int .i64 0)).setCell ⟨w.heap.size, 1, none⟩ (.int .i64 0)) from (HB4.out.put ⟨w.heap.size, 0, none⟩ (Nat.le_refl _) _).put ⟨w.heap.size, 1, none⟩ (Nat.le_refl _) _)
      have HNL2 := Lib.hid (show NL ((w4.setCell ⟨w.heap.size, 0, none⟩ (.int .i64 0)).setCell ⟨w.heap.size, 1, none⟩ (.int .i64 0)) (fun k => w.heap.size ≤ k) (.slice Av l.length cv) l from HNL.out.keep (Kept.of_only (((Only.refl (· = w.heap.size) w4).setCell (p := ⟨w.heap.size, 0, none⟩) (.inl rfl) (.int .i64 0)).setCell (p := ⟨w.heap.size, 1, none⟩) (.inl rfl) (.int .i64 0)) (fun k hk e => by have hk : w.heap.size < k := hk; omega)) (fun k hk => Nat.le_of_lt hk))
      go_wp2_with fail
      rw [HE2.out]
      exact bodyPost_ret (results_tmp_cell_tmp (q := 2) (r := 4) rfl _ _ w.heap.size _ _ _ rfl ((HP4.out.set_ 0 (.int .i64 0)).set_ 1 (.int .i64 0)) Tryd.underlying37 rfl (by kernel_rfl)) rfl ⟨_, rfl, HNL2.out, HB.out⟩
  · have q : (er != 0) = true := bne_iff_ne.2 he
    have HE := Lib.hid (show parseR s.data.toList = ([], li, co, er) by unfold parseR; rw [hr]; simp only [ne_eq, if_pos he])
    clear hr he
    go_enter Tryd.func26, Tryd.ntmps26
    go_wp2_with fail
    refine (HTK.out _).mono ?_
    rintro e w1 ⟨A, c, rfl, hk, hb⟩
    have hp0 : Blk w1 w.heap.size 37 #[.int .i64 0, .int .i64 0] := (Blk.new w 37 #[.int .i64 0, .int .i64 0]).below hb (Blk.new w 37 #[.int .i64 0, .int .i64 0]).lt
    have HP0 := Lib.hid hp0
    have hz : w.heap.size < w1.heap.size := hp0.lt
    have HB1 := Lib.hid (((Below.refl w.heap.size w).al (.cells #[.int .i64 0, .int .i64 0] 37)).next hb)
    have p0 : w1.cell? ⟨w.heap.size, 0, none⟩ = some (.int .i64 0) := by rw [hp0.cell]; rfl
    have p1 : w1.cell? ⟨w.heap.size, 1, none⟩ = some (.int .i64 0) := by rw [hp0.cell]; rfl
    have pf := hp0.frozen
    have HQ := Lib.hid (show QB w.heap.size w1.heap.size w1 from ⟨rfl, ⟨_, hp0⟩⟩)
    clear hk hb hp0
    go_wp2_with fail
    go_region_held3 (fun w' => w'.cell? ⟨w1.heap.size, 0, none⟩ = some (.int .i64 (li : Int)) ∧ w'.cell? ⟨w1.heap.size, 1, none⟩ = some (.int .i64 (co : Int)) ∧ w'.frozen? ⟨w.heap.size, 0, none⟩ = false ∧ w'.frozen? ⟨w.heap.size, 1, none⟩ = false)
      (first | exact QB.cells HQ.out | exact QB.cells ((HQ.out.set _ _).set _ _)) (first | fail)
    all_goals
      generalize hW : World.drew _ = W
      have HB := Lib.hid (show Blk W w.heap.size 37 #[.int .i64 (li : Int), .int .i64 (co : Int)] ∧ Below w.heap.size w W by
        rw [← hW]
        refine ⟨((HP0.out.set_ 0 (.int .i64 (li : Int))).set_ 1 (.int .i64 (co : Int))).below ((Below.refl _ _).al _).drew ((HP0.out.set_ 0 (.int .i64 (li : Int))).set_ 1 (.int .i64 (co : Int))).lt, ?_⟩
        exact (((HB1.out.put ⟨w.heap.size, 0, none⟩ (Nat.le_refl _) _).put ⟨w.heap.size, 1, none⟩ (Nat.le_refl _) _).al _).drew)
      have r0 : W.cell? ⟨w.heap.size, 0, none⟩ = some (.int .i64 (li : Int)) := by rw [HB.out.1.cell]; rfl
      have r1 : W.cell? ⟨w.heap.size, 1, none⟩ = some (.int .i64 (co : Int)) := by rw [HB.out.1.cell]; rfl
      clear hW p0 p1 pf
      go_wp2_with fail
      rw [HE.out]
      exact bodyPost_ret (results_tmp_cell_tmp (q := 2) (r := 4) rfl _ _ w.heap.size _ _ _ rfl HB.out.1 Tryd.underlying37 rfl (by kernel_rfl)) rfl ⟨_, rfl, .nil _ _, HB.out.2⟩
end Go.Proofs.YtfmdbmalmeimbaaDoor
