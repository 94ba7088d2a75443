/- Merged: PNodes, PNodesA, BStr, Format. -/
import Derived.Test.YtfmdbmalmeimbaaDoorMLine
import Derived.Test.YtfmdbmalmeimbaaDoorMForm
import Derived.Test.YtfmdbmalmeimbaaDoorPList
import Derived.Lib.AppendIntMem
import Derived.Deep.CutBlock
import Derived.Deep.DeepCutAuto
import Derived.Lib.UnsafeStr
import Derived.Shelf.RegionOpen
import Derived.Shelf.RegionOpenPlain
/- nodes of the printer. -/
namespace Go.Proofs.YtfmdbmalmeimbaaDoor
open Go.RowKit
set_option maxRecDepth 100000

def bsT (l : List UInt8) : ByteArray := ⟨l.toArray⟩
def qT (s : ByteArray) : ByteArray := bsT (quoteL s.data.toList)
def eqB : ByteArray := ⟨#[32, 61, 32]⟩
def opB : ByteArray := ⟨#[32, 61, 32, 91]⟩
def clB : ByteArray := ⟨#[93]⟩
def obB : ByteArray := ⟨#[32, 123]⟩
def cbB : ByteArray := ⟨#[125]⟩
def joinQ (l : List ByteArray) : ByteArray := bsT (Lib.join ((l.map qT).map (·.data.toList)) [44, 32])
/-- the text of a node at depth d, given that of what lies below -/
def nodeL (sub : Nat → List Nd → List UInt8) (d : Nat) (t : Nd) : List UInt8 :=
  if t.kind = 1 then lineB d [t.name, eqB, bsT (Lib.itoa t.num)]
  else if t.kind = 2 then lineB d [t.name, eqB, qT t.text]
  else if t.kind = 3 then lineB d [t.name, opB, joinQ t.list, clB]
  else lineB d [t.name, obB] ++ sub (d + 1) t.nodes ++ lineB d [cbB]
def linesF : Nat → Nat → List Nd → List UInt8
  | 0, d, l => l.flatMap (nodeL (fun _ _ => []) d)
  | k + 1, d, l => l.flatMap (nodeL (linesF k) d)
theorem _root_.Go.RowKit.Below.below_ {w w' : World} {B : Nat} (h : Below w.heap.size w w') (hB : B ≤ w.heap.size) : Below B w w' := (Only.of_below (fun _ => False) h).below hB (fun _ h => h.elim)
theorem _root_.Go.RowKit.Below.mono_ {w w' : World} {B B' : Nat} (h : Below B w w') (hB : B' ≤ B) : Below B' w w' := ⟨h.os, h.tape, h.output, h.size, fun k hk => h.block k (by omega)⟩
theorem join_any {w : World} {base : Nat} {A : Option Addr} {c n : Nat} {qs : List ByteArray} (h : TO w base (.slice A n c) qs) (hlen : (Lib.join (qs.map (·.data.toList)) [44, 32]).length ≤ 140737488355328) (hn : qs.length ≤ 1000000) :
    Calls Tryd.prog 60 #[.slice A qs.length c, .string ⟨#[44, 32]⟩] w (fun e w' => e = .returned (.string (bsT (Lib.join (qs.map (·.data.toList)) [44, 32]))) ∧ Below w.heap.size w w') := by
  rcases id h.2 with ⟨hv, h0⟩ | ⟨g, cap, cur, hv, hg, hh, hcap, r⟩
  · have : qs = [] := List.eq_nil_of_length_eq_zero h0
    subst this
    exact (Tryd.strings_Join_none A c ⟨#[44, 32]⟩ w).mono fun _ _ h => ⟨h.1, by rw [h.2]; exact Below.refl _ _⟩
  · injection hv with e1 e2 e3
    subst e1 e3
    refine (Tryd.strings_Join g 0 c qs ⟨#[44, 32]⟩ w (fun j x hx => ?_) (World.ownsRow.lt h g rfl).2 (by omega) hcap hlen).mono fun _ _ h => h
    have hk : j < qs.length := (List.getElem?_eq_some_iff.1 hx).1
    have := World.ownsRow.cellAt (e2 ▸ h) j (by omega)
    rw [List.getElem?_map, hx] at this
    rw [Nat.zero_add]
    exact this
theorem lineB_len (d : Nat) (ps : List ByteArray) : (lineB d ps).length = 2 * d + (ps.flatMap (fun s => s.data.toList)).length + 1 := by
  unfold lineB
  rw [List.length_append, List.length_append, rep_len]
  rfl
def T10 (B : Nat) (w : World) : Prop := Lib.TabBelow Tryd.prog B w "internal/strconv.uint64pow10" .u64 Lib.pow10Tab
theorem itoa_any {B : Nat} {w : World} (h : T10 B w) (n : Int) (h0 : -9223372036854775808 ≤ n) (h1 : n ≤ 9223372036854775807) : Calls Tryd.prog 58 #[.int .i64 n] w (fun e w' => e = .returned (.string (bsT (Lib.itoa n))) ∧ Below w.heap.size w w') :=
  (Tryd.strconv_Itoa n h0 h1 w h.here).mono fun _ _ h => by
    obtain ⟨rfl, k, os, rfl⟩ := h
    exact ⟨rfl, Lib.below_grow _ w (Nat.le_refl _) k os⟩
theorem linesF_eq (k d : Nat) (l : List Nd) : linesF k d l = l.flatMap (nodeL (match k with | 0 => fun _ _ => [] | k + 1 => linesF k) d) := by cases k <;> rfl
/-- the printer behind the nodes -/
def PNRet (B b : Nat) (_p v : Value) (l : List Nd) (bs : List UInt8) (w : World) (e : Ending) (w' : World) : Prop := e = .returned (.tuple #[]) ∧ ∃ p' v', BL w' B b p' v' bs ∧ (p' = .pointer none ∨ p' = .pointer (some ⟨b, 0, none⟩)) ∧ FR B b w w' ∧ (l = [] → v' = v)
def PNC (f : List Nd → Bool) (sub : Nat → List Nd → List UInt8) (d : Nat) : Prop := ∀ {l : List Nd} {w : World} {A : Option Addr} {c B b : Nat} {p v : Value} {bs : List UInt8}, NL w (fun g => g < B) (.slice A l.length c) l → BL w B b p v bs → (p = .pointer none ∨ p = .pointer (some ⟨b, 0, none⟩)) → f l = true → Fit l →
    bs.length + (sub d l).length ≤ 140737488355328 → B ≤ w.heap.size → T10 B w → Calls Tryd.prog 34 #[.pointer (some ⟨b, 0, none⟩), .slice A l.length c, .int .i64 (d : Int)] w (PNRet B b p v l (bs ++ sub d l) w)
theorem flatM_take {f : Nd → List UInt8} {l : List Nd} {k : Nat} {s : Nd} (h : l[k]? = some s) : (l.take (k + 1)).flatMap f = (l.take k).flatMap f ++ f s := by
  obtain ⟨hk, e⟩ := List.getElem?_eq_some_iff.1 h
  rw [List.take_succ_eq_append_getElem hk, e, List.flatMap_append]
  simp
theorem flatM_le (f : Nd → List UInt8) (l : List Nd) (k : Nat) : ((l.take k).flatMap f).length ≤ (l.flatMap f).length := by
  conv => rhs; rw [← List.take_append_drop k l, List.flatMap_append, List.length_append]
  omega
theorem nbc {W : World} {g : Nat} {v0 v1 v2 v3 v4 v5 : Value} (h : Blk W g 48 #[v0, v1, v2, v3, v4, v5]) : W.cell? ⟨g, 0, none⟩ = some v0 ∧ W.cell? ⟨g, 2, none⟩ = some v2 := ⟨by rw [h.cell]; rfl, by rw [h.cell]; rfl⟩
theorem nb2 {W : World} {g : Nat} {v0 v1 v2 v3 v4 v5 : Value} (h : Blk W g 48 #[v0, v1, v2, v3, v4, v5]) : W.cell? ⟨g, 0, none⟩ = some v0 ∧ W.cell? ⟨g, 2, none⟩ = some v2 ∧ W.cell? ⟨g, 3, none⟩ = some v3 ∧ W.cell? ⟨g, 4, none⟩ = some v4 ∧ W.cell? ⟨g, 5, none⟩ = some v5 :=
  ⟨by rw [h.cell]; rfl, by rw [h.cell]; rfl, by rw [h.cell]; rfl, by rw [h.cell]; rfl, by rw [h.cell]; rfl⟩
set_option maxHeartbeats 16000000 in
theorem pnodes_step {f : List Nd → Bool} {sub : Nat → List Nd → List UInt8} {d : Nat} (hd : d ≤ 8) (hsub : if d = 8 then (∀ l, f l = false) else PNC f sub (d + 1)) : PNC (fun l => decide ((l.map Nd.name).Nodup) && l.all (okN f)) (fun d l => l.flatMap (nodeL sub d)) d := by
  intro l w A c B b p v bs hl hb hp hf hfit hlen hB htab
  have HL := Lib.hid hl
  have HB := Lib.hid hb
  have HP := Lib.hid hp
  have HF := Lib.hid (List.all_eq_true.1 (Bool.and_eq_true_iff.1 hf).2)
  have HFT := Lib.hid hfit
  have HT := Lib.hid htab
  have HSUB := Lib.hid hsub
  have hln := hfit.all.1
  clear hl hb hp hf hfit htab hsub
  go_enter Tryd.func34, Tryd.ntmps34
  go_wp2_with fail
  go_loopw [17] (fun i wr => ∃ (k : Nat) (p' v' : Value), k ≤ l.length ∧ i = .int .i64 (k : Int) ∧ BL wr B b p' v' (bs ++ (l.take k).flatMap (nodeL sub d)) ∧ (p' = .pointer none ∨ p' = .pointer (some ⟨b, 0, none⟩)) ∧ FR B b w wr ∧ (k = 0 → v' = v)) (fun i _ => l.length - (intOf i).toNat)
  case atStart => exact ⟨0, p, v, Nat.zero_le _, rfl, by rw [List.take_zero, List.flatMap_nil, List.append_nil]; exact HB.out, HP.out, FR.refl _ _ _, fun _ => rfl⟩
  case round =>
    obtain ⟨k, p', v', hk, rfl, hb1, hp1, hf1, hv1⟩ := hrel
    have HB1 := Lib.hid hb1
    have HP1 := Lib.hid hp1
    have HF1 := Lib.hid hf1
    have HV1 := Lib.hid hv1
    have hz1 : w.heap.size ≤ wr.heap.size := hf1.ok.1
    clear hb1 hp1 hf1 hv1
    by_cases hlt : k < l.length
    case neg =>
      obtain rfl : k = l.length := by omega
      have HB2 := Lib.hid (show BL wr B b p' v' (bs ++ l.flatMap (nodeL sub d)) by have h := HB1.out; rw [List.take_length] at h; exact h)
      go_wp2_with fail
      go_end0
      exact ⟨rfl, p', v', HB2.out, HP1.out, HF1.out, fun e => HV1.out (by rw [e]; rfl)⟩
    have j0 : (k : Int) < (l.length : Int) := by omega
    have j1 : (0 : Int) ≤ (k : Int) := by omega
    obtain ⟨ad, x, xl, xn, rfl, hx, _, had, h6, htl, hnl⟩ := (HL.out.keep (S' := fun g => g < B) (show Kept (fun g => g < B) w wr from ⟨HF1.out.ok.1, fun q hq _ => HF1.out.below.cell hq⟩) (fun _ h => h)).at_ hlt
    have hxm := List.mem_of_getElem? hx
    have HX := Lib.hid hx
    obtain ⟨Ax, cx, rfl, _⟩ := htl.form
    obtain ⟨Bx, dx, rfl, _⟩ := id hnl.form
    have HTL := Lib.hid htl
    have HNL := Lib.hid hnl
    obtain ⟨p0, p1, p2, p3, p4, p5⟩ := h6
    have had2 : (ad.add (k * 6)).block < wr.heap.size := by rw [block_of_add]; exact had
    have hfl := flatM_take (f := nodeL sub d) hx
    have hle := flatM_le (nodeL sub d) l (k + 1)
    rw [hfl, List.length_append] at hle
    have HFL := Lib.hid hfl
    have hlen2 : (bs ++ (l.take k).flatMap (nodeL sub d)).length + (nodeL sub d x).length ≤ 140737488355328 := by rw [List.length_append]; omega
    have HLE := Lib.hid hlen2
    have HOK := Lib.hid (HF.out x hxm)
    have hf2 := HFT.out.all.2.2.1 x hxm
    have hf3 := HFT.out.all.2.2.2.1 x hxm
    have HF4 := Lib.hid (HFT.out.all.2.2.2.2.1 x hxm)
    have HF5 := Lib.hid (HFT.out.all.2.2.2.2.2 x hxm)
    obtain ⟨bs1, hbs1⟩ : ∃ bs1, bs ++ (l.take k).flatMap (nodeL sub d) = bs1 := ⟨_, rfl⟩
    have HBS := Lib.hid hbs1
    rw [hbs1] at HB1 HLE
    obtain ⟨nm, kd, nu, tx, ls, ns⟩ := x
    simp only [Nd.name, Nd.kind, Nd.num, Nd.text, Nd.list, Nd.nodes] at *
    have hBw : B ≤ wr.heap.size := by omega
    have HTB := Lib.hid (HT.out.on HF1.out.below)
    clear hx hxm htl hnl hfl hle hlen2 hbs1
    have HEND := Lib.hid (show ∀ (W : World) (v'' : Value), BL W B b (.pointer (some ⟨b, 0, none⟩)) v'' (bs1 ++ nodeL sub d (.mk nm kd nu tx ls ns)) → FR B b wr W → ∃ (p3 v3 : Value), BL W B b p3 v3 (bs ++ (l.take (k + 1)).flatMap (nodeL sub d)) ∧ (p3 = .pointer none ∨ p3 = .pointer (some ⟨b, 0, none⟩)) ∧ FR B b w W ∧ (k + 1 = 0 → v3 = v) from fun W v'' hb hfr =>
      ⟨_, v'', by rw [HFL.out, ← List.append_assoc, HBS.out]; exact hb, .inr rfl, HF1.out.trans hfr, fun e => absurd e (Nat.succ_ne_zero _)⟩)
    have hnbB : Blk (wr.alloc (.cells #[.string nm, .int .i64 kd, .int .i64 nu, .string tx, .slice Ax ls.length cx, .slice Bx ns.length dx] 48)) wr.heap.size 48 #[.string nm, .int .i64 kd, .int .i64 nu, .string tx, .slice Ax ls.length cx, .slice Bx ns.length dx] := Blk.new _ _ _
    have HNB := Lib.hid hnbB
    have hbb : b < wr.heap.size := HB1.out.blk.lt
    have hnbne : wr.heap.size ≠ b := by omega
    have HFRW := Lib.hid (show ∀ W, Below wr.heap.size wr W → FR B b wr W from fun W h => (FR.refl B b wr).next hBw h)
    clear hnbB
    by_cases hk1 : kd = 1
    · subst hk1
      have hpl := HOK.out
      rw [okN_eq, pl1] at hpl
      simp only [Bool.and_eq_true, decide_eq_true_eq] at hpl
      have hlo : -9007199254740992 ≤ nu := hpl.1.2.1.1.1.1
      have hhi : nu ≤ 9007199254740992 := hpl.1.2.1.1.1.2
      have HE := Lib.hid (show nodeL sub d (.mk nm 1 nu tx ls ns) = lineB d [nm, eqB, bsT (Lib.itoa nu)] from if_pos rfl)
      clear hpl
      go_wp2_with fail
      go_region_held3 (fun w' => w'.cell? ⟨wr.heap.size, 0, none⟩ = some (.string nm) ∧ w'.cell? ⟨wr.heap.size, 2, none⟩ = some (.int .i64 nu))
        (first | exact nbc HNB.out | exact nbc HNB.out.drew | exact nbc HNBa.out | exact nbc (HNBa.out.alloc _) | exact nbc HNB3.out)
        (first
          | (go_at_call 58; refine (itoa_any (HTB.out.on (HFRW.out _ ((Below.refl _ _).al _).drew).below) nu (by omega) (by omega)).mono ?_; rintro e w1 ⟨rfl, hbi⟩; have HB2 := Lib.hid (HB1.out.up (((Below.refl _ _).al _).drew.next hbi)); have HBEL := Lib.hid (show Below wr.heap.size wr w1 from ((Below.refl _ _).al _).drew.next hbi); have HNBa := Lib.hid (HNB.out.drew.below hbi HNB.out.drew.lt); have hsz := HBEL.out.size; clear hbi)
          | (go_at_call 57; refine (line_any (ps := [nm, eqB, bsT (Lib.itoa nu)]) (HB2.out.up ((Below.refl _ _).al _)) HP1.out (by omega) (show Blk (w1.alloc (.cells #[.string nm, .string ⟨#[32, 61, 32]⟩, .string (bsT (Lib.itoa nu))] 9)) w1.heap.size 9 ([nm, eqB, bsT (Lib.itoa nu)].map Value.string).toArray from Blk.new _ _ _) (by have h := HLE.out; rw [HE.out, lineB_len] at h; exact h) (show (3 : Nat) ≤ 1000000 by omega) (by simp; omega)).mono ?_; rintro e w3 ⟨rfl, v3, h3, hf3⟩; have HB3 := Lib.hid h3; have HF3 := Lib.hid ((HFRW.out _ (HBEL.out.al _)).trans hf3); have HNB3 := Lib.hid (hf3.ok.2 _ _ _ (by decide) hnbne (HNBa.out.alloc _)); clear h3 hf3))
      all_goals
        rw [← HE.out] at HB3
        go_wp2_with fail
        obtain ⟨p9, v9, h1, h2, h3, h4⟩ := HEND.out _ _ HB3.out HF3.out
        exact ⟨⟨k + 1, p9, v9, by omega, by go_num, h1, h2, h3, h4⟩, by simp [intOf]; omega⟩
    · by_cases hk2 : kd = 2
      · subst hk2
        have hpl := HOK.out
        rw [okN_eq, pl2] at hpl
        simp only [Bool.and_eq_true, decide_eq_true_eq] at hpl
        have hqk : qokT tx = true := hpl.1.2.1.1.1
        have HE := Lib.hid (show nodeL sub d (.mk nm 2 nu tx ls ns) = lineB d [nm, eqB, qT tx] from rfl)
        have HQ := Lib.hid (show ∀ W, Calls Tryd.prog 59 #[.string tx] W (Ret (.tuple #[.string (qT tx), .int .i64 0]) W) from fun W => by have h := quote_any tx W hf2; rw [quoteV_ok hqk] at h; exact h)
        clear hpl hqk
        go_wp2_with fail
        refine (HQ.out _).mono ?_
        rintro e w1 ⟨rfl, hbi⟩
        have HB2 := Lib.hid (HB1.out.up (((Below.refl _ _).al _).next hbi))
        have HBEL := Lib.hid (show Below wr.heap.size wr w1 from ((Below.refl _ _).al _).next hbi)
        have HNBa := Lib.hid (HNB.out.below hbi HNB.out.lt)
        have hsz := HBEL.out.size
        have n0 := (nbc HNBa.out).1
        clear hbi
        go_wp2_with fail
        refine (line_any (ps := [nm, eqB, qT tx]) (HB2.out.up ((Below.refl _ _).al _)) HP1.out (by omega) (show Blk (w1.alloc (.cells #[.string nm, .string ⟨#[32, 61, 32]⟩, .string (qT tx)] 9)) w1.heap.size 9 ([nm, eqB, qT tx].map Value.string).toArray from Blk.new _ _ _) (by have h := HLE.out; rw [HE.out, lineB_len] at h; exact h) (show (3 : Nat) ≤ 1000000 by omega) (by simp; omega)).mono ?_
        rintro e w3 ⟨rfl, v3, h3, hf3⟩
        have HB3 := Lib.hid (show BL w3 B b (.pointer (some ⟨b, 0, none⟩)) v3 (bs1 ++ nodeL sub d (.mk nm 2 nu tx ls ns)) by rw [HE.out]; exact h3)
        have HF3 := Lib.hid ((HFRW.out _ (HBEL.out.al _)).trans hf3)
        clear h3 hf3
        go_wp2_with fail
        obtain ⟨p9, v9, h1, h2, h3, h4⟩ := HEND.out _ _ HB3.out HF3.out
        exact ⟨⟨k + 1, p9, v9, by omega, by go_num, h1, h2, h3, h4⟩, by simp [intOf]; omega⟩
      · by_cases hk3 : kd = 3
        · subst hk3
          have hpl := HOK.out
          rw [okN_eq, pl3] at hpl
          simp only [Bool.and_eq_true, decide_eq_true_eq] at hpl
          have HQA := Lib.hid (List.all_eq_true.1 hpl.1.2.1.1.1)
          have HE := Lib.hid (show nodeL sub d (.mk nm 3 nu tx ls ns) = lineB d [nm, opB, joinQ ls, clB] from rfl)
          have hjl : (Lib.join ((ls.map qT).map (·.data.toList)) [44, 32]).length ≤ 140737488355328 := by
            have h := HLE.out
            rw [HE.out, lineB_len] at h
            have e : ([nm, opB, joinQ ls, clB].flatMap (fun s => s.data.toList)).length = nm.data.toList.length + (opB.data.toList.length + ((joinQ ls).data.toList.length + clB.data.toList.length)) := by simp
            have e2 : (joinQ ls).data.toList.length = (Lib.join ((ls.map qT).map (·.data.toList)) [44, 32]).length := rfl
            rw [e, e2] at h
            omega
          obtain ⟨js, hjs⟩ : ∃ js, joinQ ls = js := ⟨_, rfl⟩
          rw [hjs] at HE
          have HJS := Lib.hid hjs
          clear hjs
          obtain ⟨i0, hi0, hz0, hz1', hz2'⟩ := info_parts string_info
          have HB0 := Lib.hid (HB1.out.up ((Below.refl _ _).al (.cells #[.string nm, .int .i64 3, .int .i64 nu, .string tx, .slice Ax ls.length cx, .slice Bx ns.length dx] 48)))
          have HBW := Lib.hid (show Below wr.heap.size wr (wr.alloc (.cells #[.string nm, .int .i64 3, .int .i64 nu, .string tx, .slice Ax ls.length cx, .slice Bx ns.length dx] 48)) from (Below.refl _ _).al _)
          have hw0 : wr.heap.size < (wr.alloc (.cells #[.string nm, .int .i64 3, .int .i64 nu, .string tx, .slice Ax ls.length cx, .slice Bx ns.length dx] 48)).heap.size := by simp
          have HTL0 := Lib.hid (HTL.out.up ((Below.refl _ _).al (.cells #[.string nm, .int .i64 3, .int .i64 nu, .string tx, .slice Ax ls.length cx, .slice Bx ns.length dx] 48)))
          clear hpl
          go_wp2_with fail
          obtain ⟨wo, hwo⟩ : ∃ wo : World, wo = wr := ⟨_, rfl⟩
          subst hwo
          generalize wo.alloc (.cells #[.string nm, .int .i64 3, .int .i64 nu, .string tx, .slice Ax ls.length cx, .slice Bx ns.length dx] 48) = w0 at *
          go_loopw [10, 54] (fun u i wr => ∃ j : Nat, j ≤ ls.length ∧ i = .int .i64 (j : Int) ∧ lenV u = j ∧ TO wr w0.heap.size u ((ls.take j).map qT) ∧ Below w0.heap.size w0 wr) (fun _ i _ => ls.length - (intOf i).toNat)
          case atStart => exact ⟨0, Nat.zero_le _, rfl, rfl, World.ownsRow_nil _ _ _ _, Below.refl _ _⟩
          case round =>
            obtain ⟨j, hjk, rfl, hlv, hto, hbl⟩ := hrel
            have HTO := Lib.hid hto
            have HBL := Lib.hid hbl
            have HLV := Lib.hid hlv
            have hz3 : w0.heap.size ≤ wr.heap.size := hbl.size
            obtain ⟨Au, cu, eu⟩ := own_form2 hto
            have hlj : ((ls.take j).map qT).length = j := by rw [List.length_map, List.length_take]; omega
            rw [hlj] at eu
            subst eu
            clear hto hbl hlv
            by_cases hjlt : j < ls.length
            · have q0 : (j : Int) < (ls.length : Int) := by omega
              have q1 : (0 : Int) ≤ (j : Int) := by omega
              obtain ⟨ad2, s, rfl, hs, had3, s0⟩ := (HTL0.out.keep (S' := fun _ => True) (show Kept (fun g => g < B) w0 wr from ⟨HBL.out.size, fun q hq _ => HBL.out.cell (by omega)⟩) (fun _ _ => trivial)).at_ hjlt
              have hsm := List.mem_of_getElem? hs
              have HQS := Lib.hid (show Calls Tryd.prog 59 #[.string s] wr (Ret (.tuple #[.string (qT s), .int .i64 0]) wr) from by have h := quote_any s wr (HF4.out s hsm); rw [quoteV_ok (HQA.out s hsm)] at h; exact h)
              have HTK := Lib.hid (show (ls.take (j + 1)).map qT = (ls.take j).map qT ++ [qT s] by
                obtain ⟨hk', e⟩ := List.getElem?_eq_some_iff.1 hs
                rw [List.take_succ_eq_append_getElem hk', e, List.map_append]
                rfl)
              clear hs hsm
              go_wp2_with fail
              refine HQS.out.mono ?_
              rintro e w5 ⟨rfl, hb5⟩
              have HB5 := Lib.hid (HBL.out.trans ((Only.of_below (fun _ => False) hb5).below hz3 (fun _ h => h.elim)))
              have hto5 := own_only HTO.out (Only.of_below (fun _ => False) hb5) (fun _ _ h => h)
              rw [hlj] at hto5
              have HTO5 := Lib.hid hto5
              have hz5 : w0.heap.size ≤ w5.heap.size := HB5.out.size
              clear hb5 s0 hto5 HQS
              go_wp2_with (at_builtin; refine wpList_append_own _ rfl _ _ 33 rfl w0.heap.size 9 i0 _ 1 16 Tryd.underlying33 hi0 hz0 hz1' hz2' rfl (by decide) _ _ _ rfl (HTO5.out.alloc _) ⟨w5.heap.size, 0, none⟩ 1 1 [.string (qT s)] rfl rfl (cell_one_at _ _ rfl) (by simp [Value.oneCell']) (by unfold maxLen; omega) (by omega) (by simp; omega) ?_)
              intro v6 w6 ho6 hg6 _
              have HB6 := Lib.hid (show Below w0.heap.size w0 w6 from (HB5.out.trans (((Below.refl w5.heap.size w5).al _).below_ hz5)).grown hg6 (by simp; omega) (fun k hk => (HTO5.out.lt k hk).1))
              have HTO6 := Lib.hid (show TO w6 w0.heap.size v6 ((ls.take (j + 1)).map qT) from by
                unfold TO
                rw [HTK.out, List.length_append, List.map_append, hlj]
                rw [show List.map Value.string (List.map qT (List.take j ls)) = List.take j (List.map (Value.string ∘ qT) ls) by simp]
                exact ho6)
              have hl6 : lenV v6 = j + 1 := by
                obtain ⟨_, _, e6⟩ := own_form2 HTO6.out
                rw [e6]
                show ((ls.take (j + 1)).map qT).length = j + 1
                rw [List.length_map, List.length_take]
                omega
              have HL6 := Lib.hid hl6
              clear ho6 hg6 hl6
              go_wp2_with fail
              exact ⟨⟨j + 1, by omega, by go_num, HL6.out, HTO6.out, HB6.out⟩, by simp [intOf]; omega⟩
            · obtain rfl : j = ls.length := by omega
              have HTOF := Lib.hid (show TO wr w0.heap.size (.slice Au ls.length cu) (ls.map qT) by have h := HTO.out; rw [List.take_length] at h; exact h)
              have HJ := Lib.hid (show ∀ W, Below wr.heap.size wr W → Calls Tryd.prog 60 #[.slice Au ls.length cu, .string ⟨#[44, 32]⟩] W (fun e w' => e = .returned (.string js) ∧ Below W.heap.size W w') from fun W h => by
                have hj := join_any (w := W) (own_only HTOF.out (Only.of_below (fun _ => False) h) (fun _ _ h => h)) hjl (by rw [List.length_map]; omega)
                rw [show (ls.map qT).length = ls.length from List.length_map _] at hj
                exact hj.mono fun _ _ h => ⟨by rw [h.1, ← HJS.out]; rfl, h.2⟩)
              have HBWR := Lib.hid (show Below wo.heap.size wo wr from HBW.out.trans (HBL.out.mono_ (by omega)))
              have HB2 := Lib.hid (show BL wr B b p' v' bs1 from HB0.out.up HBL.out)
              have HNBa := Lib.hid (HNB.out.below HBL.out (by omega))
              clear HTO HTOF hlj
              go_wp2_with fail
              go_region_held3 (fun w' => w'.cell? ⟨wo.heap.size, 0, none⟩ = some (.string nm) ∧ w'.cell? ⟨wo.heap.size, 2, none⟩ = some (.int .i64 nu))
                (first | exact nbc HNBa.out | exact nbc HNBa.out.drew | exact nbc HNBj.out | exact nbc (HNBj.out.alloc _) | exact nbc HNB3.out)
                (first
                  | (go_at_call 60; refine (HJ.out _ (Below.refl _ _).drew).mono ?_; rintro e w1 ⟨rfl, hbi⟩; have HBj := Lib.hid (HB2.out.drew.up hbi); have HBEL := Lib.hid (show Below wo.heap.size wo w1 from HBWR.out.trans (((Below.refl _ _).drew.next hbi).below_ HBWR.out.size)); have HNBj := Lib.hid (HNBa.out.drew.below hbi HNBa.out.drew.lt); have hsz := HBEL.out.size; clear hbi)
                  | (go_at_call 57; refine (line_any (ps := [nm, opB, js, clB]) (HBj.out.up ((Below.refl _ _).al _)) HP1.out (by omega) (show Blk (w1.alloc (.cells #[.string nm, .string ⟨#[32, 61, 32, 91]⟩, .string js, .string ⟨#[93]⟩] 9)) w1.heap.size 9 ([nm, opB, js, clB].map Value.string).toArray from Blk.new _ _ _) (by have h := HLE.out; rw [HE.out, lineB_len] at h; exact h) (show (4 : Nat) ≤ 1000000 by omega) (by simp; omega)).mono ?_; rintro e w3 ⟨rfl, v3, h3, hf3⟩; have HB3 := Lib.hid h3; have HF3 := Lib.hid ((HFRW.out _ (HBEL.out.al _)).trans hf3); have HNB3 := Lib.hid (hf3.ok.2 _ _ _ (by decide) hnbne (HNBj.out.alloc _)); clear h3 hf3))
              all_goals
                rw [← HE.out] at HB3
                go_wp2_with fail
                obtain ⟨p9, v9, h1, h2, h3, h4⟩ := HEND.out _ _ HB3.out HF3.out
                exact ⟨⟨k + 1, p9, v9, by omega, by go_num, h1, h2, h3, h4⟩, by simp [intOf]; omega⟩
        · have hpl := HOK.out
          rw [okN_eq, pl4 nm kd nu tx ls ns hk1 hk2 hk3] at hpl
          simp only [Bool.and_eq_true, decide_eq_true_eq] at hpl
          have hk4 : kd = 4 := hpl.1.2.1.1.1
          subst hk4
          have hsf : f ns = true := by have h := hpl.2; rw [if_pos rfl] at h; exact h
          have hd8 : d ≠ 8 := fun e => by have h := HSUB.out; rw [if_pos e] at h; rw [h ns] at hsf; cases hsf
          have hs8 := HSUB.out
          rw [if_neg hd8] at hs8
          have HSF := Lib.hid hsf
          have HE := Lib.hid (show nodeL sub d (.mk nm 4 nu tx ls ns) = lineB d [nm, obB] ++ sub (d + 1) ns ++ lineB d [cbB] from rfl)
          have hl4 := HLE.out
          rw [HE.out, List.length_append, List.length_append, lineB_len, lineB_len] at hl4
          have hl4a : bs1.length + (2 * d + ([nm, obB].flatMap (fun s => s.data.toList)).length + 1) ≤ 140737488355328 := by omega
          have hl4b : (bs1 ++ lineB d [nm, obB]).length + (sub (d + 1) ns).length ≤ 140737488355328 := by rw [List.length_append, lineB_len]; omega
          have hl4c : (bs1 ++ lineB d [nm, obB] ++ sub (d + 1) ns).length + (2 * d + ([cbB].flatMap (fun s => s.data.toList)).length + 1) ≤ 140737488355328 := by rw [List.length_append, List.length_append, lineB_len]; omega
          have d1 : (0 : Int) ≤ (d : Int) := by omega
          have d2 : (d : Int) ≤ 8 := by omega
          clear hpl hsf hl4 hk1 hk2 hk3
          go_wp2_with fail
          refine (line_any (ps := [nm, obB]) (HB1.out.up (((Below.refl _ _).al _).al _)) HP1.out (by omega) (show Blk ((wr.alloc (.cells #[.string nm, .int .i64 4, .int .i64 nu, .string tx, .slice Ax ls.length cx, .slice Bx ns.length dx] 48)).alloc (.cells #[.string nm, .string ⟨#[32, 123]⟩] 9)) (wr.heap.size + 1) 9 ([nm, obB].map Value.string).toArray from by
            have h := Blk.new (wr.alloc (.cells #[.string nm, .int .i64 4, .int .i64 nu, .string tx, .slice Ax ls.length cx, .slice Bx ns.length dx] 48)) 9 #[.string nm, .string ⟨#[32, 123]⟩]
            rw [show (wr.alloc (.cells #[.string nm, .int .i64 4, .int .i64 nu, .string tx, .slice Ax ls.length cx, .slice Bx ns.length dx] 48)).heap.size = wr.heap.size + 1 by simp] at h
            exact h) hl4a (show (2 : Nat) ≤ 1000000 by omega) (by simp; omega)).mono ?_
          rintro e w1 ⟨rfl, v1, h1, hf1⟩
          have HB2 := Lib.hid h1
          have HF2 := Lib.hid ((HFRW.out _ (((Below.refl _ _).al _).al _)).trans hf1)
          have hnb1 := hf1.ok.2 _ _ _ (by decide) hnbne (HNB.out.alloc _)
          have n5 := (nb2 hnb1).2.2.2.2
          have hz2 : wr.heap.size ≤ w1.heap.size := HF2.out.ok.1
          have HPN := Lib.hid (show Calls Tryd.prog 34 #[.pointer (some ⟨b, 0, none⟩), .slice Bx ns.length dx, .int .i64 ((d : Int) + 1)] w1 (PNRet B b (.pointer (some ⟨b, 0, none⟩)) v1 ns ((bs1 ++ lineB d [nm, obB]) ++ sub (d + 1) ns) w1) from
            hs8 (HNL.out.keep (show Kept (fun g => g < B) wr w1 from ⟨HF2.out.ok.1, fun q hq _ => HF2.out.below.cell hq⟩) (fun _ h => h)) HB2.out (.inr rfl) HSF.out HF5.out hl4b (by omega) (HTB.out.on HF2.out.below))
          clear h1 hf1 hnb1
          go_wp2_with fail
          refine HPN.out.mono ?_
          rintro e w2 ⟨rfl, p2', v2, h2, hp2, hf2', _⟩
          have HB4 := Lib.hid h2
          have HP4 := Lib.hid hp2
          have HF4' := Lib.hid (HF2.out.trans hf2')
          have hz4 : wr.heap.size ≤ w2.heap.size := HF4'.out.ok.1
          clear h2 hp2 hf2' n5 HPN
          go_wp2_with fail
          refine (line_any (ps := [cbB]) (HB4.out.up ((Below.refl _ _).al _)) HP4.out (by omega) (show Blk (w2.alloc (.cells #[.string ⟨#[125]⟩] 9)) w2.heap.size 9 ([cbB].map Value.string).toArray from Blk.new _ _ _) hl4c (show (1 : Nat) ≤ 1000000 by omega) (by simp; omega)).mono ?_
          rintro e w3 ⟨rfl, v3, h3, hf3⟩
          have HB3 := Lib.hid (show BL w3 B b (.pointer (some ⟨b, 0, none⟩)) v3 (bs1 ++ nodeL sub d (.mk nm 4 nu tx ls ns)) by rw [HE.out, ← List.append_assoc, ← List.append_assoc]; exact h3)
          have HF3 := Lib.hid ((HF4'.out.next (by omega) ((Below.refl _ _).al _)).trans hf3)
          clear h3 hf3
          go_wp2_with fail
          obtain ⟨p9, v9, h1, h2, h3, h4⟩ := HEND.out _ _ HB3.out HF3.out
          exact ⟨⟨k + 1, p9, v9, by omega, by go_num, h1, h2, h3, h4⟩, by simp [intOf]; omega⟩
end Go.Proofs.YtfmdbmalmeimbaaDoor
/- nodes of the printer, at every depth. -/
namespace Go.Proofs.YtfmdbmalmeimbaaDoor
open Go.RowKit
set_option maxRecDepth 100000

theorem pnodes_any : ∀ (k d : Nat), d + k = 8 → PNC (formedF k) (linesF k) d := by
  intro k
  induction k with
  | zero =>
    intro d hd
    have h : PNC (fun l => decide ((l.map Nd.name).Nodup) && l.all (okN (fun _ => false))) (fun d l => l.flatMap (nodeL (fun _ _ => []) d)) d := pnodes_step (by omega) (by rw [if_pos (by omega)]; intro _; rfl)
    exact @h
  | succ k ih =>
    intro d hd
    have h : PNC (fun l => decide ((l.map Nd.name).Nodup) && l.all (okN (formedF k))) (fun d l => l.flatMap (nodeL (linesF k) d)) d := pnodes_step (by omega) (by rw [if_neg (by omega)]; exact ih (d + 1) (by omega))
    exact @h
end Go.Proofs.YtfmdbmalmeimbaaDoor
/- String of the printer. -/
namespace Go.Proofs.YtfmdbmalmeimbaaDoor
open Go.RowKit
def bsS (l : List UInt8) : ByteArray := ⟨l.toArray⟩
set_option maxRecDepth 100000

theorem byte_cells : Tryd.prog.cellsOf 5 = 1 := by kernel_rfl
set_option maxHeartbeats 4000000 in
theorem bstring_any {w : World} {B b : Nat} {p v : Value} {l : List UInt8} (h : BL w B b p v l) (h0 : l ≠ []) : Calls Tryd.prog 36 #[.pointer (some ⟨b, 0, none⟩)] w (fun e w' => e = .returned (.string (bsS l)) ∧ Below B w w') := by
  have hl0 : l.length ≠ 0 := by simpa using h0
  have hown := h.own
  obtain ⟨g, cap, cur, rfl, hbg, hg, hnc, hcm, hcs, htake⟩ : ∃ g cap cur, v = .slice (some ⟨g, 0, none⟩) l.length cap ∧ B ≤ g ∧ w.heap[g]? = some (.cells cur 5 (0, 0)) ∧ l.length ≤ cap ∧ cap ≤ maxLen ∧ cur.size = cap * 1 ∧ cur.toList.take (l.length * 1) = U l := by
    rcases hown.2 with ⟨_, hz⟩ | ⟨g, cap, cur, hv, r⟩
    · exact absurd hz hl0
    · exact ⟨g, cap, cur, hv, r⟩
  have c1 : w.drew.cell? ⟨b, 1, none⟩ = some (.slice (some ⟨g, 0, none⟩) l.length cap) := by
    have hb := h.drew.blk
    rw [hb.cell]; rfl
  have hSD : (Builtin.unsafeSliceData_ #[63] 99 #[.slice (some ⟨g, 0, none⟩) l.length cap]).run Tryd.prog w.drew = .ok (.pointer (some ⟨g, 0, none⟩)) w.drew :=
    Lib.run_unsafeSliceData_row _ _ _ _ _ _ (by omega)
  have hUS : (Builtin.unsafeString_ #[99, 3] 9 #[.pointer (some ⟨g, 0, none⟩), .int .i64 l.length]).run Tryd.prog w.drew = .ok (.string ⟨l.toArray⟩) (w.drew.freeze ⟨g, 0, none⟩ l.length) := by
    refine Lib.run_unsafeString_row w.drew 99 3 9 5 Tryd.underlying99 byte_cells g cur.size (by have hg' : w.drew.heap[g]? = some (.cells cur 5 (0, 0)) := hg; simp [World.shape?, hg']) l h0 (by omega) (by unfold maxLen at hcm; omega) ?_
    intro j x hx
    have := hown.cells (g := g) rfl j (.int .u8 x.toNat) (by simp [U, hx])
    exact this
  have mixed : Tryd.prog.follows Departure.mixedOrders = true := by kernel_rfl
  clear h hown htake hcs
  go_enter Tryd.func36, Tryd.ntmps36
  go_wp2_with fail
  go_region_o
  all_goals (go_wp2_with fail; go_ret; exact ⟨rfl, Lib.below_freeze (Below.drew (Below.refl B w)) (p := ⟨g, 0, none⟩) hbg _⟩)
end Go.Proofs.YtfmdbmalmeimbaaDoor
/- Format. -/
namespace Go.Proofs.YtfmdbmalmeimbaaDoor
open Go.RowKit
set_option maxRecDepth 100000

/-- Format in plain mathematics -/
def formatR (l : List Nd) : ByteArray × Int :=
  if formedF 8 l = true then
    if 1024 < cntL l then (⟨#[]⟩, 4)
    else if 8192 < (linesF 8 0 l).length then (⟨#[]⟩, 4)
    else (bsT (linesF 8 0 l), 0)
  else (⟨#[]⟩, 2)
def FormatRet (l : List Nd) (w : World) (e : Ending) (w' : World) : Prop := e = .returned (.tuple #[.string (formatR l).1, .int .i64 (formatR l).2]) ∧ Below w.heap.size w w'
theorem lineB_ne (d : Nat) (ps : List ByteArray) : lineB d ps ≠ [] := by unfold lineB; simp
theorem nodeL_ne (sub : Nat → List Nd → List UInt8) (d : Nat) (t : Nd) : nodeL sub d t ≠ [] := by
  unfold nodeL
  split
  · exact lineB_ne _ _
  · split
    · exact lineB_ne _ _
    · split
      · exact lineB_ne _ _
      · intro h
        exact lineB_ne _ _ (List.append_eq_nil_iff.1 h).2
theorem lines_ne {l : List Nd} (h : l ≠ []) : linesF 8 0 l ≠ [] := by
  cases l with
  | nil => exact absurd rfl h
  | cons t l =>
    show List.flatMap (nodeL (linesF 7) 0) (t :: l) ≠ []
    rw [List.flatMap_cons]
    intro h
    exact nodeL_ne _ _ _ (List.append_eq_nil_iff.1 h).1
set_option maxHeartbeats 4000000 in
theorem format_any {w : World} {A : Option Addr} {c : Nat} {l : List Nd} (hl : NL w (fun g => g < w.heap.size) (.slice A l.length c) l) (hfit : Fit l) (hc : cntL l ≤ 1000000) (hlen : (linesF 8 0 l).length ≤ 140737488355328) (ht : Lib.TabIs Tryd.prog w "internal/strconv.uint64pow10" .u64 Lib.pow10Tab) (hne : l ≠ []) :
    Calls Tryd.prog 18 #[.slice A l.length c] w (FormatRet l w) := by
  have HL := Lib.hid hl
  have HFT := Lib.hid hfit
  have HT := Lib.hid ht
  have HNE := Lib.hid hne
  have HQF := Lib.hid (fun q (hq : formedF 8 l = q) => show Calls Tryd.prog 33 #[.slice A l.length c, .int .i64 0, .pointer (some ⟨w.heap.size, 0, none⟩)] (w.alloc (.cells #[.int .i64 0] 3)) (FormRet (w.alloc (.cells #[.int .i64 0] 3)) w.heap.size 0 l q) from
    formed_any 8 0 rfl (hl.up ((Below.refl _ _).al _)) (fun g hg => Nat.ne_of_lt hg) (Blk.new w 3 #[.int .i64 0]) (by omega) hfit hq)
  clear hl hfit ht hne
  obtain ⟨q, hq⟩ : ∃ q, formedF 8 l = q := ⟨_, rfl⟩
  have HFC := Lib.hid (HQF.out q hq)
  have HQ := Lib.hid hq
  clear HQF hq
  go_enter Tryd.func18, Tryd.ntmps18
  go_wp2_with fail
  refine HFC.out.mono ?_
  rintro e w1 ⟨rfl, ⟨c1, hb1, hcq⟩, ho1⟩
  have HB1 := Lib.hid hb1
  have HCQ := Lib.hid hcq
  have HBEL := Lib.hid (show Below w.heap.size w w1 from ((Below.refl w.heap.size w).al (.cells #[.int .i64 0] 3)).trans (ho1.below (by simp) (fun k e => by omega)))
  have hz1 : w.heap.size < w1.heap.size := hb1.lt
  clear hb1 hcq ho1 HFC
  cases q with
  | false =>
    have HE := Lib.hid (show formatR l = (⟨#[]⟩, 2) by unfold formatR; rw [if_neg (by rw [HQ.out]; decide)])
    go_wp2_with fail
    go_ret2
    exact ⟨by rw [HE.out]; rfl, HBEL.out⟩
  | true =>
    have HC1 := Lib.hid (show Blk w1 w.heap.size 3 #[.int .i64 ((cntL l : Nat) : Int)] by have h := HB1.out; rw [HCQ.out rfl, Nat.zero_add] at h; exact h)
    have HPC := Lib.hid (show Calls Tryd.prog 34 #[.pointer (some ⟨w1.heap.size, 0, none⟩), .slice A l.length c, .int .i64 0] (w1.alloc (.cells #[.pointer none, .slice none 0 0] 67)) (PNRet w.heap.size w1.heap.size (.pointer none) (.slice none 0 0) l ([] ++ linesF 8 0 l) (w1.alloc (.cells #[.pointer none, .slice none 0 0] 67))) from
      pnodes_any 8 0 rfl ((HL.out.up HBEL.out).up ((Below.refl _ _).al _)) ⟨Blk.new w1 67 #[.pointer none, .slice none 0 0], World.ownsRow_nil _ _ _ _, Nat.le_of_lt hz1⟩ (.inl rfl) HQ.out HFT.out (by rw [List.length_nil]; omega) (by simp; omega) ((Lib.tabBelow_of_tabIs HT.out).on (HBEL.out.al _)))
    go_wp2_with fail
    refine HPC.out.mono ?_
    rintro e w2 ⟨rfl, p2, v2, h2, hp2, hf2, _⟩
    have hc2 := hf2.ok.2 _ _ _ (by decide) (Nat.ne_of_lt hz1) (HC1.out.alloc _)
    have c2 : w2.cell? ⟨w.heap.size, 0, none⟩ = some (.int .i64 ((cntL l : Nat) : Int)) := by rw [hc2.cell]; rfl
    have HBL2 := Lib.hid (show BL w2 w.heap.size w1.heap.size p2 v2 (linesF 8 0 l) from h2)
    have HB2 := Lib.hid (show Below w.heap.size w w2 from (HBEL.out.al _).trans hf2.below)
    clear h2 hp2 hf2 hc2 HPC
    by_cases hc9 : 1024 < cntL l
    · have z1 : (1024 : Int) < ((cntL l : Nat) : Int) := by omega
      have HE := Lib.hid (show formatR l = (⟨#[]⟩, 4) by unfold formatR; rw [if_pos HQ.out, if_pos hc9])
      clear hc9
      go_wp2_with fail
      all_goals
        go_ret2
        exact ⟨by rw [HE.out]; rfl, HB2.out⟩
    · have z1 : ¬ (1024 : Int) < ((cntL l : Nat) : Int) := by omega
      have HLN := Lib.hid (blen_any HBL2.out)
      have HNC := Lib.hid hc9
      obtain ⟨n9, hn9⟩ : ∃ n9, (linesF 8 0 l).length = n9 := ⟨_, rfl⟩
      rw [hn9] at HLN
      have HN9 := Lib.hid hn9
      clear hn9 hc9 hlen
      by_cases hl9 : 8192 < n9
      · have z2 : (8192 : Int) < (n9 : Int) := by omega
        have HE := Lib.hid (show formatR l = (⟨#[]⟩, 4) by unfold formatR; rw [if_pos HQ.out, if_neg HNC.out, if_pos (by rw [HN9.out]; exact hl9)])
        go_wp2_with fail
        refine HLN.out.mono ?_
        rintro e w3 ⟨rfl, rfl⟩
        go_wp2_with fail
        go_ret2
        exact ⟨by rw [HE.out]; rfl, HB2.out⟩
      · have z2 : ¬ (8192 : Int) < (n9 : Int) := by omega
        have HE := Lib.hid (show formatR l = (bsT (linesF 8 0 l), 0) by unfold formatR; rw [if_pos HQ.out, if_neg HNC.out, if_neg (by rw [HN9.out]; exact hl9)])
        have HST := Lib.hid (fun W (h : BL W w.heap.size w1.heap.size p2 v2 (linesF 8 0 l)) => bstring_any h (lines_ne HNE.out))
        go_wp2_with fail
        refine HLN.out.mono ?_
        rintro e w3 ⟨rfl, rfl⟩
        go_wp2_with fail
        refine (HST.out _ HBL2.out).mono ?_
        rintro e w4 ⟨rfl, hb4⟩
        have HB4 := Lib.hid (HB2.out.trans hb4)
        clear hb4
        go_wp2_with fail
        go_ret2
        exact ⟨by rw [HE.out]; rfl, HB4.out⟩
end Go.Proofs.YtfmdbmalmeimbaaDoor
