/- Merged: FormW, FormA. -/
import Derived.Test.YtfmdbmalmeimbaaDoorMLine
import Derived.Deep.RegionHeld3
/- formed: the walk. -/
namespace Go.Proofs.YtfmdbmalmeimbaaDoor
open Go.RowKit Go.Maps
set_option maxRecDepth 100000

def FormRet (w : World) (cb c0 : Nat) (l : List Nd) (q : Bool) (e : Ending) (w' : World) : Prop := e = .returned (.bool q) ∧ (∃ c1 : Int, Blk w' cb 3 #[.int .i64 c1] ∧ (q = true → c1 = ((c0 + cntL l : Nat) : Int))) ∧ Only (· = cb) w w'
/-- what formed does within d sections -/
def FormC (f : List Nd → Bool) (d : Nat) : Prop := ∀ {l : List Nd} {w : World} {S : Nat → Prop} {A : Option Addr} {c cb c0 : Nat} {q : Bool}, NL w S (.slice A l.length c) l → (∀ g, S g → g ≠ cb) → Blk w cb 3 #[.int .i64 (c0 : Int)] → c0 + cntL l ≤ 1000000000 → Fit l → f l = q →
    Calls Tryd.prog 33 #[.slice A l.length c, .int .i64 (d : Int), .pointer (some ⟨cb, 0, none⟩)] w (FormRet w cb c0 l q)
/-- k nodes have been looked at -/
structure FMS (f : List Nd → Bool) (w wr : World) (cb c0 : Nat) (l : List Nd) (k : Nat) : Prop where
  met : Met wr w.heap.size ((l.take k).map Nd.name)
  cnt : Blk wr cb 3 #[.int .i64 ((c0 + cntL (l.take k) : Nat) : Int)]
  ok : ∀ t ∈ l.take k, okN f t = true
  nodup : ((l.take k).map Nd.name).Nodup
  only : Only (· = cb) w wr
theorem mem_memT {l : List Nd} {k : Nat} {x : ByteArray} (h : memT ((l.take k).map Nd.name) x = true) : ∃ t ∈ l.take k, t.name = x := by
  unfold memT at h
  rw [List.any_map, List.any_eq_true] at h
  obtain ⟨t, ht, h⟩ := h
  exact ⟨t, ht, by simpa using h⟩
/-- a name that was met ends it -/
theorem dup_false {f : List Nd → Bool} {l : List Nd} {k : Nat} {x : Nd} (hx : l[k]? = some x) (h : memT ((l.take k).map Nd.name) x.name = true) : (decide ((l.map Nd.name).Nodup) && l.all (okN f)) = false := by
  obtain ⟨t, ht, he⟩ := mem_memT h
  have hn : ¬ (l.map Nd.name).Nodup := fun hn => by
    obtain ⟨hk, e⟩ := List.getElem?_eq_some_iff.1 hx
    rw [← List.take_append_drop k l, List.drop_eq_getElem_cons hk, e, List.map_append, List.map_cons, List.nodup_append] at hn
    exact hn.2.2 t.name (List.mem_map_of_mem ht) x.name (by simp) he
  rw [decide_eq_false hn]
  rfl
theorem bad_false {f : List Nd → Bool} {l : List Nd} {x : Nd} (hx : x ∈ l) (h : okN f x = false) : (decide ((l.map Nd.name).Nodup) && l.all (okN f)) = false := by
  have : l.all (okN f) = false := List.all_eq_false.2 ⟨x, hx, by rw [h]; decide⟩
  rw [this, Bool.and_false]
theorem nodup_next {l : List Nd} {k : Nat} {x : Nd} (hx : l[k]? = some x) (h : ((l.take k).map Nd.name).Nodup) (hm : memT ((l.take k).map Nd.name) x.name = false) : ((l.take (k + 1)).map Nd.name).Nodup ∧ (l.take (k + 1)).map Nd.name = (l.take k).map Nd.name ++ [x.name] := by
  obtain ⟨hk, e⟩ := List.getElem?_eq_some_iff.1 hx
  have e2 : (l.take (k + 1)).map Nd.name = (l.take k).map Nd.name ++ [x.name] := by rw [List.take_succ_eq_append_getElem hk, e, List.map_append]; rfl
  refine ⟨?_, e2⟩
  rw [e2, List.nodup_append]
  refine ⟨h, by simp, fun a ha b hb => ?_⟩
  simp at hb
  subst hb
  intro e
  subst e
  have : memT ((l.take k).map Nd.name) x.name = true := by unfold memT; exact List.any_eq_true.2 ⟨x.name, ha, by simp⟩
  rw [this] at hm
  cases hm
theorem ok_next {f : List Nd → Bool} {l : List Nd} {k : Nat} {x : Nd} (hx : l[k]? = some x) (h : ∀ t ∈ l.take k, okN f t = true) (ho : okN f x = true) : ∀ t ∈ l.take (k + 1), okN f t = true := by
  obtain ⟨hk, e⟩ := List.getElem?_eq_some_iff.1 hx
  rw [List.take_succ_eq_append_getElem hk, e]
  intro t ht
  rcases List.mem_append.1 ht with ht | ht
  · exact h t ht
  · simp at ht; rw [ht]; exact ho
theorem okN_eq (f : List Nd → Bool) (nm : ByteArray) (kd nu : Int) (tx : ByteArray) (ls : List ByteArray) (ns : List Nd) : okN f (.mk nm kd nu tx ls ns) = (nameT nm && plainN (.mk nm kd nu tx ls ns) && (if kd = 4 then f ns else true)) := rfl
theorem pl1 (nm : ByteArray) (nu : Int) (tx : ByteArray) (ls : List ByteArray) (ns : List Nd) : plainN (.mk nm 1 nu tx ls ns) = (decide (-9007199254740992 ≤ nu) && decide (nu ≤ 9007199254740992) && decide (tx.size = 0) && decide (ls.length = 0) && decide (ns.length = 0)) := if_pos rfl
theorem pl2 (nm : ByteArray) (nu : Int) (tx : ByteArray) (ls : List ByteArray) (ns : List Nd) : plainN (.mk nm 2 nu tx ls ns) = (qokT tx && decide (nu = 0) && decide (ls.length = 0) && decide (ns.length = 0)) := by
  show (if (2 : Int) = 1 then _ else if (2 : Int) = 2 then _ else _) = _
  rw [if_neg (by decide), if_pos rfl]
  rfl
theorem pl3 (nm : ByteArray) (nu : Int) (tx : ByteArray) (ls : List ByteArray) (ns : List Nd) : plainN (.mk nm 3 nu tx ls ns) = (ls.all qokT && decide (nu = 0) && decide (tx.size = 0) && decide (ns.length = 0)) := by
  show (if (3 : Int) = 1 then _ else if (3 : Int) = 2 then _ else if (3 : Int) = 3 then _ else _) = _
  rw [if_neg (by decide), if_neg (by decide), if_pos rfl]
  rfl
theorem pl4 (nm : ByteArray) (kd nu : Int) (tx : ByteArray) (ls : List ByteArray) (ns : List Nd) (h1 : kd ≠ 1) (h2 : kd ≠ 2) (h3 : kd ≠ 3) : plainN (.mk nm kd nu tx ls ns) = (decide (kd = 4) && decide (nu = 0) && decide (tx.size = 0) && decide (ls.length = 0)) := by
  show (if kd = 1 then _ else if kd = 2 then _ else if kd = 3 then _ else _) = _
  rw [if_neg h1, if_neg h2, if_neg h3]
  rfl
theorem cell_snd2 {w : World} {o : Obj} {x : Value} {t : TypeId} : ((w.alloc o).alloc (.cells #[x] t)).cell? ⟨w.heap.size + 1, 0, none⟩ = some x := by
  have b := Blk.new (w.alloc o) t #[x]
  rw [show (w.alloc o).heap.size = w.heap.size + 1 by simp] at b
  rw [b.cell]; rfl
theorem quotable_one {W : World} {pb : Nat} {tx : ByteArray} (h : W.cell? ⟨pb, 0, none⟩ = some (.string tx)) (hs : tx.size ≤ 2000000) {q : Bool} (hq : qokT tx = q) : Calls Tryd.prog 56 #[.slice (some ⟨pb, 0, none⟩) 1 1] W (Ret (.bool q) W) :=
  cquotable_any (S := fun _ => True) (l := [tx]) ⟨_, 1, rfl, Nat.le_refl _, fun _ => ⟨_, rfl, trivial, block_lt_of_cell h, fun k s hk => by
    match k, hk with
    | 0, hk => simp at hk; subst hk; exact h
    | k + 1, hk => simp at hk⟩⟩ (by show 1 ≤ 1000000; omega) (fun s hs' => by simp at hs'; rw [hs']; exact hs) (by simp [hq])
theorem tx_size {tx : ByteArray} (h : tx.toList = []) : tx.size = 0 := by
  have h1 : tx.toList.length = tx.size := by rw [ByteArray.toList_eq]; exact size_list tx
  rw [← h1, h]
  rfl
theorem tx_nil {tx : ByteArray} (h : tx.size = 0) : tx.toList = [] := by
  have h1 : tx.toList.length = tx.size := by rw [ByteArray.toList_eq]; exact size_list tx
  exact List.eq_nil_of_length_eq_zero (by rw [h1, h])
theorem end_false {w W : World} {cb c0 : Nat} {l : List Nd} {cv : Int} (h : Blk W cb 3 #[.int .i64 cv]) (ho : Only (· = cb) w W) : FormRet w cb c0 l false (.returned (.bool false)) W := ⟨rfl, ⟨_, h, fun h => by cases h⟩, ho⟩
theorem Met.same {w w' : World} {b : Nat} {acc : List ByteArray} (h : Met w b acc) (hb : w'.heap[b]? = w.heap[b]?) : Met w' b acc := by
  obtain ⟨D, ⟨es, cl, h1, h2, h3, h4⟩, h5⟩ := h
  exact ⟨D, ⟨es, cl, hb.trans h1, h2, h3, h4⟩, h5⟩
theorem met_only {w wr w2 : World} {cb : Nat} (h : Only (· = cb) w wr) (hg : wr.grownBy w2 (some w.heap.size)) : Only (· = cb) w w2 :=
  h.grown hg (fun k e => by injection e with e; right; omega)
set_option maxHeartbeats 16000000 in
theorem formed_step {f : List Nd → Bool} {d : Nat} (hd : d ≤ 8) (hsub : if d = 8 then (∀ l, f l = false) else FormC f (d + 1)) : FormC (fun l => decide ((l.map Nd.name).Nodup) && l.all (okN f)) d := by
  intro l w S A c cb c0 q hl hS hcb hc0 hfit hq
  have HL := Lib.hid (show NL w (fun g => S g ∧ True ∧ g < w.heap.size) (.slice A l.length c) l from (hl.mono (fun g h => And.intro h trivial)).low)
  have HS := Lib.hid hS
  have HCB := Lib.hid hcb
  have HFT := Lib.hid hfit
  have HQ := Lib.hid hq
  have HSUB := Lib.hid hsub
  have hln := hfit.all.1
  have hmm := @run_makeMap Tryd.prog
  have hcw := hcb.lt
  clear hl hS hcb hfit hq hsub
  go_enter Tryd.func33, Tryd.ntmps33
  go_wp2_with fail
  go_loopw [14] (fun i wr => ∃ k : Nat, k ≤ l.length ∧ i = .int .i64 (k : Int) ∧ FMS f w wr cb c0 l k) (fun i _ => l.length - (intOf i).toNat)
  case atStart => exact ⟨0, Nat.zero_le _, rfl, ⟨Met.made w, by rw [List.take_zero]; exact HCB.out.alloc _, by simp, by simp, (Only.refl _ _).alloc _⟩⟩
  case round =>
    obtain ⟨k, hk, rfl, hfs⟩ := hrel
    have HFS := Lib.hid hfs
    have hcr : cb < wr.heap.size := hfs.cnt.lt
    have hmr : w.heap.size < wr.heap.size := hfs.met.lt
    clear hfs
    by_cases hlt : k < l.length
    case neg =>
      obtain rfl : k = l.length := by omega
      have HE := Lib.hid (show q = true by
        rw [← HQ.out]
        have h1 := HFS.out.nodup
        have h2 := HFS.out.ok
        rw [List.take_length] at h1 h2
        rw [decide_eq_true h1, List.all_eq_true.2 h2]
        rfl)
      go_wp2_with fail
      go_ret
      exact ⟨by rw [HE.out]; rfl, ⟨_, HFS.out.cnt, fun _ => by rw [List.take_length]⟩, HFS.out.only⟩
    have j0 : (k : Int) < (l.length : Int) := by omega
    have j1 : (0 : Int) ≤ (k : Int) := by omega
    obtain ⟨ad, x, xl, xn, rfl, hx, _, had, h6, htl, hnl⟩ := (HL.out.keep (Kept.of_only HFS.out.only (fun g hg => HS.out g hg.1)) (fun _ h => h)).at_ hlt
    have hxm := List.mem_of_getElem? hx
    have HX := Lib.hid hx
    have HXM := Lib.hid hxm
    obtain ⟨Ax, cx, rfl, _⟩ := htl.form
    obtain ⟨Bx, dx, rfl, _⟩ := id hnl.form
    have HTL := Lib.hid htl
    have HNL := Lib.hid hnl
    obtain ⟨p0, p1, p2, p3, p4, p5⟩ := h6
    have had2 : (ad.add (k * 6)).block < wr.heap.size := by rw [block_of_add]; exact had
    have hcn := cntL_next hx
    have hct := cntL_take l (k + 1)
    have c1 : wr.cell? ⟨cb, 0, none⟩ = some (.int .i64 ((c0 + cntL (l.take k) : Nat) : Int)) := by rw [HFS.out.cnt.cell]; rfl
    have f1 := HFS.out.cnt.frozen 0
    have hf1 := HFT.out.all.2.1 x hxm
    have hf2 := HFT.out.all.2.2.1 x hxm
    have hf3 := HFT.out.all.2.2.2.1 x hxm
    have HF4 := Lib.hid (HFT.out.all.2.2.2.2.1 x hxm)
    have HF5 := Lib.hid (HFT.out.all.2.2.2.2.2 x hxm)
    have hf6 := HF5.out.all.1
    obtain ⟨cv, hcv⟩ : ∃ cv : Nat, c0 + cntL (l.take k) = cv := ⟨_, rfl⟩
    rw [hcv] at c1
    have HCV := Lib.hid hcv
    have hcv2 : cv + 1 + cntL x.nodes ≤ 1000000000 := by omega
    have HCN := Lib.hid (show c0 + cntL (l.take (k + 1)) = cv + 1 + cntL x.nodes by omega)
    have HBADQ := Lib.hid (show okN f x = false → q = false from fun h => by rw [← HQ.out]; exact bad_false HXM.out h)
    have HDUPQ := Lib.hid (show memT ((l.take k).map Nd.name) x.name = true → q = false from fun h => by rw [← HQ.out]; exact dup_false HX.out h)
    have HND := Lib.hid (nodup_next HX.out HFS.out.nodup)
    have HOKN := Lib.hid (ok_next HX.out HFS.out.ok)
    obtain ⟨nm, kd, nu, tx, ls, ns⟩ := x
    simp only [Nd.name, Nd.kind, Nd.num, Nd.text, Nd.list, Nd.nodes] at *
    obtain ⟨m, hm⟩ : ∃ m, memT ((l.take k).map Nd.name) nm = m := ⟨_, rfl⟩
    have HM := Lib.hid hm
    have hmet1 : Met ((wr.setCell ⟨cb, 0, none⟩ (.int .i64 ((cv : Int) + 1))).alloc (.cells #[.string nm, .int .i64 kd, .int .i64 nu, .string tx, .slice Ax ls.length cx, .slice Bx ns.length dx] 48)) w.heap.size ((l.take k).map Nd.name) :=
      (HFS.out.met.same (Below.heap_setCell wr ⟨cb, 0, none⟩ (.int .i64 ((cv : Int) + 1)) w.heap.size (by show w.heap.size ≠ cb; omega))).alloc _
    have HMET1 := Lib.hid hmet1
    have hlook := hmet1.look (x := nm) (by unfold maxLen; omega)
    rw [hm] at hlook
    have HC1 := Lib.hid (show Blk ((wr.setCell ⟨cb, 0, none⟩ (.int .i64 ((cv : Int) + 1))).alloc (.cells #[.string nm, .int .i64 kd, .int .i64 nu, .string tx, .slice Ax ls.length cx, .slice Bx ns.length dx] 48)) cb 3 #[.int .i64 ((cv : Int) + 1)] ∧ Only (· = cb) w ((wr.setCell ⟨cb, 0, none⟩ (.int .i64 ((cv : Int) + 1))).alloc (.cells #[.string nm, .int .i64 kd, .int .i64 nu, .string tx, .slice Ax ls.length cx, .slice Bx ns.length dx] 48)) from
      ⟨(HFS.out.cnt.set_ 0 _).alloc _, (HFS.out.only.setCell (p := ⟨cb, 0, none⟩) (.inl rfl) _).alloc _⟩)
    have HN1 := Lib.hid (show Blk ((wr.setCell ⟨cb, 0, none⟩ (.int .i64 ((cv : Int) + 1))).alloc (.cells #[.string nm, .int .i64 kd, .int .i64 nu, .string tx, .slice Ax ls.length cx, .slice Bx ns.length dx] 48)) wr.heap.size 48 #[.string nm, .int .i64 kd, .int .i64 nu, .string tx, .slice Ax ls.length cx, .slice Bx ns.length dx] from by
      have b := Blk.new (wr.setCell ⟨cb, 0, none⟩ (.int .i64 ((cv : Int) + 1))) 48 #[.string nm, .int .i64 kd, .int .i64 nu, .string tx, .slice Ax ls.length cx, .slice Bx ns.length dx]
      rw [show (wr.setCell ⟨cb, 0, none⟩ (.int .i64 ((cv : Int) + 1))).heap.size = wr.heap.size by simp [World.setCell]] at b
      exact b)
    have hon : Only (· = cb) wr ((wr.setCell ⟨cb, 0, none⟩ (.int .i64 ((cv : Int) + 1))).alloc (.cells #[.string nm, .int .i64 kd, .int .i64 nu, .string tx, .slice Ax ls.length cx, .slice Bx ns.length dx] 48)) := ((Only.refl (· = cb) wr).setCell (p := ⟨cb, 0, none⟩) (.inl rfl) _).alloc _
    have HTL1 := Lib.hid (HTL.out.keep (Kept.of_only hon (fun g hg => HS.out g hg.1)) (fun _ h => h))
    have HNL1 := Lib.hid (HNL.out.keep (Kept.of_only hon (fun g hg => HS.out g hg.1)) (fun _ h => h))
    have hw1 : wr.heap.size < ((wr.setCell ⟨cb, 0, none⟩ (.int .i64 ((cv : Int) + 1))).alloc (.cells #[.string nm, .int .i64 kd, .int .i64 nu, .string tx, .slice Ax ls.length cx, .slice Bx ns.length dx] 48)).heap.size := HN1.out.lt
    have HWS := Lib.hid hw1
    clear hx hxm htl hnl HTL HNL hcv hon hct hcn hm hmet1 hw1
    cases m with
    | true =>
      have HE := Lib.hid (HDUPQ.out HM.out)
      go_wp2_with fail
      go_ret
      rw [HE.out]
      exact end_false HC1.out.1 HC1.out.2
    | false =>
      obtain ⟨qn, hqn⟩ : ∃ qn, nameT nm = qn := ⟨_, rfl⟩
      have HNM := Lib.hid (fun W => nameable_any nm W hqn)
      have HQN := Lib.hid hqn
      clear hqn
      go_wp2_with fail
      refine (HNM.out _).mono ?_
      rintro e w2 ⟨rfl, hb2⟩
      have HC2 := Lib.hid (show Blk w2 cb 3 #[.int .i64 ((cv : Int) + 1)] ∧ Only (· = cb) w w2 from ⟨HC1.out.1.below hb2 HC1.out.1.lt, HC1.out.2.next hb2⟩)
      have HN2 := Lib.hid (HN1.out.below hb2 HN1.out.lt)
      have HMET2 := Lib.hid (HMET1.out.same (hb2.block _ HMET1.out.lt))
      have HTL2 := Lib.hid (HTL1.out.up hb2)
      have HNL2 := Lib.hid (HNL1.out.up hb2)
      clear hb2 hlook p0 p1 p2 p3 p4 p5 c1 f1 HNM HC1 HN1 HMET1 HTL1 HNL1
      cases qn with
      | false =>
        have HE := Lib.hid (HBADQ.out (by unfold okN; simp only [Nd.name, HQN.out, Bool.false_and]))
        go_wp2_with fail
        go_ret
        rw [HE.out]
        exact end_false HC2.out.1 HC2.out.2
      | true =>
        have n0 : w2.cell? ⟨wr.heap.size, 0, none⟩ = some (.string nm) := by rw [HN2.out.cell]; rfl
        obtain ⟨D, hD1, hD2, hD3⟩ := HMET2.out
        have HD1 := Lib.hid hD1
        have HD2 := Lib.hid hD2
        have HD3 := Lib.hid hD3
        have HW := Lib.hid (WideMaps.keyOf_string_mk (P := Tryd.prog) Tryd.underlying9 (s := nm) (by unfold maxLen; omega))
        have hml : ((l.take k).map Nd.name).length ≤ 1000000 := by rw [List.length_map, List.length_take]; omega
        clear hD1 hD2 hD3
        go_wp2_with (at_mapUpdate; refine wpList_mapUpdate_own _ rfl _ _ _ 94 rfl 9 4 skey_law Tryd.underlying94 _ w.heap.size ((l.take k).map Nd.name).length D rfl HD1.out (by unfold maxLen; omega) _ _ _ rfl rfl HW.out _ [] (plainElem_bool Tryd.underlying4 true) ?_)
        intro w3 hown3 hgrow3
        have hlk : ((l.take k).map Nd.name).length = k := by rw [List.length_map, List.length_take]; omega
        rw [← hlk] at hown3
        have hmn := HN2.out.lt
        have HMET3 := Lib.hid (Met.put HD2.out HD3.out hown3)
        have HC3 := Lib.hid (show Blk w3 cb 3 #[.int .i64 ((cv : Int) + 1)] ∧ Only (· = cb) w w3 from ⟨(hgrow3.block cb HC2.out.1.lt (by intro e; injection e with e; omega)).trans HC2.out.1, met_only HC2.out.2 hgrow3⟩)
        have hn3 : Blk w3 wr.heap.size 48 #[.string nm, .int .i64 kd, .int .i64 nu, .string tx, .slice Ax ls.length cx, .slice Bx ns.length dx] := (hgrow3.block wr.heap.size hmn (by intro e; injection e with e; omega)).trans HN2.out
        have HN3 := Lib.hid hn3
        have hog : Only (· = w.heap.size) w2 w3 := (Only.refl (· = w.heap.size) w2).grown hgrow3 (fun k e => by injection e with e; exact .inl e.symm)
        have HTL3 := Lib.hid (HTL2.out.keep (S' := S) (Kept.of_only hog (fun g hg e => by have h := hg.2.2; omega)) (fun g h => h.1))
        have HNL3 := Lib.hid (HNL2.out.keep (S' := S) (Kept.of_only hog (fun g hg e => by have h := hg.2.2; omega)) (fun g h => h.1))
        have m0 : w3.cell? ⟨wr.heap.size, 0, none⟩ = some (.string nm) := by rw [hn3.cell]; rfl
        have m1 : w3.cell? ⟨wr.heap.size, 1, none⟩ = some (.int .i64 kd) := by rw [hn3.cell]; rfl
        have m2 : w3.cell? ⟨wr.heap.size, 2, none⟩ = some (.int .i64 nu) := by rw [hn3.cell]; rfl
        have m3 : w3.cell? ⟨wr.heap.size, 3, none⟩ = some (.string tx) := by rw [hn3.cell]; rfl
        have m4 : w3.cell? ⟨wr.heap.size, 4, none⟩ = some (.slice Ax ls.length cx) := by rw [hn3.cell]; rfl
        have m5 : w3.cell? ⟨wr.heap.size, 5, none⟩ = some (.slice Bx ns.length dx) := by rw [hn3.cell]; rfl
        have hw3 := hn3.lt
        clear hown3 hgrow3 n0 hn3 hmn HC2 HN2 HMET2
        by_cases hk1 : kd = 1
        · subst hk1
          by_cases hlo : nu < -9007199254740992
          · have hlo2 : ¬ -9007199254740992 ≤ nu := by omega
            have HE := Lib.hid (HBADQ.out (by rw [okN_eq, pl1]; simp [hlo2]))
            go_wp2_with fail
            all_goals
              go_ret
              rw [HE.out]
              exact end_false (HC3.out.1.alloc _) (HC3.out.2.alloc _)
          · by_cases hhi : 9007199254740992 < nu
            · have hhi2 : ¬ nu ≤ 9007199254740992 := by omega
              have HE := Lib.hid (HBADQ.out (by rw [okN_eq, pl1]; simp [hhi2]))
              go_wp2_with fail
              all_goals
                go_ret
                rw [HE.out]
                exact end_false (HC3.out.1.alloc _) (HC3.out.2.alloc _)
            · have hlo2 : -9007199254740992 ≤ nu := by omega
              have hhi2 : nu ≤ 9007199254740992 := by omega
              by_cases htx : tx.size = 0
              · have ht1 : tx.toList = [] := tx_nil htx
                have ht2 : tx.toList.isEmpty = true := by rw [ht1]; rfl
                by_cases hsum : ls.length + ns.length = 0
                · have hls : ls.length = 0 := by omega
                  have hns : ns.length = 0 := by omega
                  have hs1 : ¬ (0 : Int) < (ls.length : Int) + (ns.length : Int) := by omega
                  have hs2 : IntKind.i64.wrap ((ls.length : Int) + (ns.length : Int)) = (ls.length : Int) + (ns.length : Int) := IntWalk.i64_in _ (by omega)
                  have HOKX := Lib.hid (show okN f (.mk nm 1 nu tx ls ns) = true by rw [okN_eq, pl1]; simp [HQN.out, htx, hls, hns, hlo2, hhi2]; try omega)
                  have hnd := HND.out HM.out
                  go_wp2_with fail
                  exact ⟨⟨k + 1, by omega, by go_num, ⟨by rw [hnd.2]; exact HMET3.out.alloc _, by rw [HCN.out]; exact (by rw [show ns = [] from List.eq_nil_of_length_eq_zero hns, show cntL [] = 0 from rfl]; exact HC3.out.1.alloc _), HOKN.out HOKX.out, hnd.1, HC3.out.2.alloc _⟩⟩, by simp [intOf]; omega⟩
                · have hs1 : (0 : Int) < (ls.length : Int) + (ns.length : Int) := by omega
                  have hs2 : IntKind.i64.wrap ((ls.length : Int) + (ns.length : Int)) = (ls.length : Int) + (ns.length : Int) := IntWalk.i64_in _ (by omega)
                  have hls : ¬ (ls.length = 0 ∧ ns.length = 0) := by omega
                  have HSUM := Lib.hid hls
                  have HE := Lib.hid (HBADQ.out (by
                    rw [okN_eq, pl1]
                    by_cases hl0 : ls.length = 0
                    · have hn0 : ¬ ns.length = 0 := fun e => HSUM.out ⟨hl0, e⟩
                      simp [hn0]
                    · simp [hl0]))
                  clear hls
                  go_wp2_with fail
                  go_ret
                  rw [HE.out]
                  exact end_false (HC3.out.1.alloc _) (HC3.out.2.alloc _)
              · have ht1 : ¬ tx.toList = [] := fun e => htx (tx_size e)
                have ht2 : tx.toList.isEmpty = false := by cases h : tx.toList.isEmpty with | false => rfl | true => exact absurd (List.isEmpty_iff.1 h) ht1
                have HE := Lib.hid (HBADQ.out (by rw [okN_eq, pl1]; simp [htx]))
                go_wp2_with fail
                go_ret
                rw [HE.out]
                exact end_false (HC3.out.1.alloc _) (HC3.out.2.alloc _)
        · by_cases hk2 : kd = 2
          · subst hk2
            have HBB := Lib.hid (show Blk ((w3.alloc (.cells #[.string ⟨#[]⟩, .int .i64 0, .int .i64 nu, .string ⟨#[]⟩, .slice Ax ls.length cx, .slice Bx ns.length dx] 48)).alloc (.cells #[.string tx] 9)) w3.heap.size 48 #[.string ⟨#[]⟩, .int .i64 0, .int .i64 nu, .string ⟨#[]⟩, .slice Ax ls.length cx, .slice Bx ns.length dx] from (Blk.new w3 48 #[.string ⟨#[]⟩, .int .i64 0, .int .i64 nu, .string ⟨#[]⟩, .slice Ax ls.length cx, .slice Bx ns.length dx]).alloc _)
            obtain ⟨q2, hq2⟩ : ∃ q2, qokT tx = q2 := ⟨_, rfl⟩
            have HQT := Lib.hid (fun W h => quotable_one (W := W) (pb := w3.heap.size + 1) (tx := tx) h hf2 hq2)
            have HQ2 := Lib.hid hq2
            clear hq2
            go_wp2_with fail
            refine (HQT.out _ cell_snd2).mono ?_
            rintro e w5 ⟨rfl, hb5⟩
            have HC5 := Lib.hid (show Blk w5 cb 3 #[.int .i64 ((cv : Int) + 1)] ∧ Only (· = cb) w w5 from ⟨((HC3.out.1.alloc (.cells #[.string ⟨#[]⟩, .int .i64 0, .int .i64 nu, .string ⟨#[]⟩, .slice Ax ls.length cx, .slice Bx ns.length dx] 48)).alloc (.cells #[.string tx] 9)).below hb5 ((HC3.out.1.alloc _).alloc _).lt, ((HC3.out.2.alloc _).alloc _).next hb5⟩)
            have HMET5 := Lib.hid (((HMET3.out.alloc (.cells #[.string ⟨#[]⟩, .int .i64 0, .int .i64 nu, .string ⟨#[]⟩, .slice Ax ls.length cx, .slice Bx ns.length dx] 48)).alloc (.cells #[.string tx] 9)).same (hb5.block _ ((HMET3.out.alloc _).alloc _).lt))
            have hb5b : Blk w5 w3.heap.size 48 #[.string ⟨#[]⟩, .int .i64 0, .int .i64 nu, .string ⟨#[]⟩, .slice Ax ls.length cx, .slice Bx ns.length dx] := HBB.out.below hb5 HBB.out.lt
            have b2 : w5.cell? ⟨w3.heap.size, 2, none⟩ = some (.int .i64 nu) := by rw [hb5b.cell]; rfl
            have b3 : w5.cell? ⟨w3.heap.size, 3, none⟩ = some (.string ⟨#[]⟩) := by rw [hb5b.cell]; rfl
            have b4 : w5.cell? ⟨w3.heap.size, 4, none⟩ = some (.slice Ax ls.length cx) := by rw [hb5b.cell]; rfl
            have b5 : w5.cell? ⟨w3.heap.size, 5, none⟩ = some (.slice Bx ns.length dx) := by rw [hb5b.cell]; rfl
            have hw5 := hb5b.lt
            clear hb5 hb5b HQT
            cases q2 with
            | false =>
              have HE := Lib.hid (HBADQ.out (by rw [okN_eq, pl2]; simp [HQ2.out]))
              go_wp2_with fail
              go_ret
              rw [HE.out]
              exact end_false HC5.out.1 HC5.out.2
            | true =>
              by_cases hnu : nu = 0
              · have hn1 : (nu != 0) = false := by rw [hnu]; rfl
                have hn2 : (nu == 0) = true := by rw [hnu]; rfl
                by_cases hsum : ls.length + ns.length = 0
                · have hls : ls.length = 0 := by omega
                  have hns : ns.length = 0 := by omega
                  have hs1 : ¬ (0 : Int) < (ls.length : Int) + (ns.length : Int) := by omega
                  have hs2 : IntKind.i64.wrap ((ls.length : Int) + (ns.length : Int)) = (ls.length : Int) + (ns.length : Int) := IntWalk.i64_in _ (by omega)
                  have HOKX := Lib.hid (show okN f (.mk nm 2 nu tx ls ns) = true by rw [okN_eq, pl2]; simp [HQN.out, hnu, hls, hns, HQ2.out])
                  have hnd := HND.out HM.out
                  go_wp2_with fail
                  exact ⟨⟨k + 1, by omega, by go_num, ⟨by rw [hnd.2]; exact HMET5.out, by rw [HCN.out]; exact (by rw [show ns = [] from List.eq_nil_of_length_eq_zero hns, show cntL [] = 0 from rfl]; exact HC5.out.1), HOKN.out HOKX.out, hnd.1, HC5.out.2⟩⟩, by simp [intOf]; omega⟩
                · have hs1 : (0 : Int) < (ls.length : Int) + (ns.length : Int) := by omega
                  have hs2 : IntKind.i64.wrap ((ls.length : Int) + (ns.length : Int)) = (ls.length : Int) + (ns.length : Int) := IntWalk.i64_in _ (by omega)
                  have hls : ¬ (ls.length = 0 ∧ ns.length = 0) := by omega
                  have HSUM := Lib.hid hls
                  have HE := Lib.hid (HBADQ.out (by
                    rw [okN_eq, pl2]
                    by_cases hl0 : ls.length = 0
                    · have hn0 : ¬ ns.length = 0 := fun e => HSUM.out ⟨hl0, e⟩
                      simp [hn0]
                    · simp [hl0]))
                  clear hls
                  go_wp2_with fail
                  go_ret
                  rw [HE.out]
                  exact end_false (HC5.out.1) (HC5.out.2)
              · have hn1 : (nu != 0) = true := bne_iff_ne.2 hnu
                have hn2 : (nu == 0) = false := beq_eq_false_iff_ne.2 hnu
                have HE := Lib.hid (HBADQ.out (by rw [okN_eq, pl2]; simp [hnu]))
                go_wp2_with fail
                go_ret
                rw [HE.out]
                exact end_false (HC5.out.1) (HC5.out.2)
          · by_cases hk3 : kd = 3
            · subst hk3
              have HBB := Lib.hid (Blk.new w3 48 #[.string ⟨#[]⟩, .int .i64 0, .int .i64 nu, .string tx, .slice none 0 0, .slice Bx ns.length dx])
              obtain ⟨q2, hq2⟩ : ∃ q2, ls.all qokT = q2 := ⟨_, rfl⟩
              have HQT := Lib.hid (cquotable_any (HTL3.out.up ((Below.refl _ _).al (.cells #[.string ⟨#[]⟩, .int .i64 0, .int .i64 nu, .string tx, .slice none 0 0, .slice Bx ns.length dx] 48))) hf3 HF4.out hq2)
              have HQ2 := Lib.hid hq2
              clear hq2
              go_wp2_with fail
              refine HQT.out.mono ?_
              rintro e w5 ⟨rfl, hb5⟩
              have HC5 := Lib.hid (show Blk w5 cb 3 #[.int .i64 ((cv : Int) + 1)] ∧ Only (· = cb) w w5 from ⟨(HC3.out.1.alloc (.cells #[.string ⟨#[]⟩, .int .i64 0, .int .i64 nu, .string tx, .slice none 0 0, .slice Bx ns.length dx] 48)).below hb5 (HC3.out.1.alloc _).lt, (HC3.out.2.alloc _).next hb5⟩)
              have HMET5 := Lib.hid ((HMET3.out.alloc (.cells #[.string ⟨#[]⟩, .int .i64 0, .int .i64 nu, .string tx, .slice none 0 0, .slice Bx ns.length dx] 48)).same (hb5.block _ (HMET3.out.alloc _).lt))
              have hb5b : Blk w5 w3.heap.size 48 #[.string ⟨#[]⟩, .int .i64 0, .int .i64 nu, .string tx, .slice none 0 0, .slice Bx ns.length dx] := HBB.out.below hb5 HBB.out.lt
              have b2 : w5.cell? ⟨w3.heap.size, 2, none⟩ = some (.int .i64 nu) := by rw [hb5b.cell]; rfl
              have b3 : w5.cell? ⟨w3.heap.size, 3, none⟩ = some (.string tx) := by rw [hb5b.cell]; rfl
              have b4 : w5.cell? ⟨w3.heap.size, 4, none⟩ = some (.slice none 0 0) := by rw [hb5b.cell]; rfl
              have b5 : w5.cell? ⟨w3.heap.size, 5, none⟩ = some (.slice Bx ns.length dx) := by rw [hb5b.cell]; rfl
              have hw5 := hb5b.lt
              clear hb5 hb5b HQT
              cases q2 with
              | false =>
                have HE := Lib.hid (HBADQ.out (by rw [okN_eq, pl3]; simp [HQ2.out]))
                go_wp2_with fail
                go_ret
                rw [HE.out]
                exact end_false HC5.out.1 HC5.out.2
              | true =>
                by_cases hnu : nu = 0
                · have hn1 : (nu != 0) = false := by rw [hnu]; rfl
                  have hn2 : (nu == 0) = true := by rw [hnu]; rfl
                  by_cases htx : tx.size = 0
                  · have ht1 : tx.toList = [] := tx_nil htx
                    have ht2 : tx.toList.isEmpty = true := by rw [ht1]; rfl
                    by_cases hns : ns.length = 0
                    · have hs1 : ¬ (0 : Int) < (ns.length : Int) := by omega
                      have hs2 : IntKind.i64.wrap (ns.length : Int) = (ns.length : Int) := IntWalk.i64_in _ (by omega)
                      have HOKX := Lib.hid (show okN f (.mk nm 3 nu tx ls ns) = true by rw [okN_eq, pl3]; simp [HQN.out, htx, hnu, hns, HQ2.out])
                      have hnd := HND.out HM.out
                      go_wp2_with fail
                      exact ⟨⟨k + 1, by omega, by go_num, ⟨by rw [hnd.2]; exact HMET5.out, by rw [HCN.out]; exact (by rw [show ns = [] from List.eq_nil_of_length_eq_zero hns, show cntL [] = 0 from rfl]; exact HC5.out.1), HOKN.out HOKX.out, hnd.1, HC5.out.2⟩⟩, by simp [intOf]; omega⟩
                    · have hs1 : (0 : Int) < (ns.length : Int) := by omega
                      have hs2 : IntKind.i64.wrap (ns.length : Int) = (ns.length : Int) := IntWalk.i64_in _ (by omega)
                      have HE := Lib.hid (HBADQ.out (by rw [okN_eq, pl3]; simp [hns]))
                      go_wp2_with fail
                      go_ret
                      rw [HE.out]
                      exact end_false (HC5.out.1) (HC5.out.2)
                  · have ht1 : ¬ tx.toList = [] := fun e => htx (tx_size e)
                    have ht2 : tx.toList.isEmpty = false := by cases h : tx.toList.isEmpty with | false => rfl | true => exact absurd (List.isEmpty_iff.1 h) ht1
                    have HE := Lib.hid (HBADQ.out (by rw [okN_eq, pl3]; simp [htx]))
                    go_wp2_with fail
                    go_ret
                    rw [HE.out]
                    exact end_false (HC5.out.1) (HC5.out.2)
                · have hn1 : (nu != 0) = true := bne_iff_ne.2 hnu
                  have hn2 : (nu == 0) = false := beq_eq_false_iff_ne.2 hnu
                  have HE := Lib.hid (HBADQ.out (by rw [okN_eq, pl3]; simp [hnu]))
                  go_wp2_with fail
                  go_ret
                  rw [HE.out]
                  exact end_false (HC5.out.1) (HC5.out.2)
            · by_cases hk4 : kd = 4
              · subst hk4
                by_cases hd8 : d = 8
                · have z8 : ((d : Int) == 8) = true := beq_iff_eq.2 (by omega)
                  have hs8 := HSUB.out
                  rw [if_pos hd8] at hs8
                  have HE := Lib.hid (HBADQ.out (by rw [okN_eq, hs8 ns]; simp))
                  clear hd8 hs8
                  go_wp2_with fail
                  go_ret
                  rw [HE.out]
                  exact end_false (HC3.out.1.alloc _) (HC3.out.2.alloc _)
                · have z8 : ((d : Int) == 8) = false := beq_eq_false_iff_ne.2 (by omega)
                  have hs8 := HSUB.out
                  rw [if_neg hd8] at hs8
                  have HBB := Lib.hid (Blk.new w3 48 #[.string ⟨#[]⟩, .int .i64 0, .int .i64 nu, .string tx, .slice Ax ls.length cx, .slice none 0 0])
                  obtain ⟨q2, hq2⟩ : ∃ q2, f ns = q2 := ⟨_, rfl⟩
                  have HQT := Lib.hid (show Calls Tryd.prog 33 #[.slice Bx ns.length dx, .int .i64 ((d : Int) + 1), .pointer (some ⟨cb, 0, none⟩)] (w3.alloc (.cells #[.string ⟨#[]⟩, .int .i64 0, .int .i64 nu, .string tx, .slice Ax ls.length cx, .slice none 0 0] 48)) (FormRet (w3.alloc (.cells #[.string ⟨#[]⟩, .int .i64 0, .int .i64 nu, .string tx, .slice Ax ls.length cx, .slice none 0 0] 48)) cb (cv + 1) ns q2) from
                    hs8 (HNL3.out.up ((Below.refl _ _).al (.cells #[.string ⟨#[]⟩, .int .i64 0, .int .i64 nu, .string tx, .slice Ax ls.length cx, .slice none 0 0] 48))) HS.out (show Blk _ cb 3 #[.int .i64 (((cv + 1 : Nat)) : Int)] from HC3.out.1.alloc _) (by omega) HF5.out hq2)
                  have HQ2 := Lib.hid hq2
                  have d1 : (0 : Int) ≤ (d : Int) := by omega
                  have d2 : (d : Int) ≤ 8 := by omega
                  have hcb3 : cb < w3.heap.size := HC3.out.1.lt
                  clear hq2 hd8 hs8
                  go_wp2_with fail
                  refine HQT.out.mono ?_
                  rintro e w5 ⟨rfl, ⟨c5, hc5, hc5q⟩, ho5⟩
                  have HC5 := Lib.hid (show Blk w5 cb 3 #[.int .i64 c5] ∧ Only (· = cb) w w5 from ⟨hc5, (HC3.out.2.alloc _).trans ho5⟩)
                  have HCQ := Lib.hid hc5q
                  have HMET5 := Lib.hid ((HMET3.out.alloc (.cells #[.string ⟨#[]⟩, .int .i64 0, .int .i64 nu, .string tx, .slice Ax ls.length cx, .slice none 0 0] 48)).same (ho5.block _ (HMET3.out.alloc _).lt (by omega)))
                  have hb5b : Blk w5 w3.heap.size 48 #[.string ⟨#[]⟩, .int .i64 0, .int .i64 nu, .string tx, .slice Ax ls.length cx, .slice none 0 0] := HBB.out.only ho5 (by omega)
                  have b2 : w5.cell? ⟨w3.heap.size, 2, none⟩ = some (.int .i64 nu) := by rw [hb5b.cell]; rfl
                  have b3 : w5.cell? ⟨w3.heap.size, 3, none⟩ = some (.string tx) := by rw [hb5b.cell]; rfl
                  have b4 : w5.cell? ⟨w3.heap.size, 4, none⟩ = some (.slice Ax ls.length cx) := by rw [hb5b.cell]; rfl
                  have b5 : w5.cell? ⟨w3.heap.size, 5, none⟩ = some (.slice none 0 0) := by rw [hb5b.cell]; rfl
                  have hw5 := hb5b.lt
                  clear hc5 hc5q ho5 hb5b HQT
                  cases q2 with
                  | false =>
                    have HE := Lib.hid (HBADQ.out (by rw [okN_eq, HQ2.out]; simp))
                    go_wp2_with fail
                    go_ret
                    rw [HE.out]
                    exact end_false HC5.out.1 HC5.out.2
                  | true =>
                    by_cases hnu : nu = 0
                    · have hn1 : (nu != 0) = false := by rw [hnu]; rfl
                      have hn2 : (nu == 0) = true := by rw [hnu]; rfl
                      by_cases htx : tx.size = 0
                      · have ht1 : tx.toList = [] := tx_nil htx
                        have ht2 : tx.toList.isEmpty = true := by rw [ht1]; rfl
                        by_cases hls : ls.length = 0
                        · have hs1 : ¬ (0 : Int) < (ls.length : Int) := by omega
                          have hs2 : IntKind.i64.wrap (ls.length : Int) = (ls.length : Int) := IntWalk.i64_in _ (by omega)
                          have HOKX := Lib.hid (show okN f (.mk nm 4 nu tx ls ns) = true by rw [okN_eq, (pl4 nm 4 nu tx ls ns (by decide) (by decide) (by decide))]; simp [HQN.out, htx, hnu, hls, HQ2.out])
                          have hnd := HND.out HM.out
                          go_wp2_with fail
                          exact ⟨⟨k + 1, by omega, by go_num, ⟨by rw [hnd.2]; exact HMET5.out, by rw [HCN.out]; exact (by have h := HC5.out.1; rw [HCQ.out (by trivial)] at h; exact h), HOKN.out HOKX.out, hnd.1, HC5.out.2⟩⟩, by simp [intOf]; omega⟩
                        · have hs1 : (0 : Int) < (ls.length : Int) := by omega
                          have hs2 : IntKind.i64.wrap (ls.length : Int) = (ls.length : Int) := IntWalk.i64_in _ (by omega)
                          have HE := Lib.hid (HBADQ.out (by rw [okN_eq, (pl4 nm 4 nu tx ls ns (by decide) (by decide) (by decide))]; simp [hls]))
                          go_wp2_with fail
                          go_ret
                          rw [HE.out]
                          exact end_false (HC5.out.1) (HC5.out.2)
                      · have ht1 : ¬ tx.toList = [] := fun e => htx (tx_size e)
                        have ht2 : tx.toList.isEmpty = false := by cases h : tx.toList.isEmpty with | false => rfl | true => exact absurd (List.isEmpty_iff.1 h) ht1
                        have HE := Lib.hid (HBADQ.out (by rw [okN_eq, (pl4 nm 4 nu tx ls ns (by decide) (by decide) (by decide))]; simp [htx]))
                        go_wp2_with fail
                        go_ret
                        rw [HE.out]
                        exact end_false (HC5.out.1) (HC5.out.2)
                    · have hn1 : (nu != 0) = true := bne_iff_ne.2 hnu
                      have hn2 : (nu == 0) = false := beq_eq_false_iff_ne.2 hnu
                      have HE := Lib.hid (HBADQ.out (by rw [okN_eq, (pl4 nm 4 nu tx ls ns (by decide) (by decide) (by decide))]; simp [hnu]))
                      go_wp2_with fail
                      go_ret
                      rw [HE.out]
                      exact end_false (HC5.out.1) (HC5.out.2)
              · have q1 : (kd == 1) = false := beq_eq_false_iff_ne.2 hk1
                have q2 : (kd == 2) = false := beq_eq_false_iff_ne.2 hk2
                have q3 : (kd == 3) = false := beq_eq_false_iff_ne.2 hk3
                have q4 : (kd == 4) = false := beq_eq_false_iff_ne.2 hk4
                have HE := Lib.hid (HBADQ.out (by rw [okN_eq, pl4 nm kd nu tx ls ns hk1 hk2 hk3]; simp [hk4]))
                go_wp2_with fail
                go_ret
                rw [HE.out]
                exact end_false (HC3.out.1.alloc _) (HC3.out.2.alloc _)
end Go.Proofs.YtfmdbmalmeimbaaDoor
/- formed, at every depth. -/
namespace Go.Proofs.YtfmdbmalmeimbaaDoor
open Go.RowKit
set_option maxRecDepth 100000

theorem formed_any : ∀ (k d : Nat), d + k = 8 → FormC (formedF k) d := by
  intro k
  induction k with
  | zero =>
    intro d hd
    have h : FormC (fun l => decide ((l.map Nd.name).Nodup) && l.all (okN (fun _ => false))) d := formed_step (by omega) (by rw [if_pos (by omega)]; intro _; rfl)
    exact @h
  | succ k ih =>
    intro d hd
    have h : FormC (fun l => decide ((l.map Nd.name).Nodup) && l.all (okN (formedF k))) d := formed_step (by omega) (by rw [if_neg (by omega)]; exact ih (d + 1) (by omega))
    exact @h
end Go.Proofs.YtfmdbmalmeimbaaDoor
