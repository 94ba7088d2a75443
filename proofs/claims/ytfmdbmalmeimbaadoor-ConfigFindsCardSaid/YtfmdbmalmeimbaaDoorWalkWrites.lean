/- ConfigWrites: the walk. -/
import Derived.Test.YtfmdbmalmeimbaaDoorMMake
import Derived.Test.YtfmdbmalmeimbaaDoorMRef
import Derived.Test.YtfmdbmalmeimbaaDoorMFind
import Derived.Test.YtfmdbmalmeimbaaDoorMAwake
namespace Go.Proofs.YtfmdbmalmeimbaaDoor
open Go.RowKit
set_option maxRecDepth 100000

/-- a tree that the maker has made, at a world behind -/
structure MT (W w : World) (v : Value) (l : List Nd) : Prop where
  made : Made 3 l
  nl : NL w (fun g => g < w.heap.size) v l
  bel : Below W.heap.size W w
theorem MT.up {W w w' : World} {v : Value} {l : List Nd} (h : MT W w v l) (hb : Below w.heap.size w w') : MT W w' v l := ⟨h.made, nl_in (h.nl.up hb), h.bel.next hb⟩
theorem MT.form {W w : World} {v : Value} {l : List Nd} (h : MT W w v l) : ∃ A c, v = .slice A l.length c := by obtain ⟨A, c, e, _⟩ := h.nl.form; exact ⟨A, c, e⟩
theorem mt_of {W w1 w2 : World} {v : Value} {l : List Nd} (hm : Made 3 l) (hnl : NL w2 (fun g => w1.heap.size ≤ g) v l) (hb : Below W.heap.size W w1) (ho : Only (· = W.heap.size) w1 w2) : MT W w2 v l :=
  ⟨hm, nl_in hnl, hb.trans (ho.below hb.size (fun k e => by omega))⟩
theorem tree3 {W w1 : World} (hs : SrcOk W.heap.size w1 W.heap.size) (hb : Below W.heap.size W w1) : Calls Tryd.prog 15 #[.pointer (some ⟨W.heap.size, 0, none⟩), .int .i64 3, .int .i64 3] w1 (fun e w2 => ∃ v l, e = .returned v ∧ MT W w2 v l) :=
  (tree_any _ _ 3 w1 (by omega) hs).mono fun _ _ ⟨v, l, he, hm, hnl, _, ho⟩ => ⟨v, l, he, mt_of hm hnl hb ho⟩
theorem MT.fmt {W w : World} {A : Option Addr} {c : Nat} {l : List Nd} (h : MT W w (.slice A l.length c) l) (ht : Lib.TabIs Tryd.prog w "internal/strconv.uint64pow10" .u64 Lib.pow10Tab) : Calls Tryd.prog 18 #[.slice A l.length c] w (FormatRet l w) :=
  format_all h.nl (made_fit h.made) (by have := made_cnt h.made; omega) (made_lines h.made) ht
theorem MT.rfmt {W w : World} {A : Option Addr} {c : Nat} {l : List Nd} (h : MT W w (.slice A l.length c) l) : Calls Tryd.prog 14 #[.slice A l.length c] w (FormatRet l w) :=
  rformat_any h.nl (made_fit h.made) (by have := made_cnt h.made; omega) (made_lines h.made)
set_option maxHeartbeats 4000000 in
theorem writes_walk (A : Option Addr) (n c : Nat) (zs : List Int) (W : World) (hn : n ≤ c) (hc : c ≤ maxLen) (hr : Reads W W.heap.size 1 A n (I zs)) (ht : Tab10 W) :
    Calls Tryd.prog 7 #[.slice A n c] W (Ret (.bool true) W) := by
  have HT := Lib.hid (show ∀ W', Below W.heap.size W W' → Lib.TabIs Tryd.prog W' "internal/strconv.uint64pow10" .u64 Lib.pow10Tab from Lib.tabBelow_of_tabIs ht)
  have HN := Lib.hid (srcNew_any A n c zs W hn hc hr)
  clear ht hr hn hc
  go_enter Tryd.func7, Tryd.ntmps7
  go_wp2_with fail
  refine HN.out.mono ?_
  rintro e w1 ⟨rfl, hs1, hb1⟩
  have HTR := Lib.hid (tree3 hs1 hb1)
  clear hs1 hb1 HN
  go_wp2_with fail
  refine HTR.out.mono ?_
  rintro e w2 ⟨v, l, rfl, hm⟩
  obtain ⟨A2, c2, rfl⟩ := hm.form
  have HM := Lib.hid hm
  have hf := fun W' (h : MT W W' (.slice A2 l.length c2) l) => h.fmt (HT.out _ h.bel)
  have hg := fun W' (h : MT W W' (.slice A2 l.length c2) l) => h.rfmt
  unfold FormatRet at hf hg
  generalize formatR l = r at hf hg
  obtain ⟨t, er⟩ := r
  simp only at hf hg
  have HF := Lib.hid hf
  have HG := Lib.hid hg
  clear hm hf hg HTR
  go_wp2_with fail
  refine (HF.out w2 HM.out).mono ?_
  rintro e w3 ⟨rfl, hb3⟩
  have HM3 := Lib.hid (HM.out.up hb3)
  clear hb3 HM
  go_wp2_with fail
  refine (HG.out w3 HM3.out).mono ?_
  rintro e w4 ⟨rfl, hb4⟩
  have HM4 := Lib.hid (HM3.out.up hb4)
  clear hb4 HM3
  have q1 : (er == er) = true := by simp
  have q2 : (t.toList == t.toList) = true := by simp
  go_wp2_with fail
  refine (csame_any _ l l (Nat.lt_succ_self _) HM4.out.nl HM4.out.nl (b := true) (by simp) (made_small HM4.out.made) (made_small HM4.out.made)).mono ?_
  rintro e w5 ⟨rfl, hb5⟩
  have HM5 := Lib.hid (HM4.out.up hb5)
  clear hb5 HM4
  go_wp2_with fail
  refine (awake_any (HT.out _ HM5.out.bel)).mono ?_
  rintro e w6 ⟨rfl, hb6⟩
  have HB6 := Lib.hid (HM5.out.bel.next hb6)
  clear hb6
  go_wp2_with fail
  go_ret
  exact ⟨rfl, HB6.out⟩
end Go.Proofs.YtfmdbmalmeimbaaDoor
