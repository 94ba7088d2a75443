/- The builder: the states of the regions of 'more'. -/
import Derived.Test.YtdkcfgahdcpkkaaDoorCUsed
import Derived.Test.YtdkcfgahdcpkkaaDoorCOwnS
import Derived.Test.YtdkcfgahdcpkkaaDoorCSrc
import Derived.Test.YtdkcfgahdcpkkaaDoorCMkStr
import Derived.Test.YtdkcfgahdcpkkaaDoorCMkAdd
set_option linter.all false
namespace Go.Proofs.YtdkcfgahdcpkkaaDoor
open Go.RowKit
set_option maxRecDepth 100000
def ARow (w : World) (base : Nat) (T : TypeId) (size : Nat) (v : Value) (n : Nat) (xs : List Value) : Prop :=
  w.ownsRow base T size v n xs ∨ ∃ g, v = .slice (some ⟨g, 0, none⟩) n n ∧ g < base ∧ g < w.heap.size ∧ xs.length = n * size ∧ ∀ j u, xs[j]? = some u → w.cell? ⟨g, j, none⟩ = some u
section
variable {P : Program} {w w' : World} {base size n : Nat} {T : TypeId} {v : Value} {xs : List Value}
theorem ARow.form (h : ARow w base T size v n xs) : ∃ A c, v = .slice A n c ∧ n ≤ c := by
  rcases h with h | ⟨g, rfl, _⟩
  · rcases h.2 with ⟨h, h0⟩ | ⟨g, cap, cur, h, _, _, hc, _⟩
    · exact ⟨none, 0, by rw [h, h0], by omega⟩
    · exact ⟨_, _, h, hc⟩
  · exact ⟨_, _, rfl, Nat.le_refl _⟩
theorem ARow.pos (h : ARow w base T size v n xs) (h0 : 0 < n) : ∃ g c, v = .slice (some ⟨g, 0, none⟩) n c ∧ n ≤ c ∧ g < w.heap.size ∧ ∀ j u, j < n * size → xs[j]? = some u → w.cell? ⟨g, j, none⟩ = some u := by
  rcases h with h | ⟨g, rfl, _, hlt, _, hc⟩
  · rcases id h.2 with ⟨_, h3⟩ | ⟨g, cap, cur, rfl, _, _, hc, _⟩
    · omega
    · exact ⟨g, cap, rfl, hc, (World.ownsRow.lt h g rfl).2, fun j u hj hu => (World.ownsRow.cellAt h j hj).trans hu⟩
  · exact ⟨g, n, rfl, Nat.le_refl _, hlt, fun j u _ hu => hc j u hu⟩
theorem ARow.lt (h : ARow w base T size v n xs) {k : Nat} (hk : v.ownBlock = some k) : k < w.heap.size := by
  rcases h with h | ⟨g, rfl, _, hlt, _⟩
  · exact (World.ownsRow.lt h k hk).2
  · injection hk with hk; subst hk; exact hlt
theorem ARow.only {F : Nat → Prop} (h : ARow w base T size v n xs) (ho : Only F w w') (h1 : ∀ k, base ≤ k → v.ownBlock = some k → ¬ F k) (h2 : ∀ k, v.ownBlock = some k → k < base → ¬ F k) : ARow w' base T size v n xs := by
  rcases h with h | ⟨g, rfl, hg, hlt, hl, hc⟩
  · exact .inl (zb_ h ho fun k hk => h1 k (World.ownsRow.lt h k hk).1 hk)
  · exact .inr ⟨g, rfl, hg, Nat.lt_of_lt_of_le hlt ho.size, hl, fun j u hu => (ho.cell (p := ⟨g, j, none⟩) hlt (h2 g rfl hg)).trans (hc j u hu)⟩
theorem ji_ (base : Nat) (t ty e : TypeId) (i : TypeInfo) (z : Value) (size bytes : Nat) (ht : P.underlying t = some (.slice e)) (hi : P.info? e = some i) (hz : i.zero = some z)
    (hsize : i.size = size) (hby : i.bytes = bytes) (hzs : z.cells.size = size) (hsz : 0 < size)
    (v : Value) (n : Nat) (xs : List Value) (hown : ARow w base e size v n xs)
    (ad : Addr) (m c : Nat) (news : List Value) (hl : news.length = m * size) (hnews : ∀ j u, news[j]? = some u → w.cell? (ad.add j) = some u) (h1 : ∀ u ∈ news, u.oneCell' = true)
    (hm : 0 < m) (h63 : n + m ≤ maxLen) (hbytes : (n + m) * bytes ≤ 140737488355328) (hbase : base ≤ w.heap.size) :
    ∃ v' w', (Builtin.append_ #[t, t] ty #[v, .slice (some ad) m c]).run P w = .ok v' w' ∧ w'.ownsRow base e size v' (n + m) (xs ++ news) ∧ Only (fun k => base ≤ k ∧ v.ownBlock = some k) w w' ∧ ((v'.ownBlock = v.ownBlock ∧ ∃ k, v.ownBlock = some k ∧ base ≤ k) ∨ v'.ownBlock = some w.heap.size) := by
  rcases hown with hown | ⟨g, rfl, _, hlt, hxl, hc⟩
  · obtain ⟨v', w', hrun, h2, h3, _, h5⟩ := run_append_own_at (P := P) w base t ty e i z size bytes ht hi hz hsize hby hzs hsz v n xs hown ad m c news hl hnews h1 h63 hbytes hbase
    refine ⟨v', w', hrun, h2, (Only.refl (fun k => base ≤ k ∧ v.ownBlock = some k) w).grown h3 (fun k e => .inl ⟨(World.ownsRow.lt hown k e).1, e⟩), ?_⟩;rcases h5 with h5 | h5
    · left
      obtain ⟨g, cp, hv, hg, _⟩ := h2.form (by omega);refine ⟨h5, g, ?_, hg⟩;rw [← h5, hv]; rfl
    · exact .inr h5
  · subst hsize
    subst hby
    have hsmall : n + m ≤ 9223372036854775807 := by simp only [maxLen] at h63; omega
    have hlen : (xs ++ news).length = (n + m) * i.size := by rw [List.length_append, hxl, hl, Nat.add_mul]
    have hr := run_append_grow (P := P) w t ty e i z ht hi hz ⟨g, 0, none⟩ n n xs hxl (fun j u hu => by rw [add_zero]; exact hc j u hu) ad m c news hl hnews (by omega) (by omega) (growslice_fits (by omega) hbytes);have hge := grownCap_ge w (n + m) n e;have hcm : grownCap w (n + m) n e ≤ maxLen := grownCap_le_maxLen w (n + m) n e h63;refine ⟨_, _, hr, ⟨hlen, .inr ⟨w.heap.size, _, _, rfl, hbase, heap_alloc_new w.drew _, hge, hcm, ?_, ?_⟩⟩, ?_, .inr rfl⟩
    · simp only [Array.size_append, List.size_toArray, size_zeroCells, hzs, hxl, hl, ← Nat.add_mul]
      congr 1
      omega
    · simp only [Array.toList_append, List.append_assoc]
      rw [← List.append_assoc, ← hlen];exact List.take_left
    · exact Only.of_below _ ((Below.refl _ _).drew.al _)
theorem jL_ {o : Oper} {a : Act} {K : Act → World → Prop} {Q : Exit → Act → World → Prop} (s x : Operand) (t : TypeId)
    (ho : o.op = .call { callee := .builtin .append, args := #[s, x], argTypes := #[t, t] })
    (base : Nat) (e : TypeId) (i : TypeInfo) (z : Value) (size bytes : Nat) (ht : P.underlying t = some (.slice e)) (hi : P.info? e = some i) (hz : i.zero = some z)
    (hsize : i.size = size) (hby : i.bytes = bytes) (hzs : z.cells.size = size) (hsz : 0 < size)
    (v : Value) (n : Nat) (xs : List Value) (hs : a.eval s = v) (hown : ARow w base e size v n xs)
    (ad : Addr) (m c : Nat) (news : List Value) (hx : a.eval x = .slice (some ad) m c) (hl : news.length = m * size) (hnews : ∀ j u, news[j]? = some u → w.cell? (ad.add j) = some u) (h1 : ∀ u ∈ news, u.oneCell' = true)
    (hm : 0 < m) (h63 : n + m ≤ maxLen) (hbytes : (n + m) * bytes ≤ 140737488355328) (hbase : base ≤ w.heap.size)
    (h : ∀ v' w', w'.ownsRow base e size v' (n + m) (xs ++ news) → Only (fun k => base ≤ k ∧ v.ownBlock = some k) w w' → ((v'.ownBlock = v.ownBlock ∧ ∃ k, v.ownBlock = some k ∧ base ≤ k) ∨ v'.ownBlock = some w.heap.size) → K (a.put o.dst v') w') : o.wp P a w K Q := by
  obtain ⟨v', w', hrun, h2, h3, h4⟩ := ji_ (P := P) base t o.type e i z size bytes ht hi hz hsize hby hzs hsz v n xs hown ad m c news hl hnews h1 hm h63 hbytes hbase;unfold Oper.wp execOp;simp only [ho, resolve, invoke, builtin, Sem.run_bind, Sem.run_pure, Result.andThen_ok, List.map_toArray, List.map_cons, List.map_nil, hs, hx, hrun];exact h v' w' h2 h3 h4
end
def sumL : List Sg → Int
  | [] => 0
  | s :: l => s.len + sumL l
theorem Yu_ (l : List Sg) (s : Sg) : sumL (l ++ [s]) = sumL l + s.len := by
  induction l with
  | nil => simp [sumL]
  | cons a l ih => simp only [List.cons_append, sumL, ih]; omega
theorem Yt_ {l : List Sg} {k : Nat} {s : Sg} (h : l[k]? = some s) : sumL (l.take (k + 1)) = sumL (l.take k) + s.len := by
  obtain ⟨h1, e1⟩ := List.getElem?_eq_some_iff.1 h;rw [List.take_succ_eq_append_getElem h1, e1, Yu_]
def moreSg (start n kind : Int) (areas : List Ar) (done : Int) : Sg := ⟨start, n, kind, areas, 0, [], ⟨#[]⟩, ⟨#[]⟩, 0, 0, done⟩
def MoreS (β : Be) (l : List Sg) (β' : Be) (l' : List Sg) : Prop :=
  ∃ n, 1 ≤ n ∧ n ≤ 3 ∧
    ((β' = β ∧ ∃ kind, (kind = 9 ∨ kind = 10) ∧ l' = l ++ [moreSg (sumL l) n kind [] 0]) ∨
     (∃ d, AreaR β d n none β' ∧ l' = l) ∨
     (∃ d a, AreaR β d n (some a) β' ∧ l' = l ++ [moreSg (sumL l) n 1 [a] 0]) ∨
     (∃ d a β1 d2, AreaR β d n (some a) β1 ∧ AreaR β1 d2 n none β' ∧ l' = l) ∨
     (∃ d a β1 d2 a2 k, AreaR β d n (some a) β1 ∧ AreaR β1 d2 n (some a2) β' ∧ 0 ≤ k ∧ k ≤ n ∧ l' = l ++ [moreSg (sumL l) n 8 [a, a2] k]))
inductive MoreR : Nat → Be → List Sg → Be → List Sg → Prop
  | nil (β : Be) (l : List Sg) : MoreR 0 β l β l
  | snoc {k : Nat} {β β1 β2 : Be} {l l1 l2 : List Sg} (h : MoreR k β l β1 l1) (hs : MoreS β1 l1 β2 l2) : MoreR (k + 1) β l β2 l2
theorem MoreS.g {β β' : Be} {l l' : List Sg} (h : MoreS β l β' l') : β'.g = β.g ∧ ∃ ss, l' = l ++ ss ∧ ss.length ≤ 1 ∧ ∀ s ∈ ss, 1 ≤ s.len ∧ s.len ≤ 3 := by
  obtain ⟨n, h1, h3, ⟨rfl, kind, _, rfl⟩ | ⟨d, hr, rfl⟩ | ⟨d, a, hr, rfl⟩ | ⟨d, a, β1, d2, hr, hr2, rfl⟩ | ⟨d, a, β1, d2, a2, k, hr, hr2, _, _, rfl⟩⟩ := h
  · exact ⟨rfl, _, rfl, Nat.le_refl _, fun s hs => by simp at hs; subst hs; exact ⟨h1, h3⟩⟩
  · exact ⟨hr.g, [], by simp, by simp, by simp⟩
  · exact ⟨hr.g, _, rfl, Nat.le_refl _, fun s hs => by simp at hs; subst hs; exact ⟨h1, h3⟩⟩
  · exact ⟨hr2.g.trans hr.g, [], by simp, by simp, by simp⟩
  · exact ⟨hr2.g.trans hr.g, _, rfl, Nat.le_refl _, fun s hs => by simp at hs; subst hs; exact ⟨h1, h3⟩⟩
theorem MoreR.g {k : Nat} {β β' : Be} {l l' : List Sg} (h : MoreR k β l β' l') : β'.g = β.g ∧ ∃ ss, l' = l ++ ss ∧ ss.length ≤ k ∧ ∀ s ∈ ss, 1 ≤ s.len ∧ s.len ≤ 3 := by
  induction h with
  | nil => exact ⟨rfl, [], by simp, by simp, by simp⟩
  | snoc _ hs ih =>
    obtain ⟨h1, ss, rfl, h2, h3⟩ := ih;obtain ⟨h4, ts, rfl, h5, h6⟩ := hs.g;exact ⟨h4.trans h1, ss ++ ts, by simp, by simp; omega, fun s hs => (List.mem_append.1 hs).elim (h3 s) (h6 s)⟩
theorem xg_ : ∀ {l : List Sg}, (∀ s ∈ l, 1 ≤ s.len) → 0 ≤ sumL l
  | [], _ => Int.le_refl _
  | s :: l, h => by
    have h1 := h s (by simp);have h2 := xg_ (l := l) (fun t ht => h t (by simp [ht]));simp only [sumL]; omega
theorem kp_ {c : Int} : ∀ {l : List Sg}, (∀ s ∈ l, s.len ≤ c) → sumL l ≤ c * l.length
  | [], _ => by simp [sumL]
  | s :: l, h => by
    have h1 := h s (by simp);have h2 := kp_ (l := l) (fun t ht => h t (by simp [ht]));simp only [sumL, List.length_cons];have : c * ((l.length + 1 : Nat) : Int) = c * (l.length : Int) + c := by rw [Int.natCast_add, Int.mul_add]; simp
    omega
theorem zV_ {P : Program} {w : World} {ops : Array Oper} {rest : List Oper} {o : Oper} {a : Act} {Q : Exit → Act → World → Prop} (hgd : o.guard = none) (s x : Operand) (t : TypeId)
    (ho : o.op = .call { callee := .builtin .append, args := #[s, x], argTypes := #[t, t] })
    (base : Nat) (e : TypeId) (i : TypeInfo) (z : Value) (size bytes : Nat) (ht : P.underlying t = some (.slice e)) (hi : P.info? e = some i) (hz : i.zero = some z)
    (hsize : i.size = size) (hby : i.bytes = bytes) (hzs : z.cells.size = size) (hsz : 0 < size)
    (v : Value) (n : Nat) (xs : List Value) (hs : a.eval s = v) (hown : ARow w base e size v n xs)
    (ad : Addr) (m c : Nat) (news : List Value) (hx : a.eval x = .slice (some ad) m c) (hl : news.length = m * size) (hnews : ∀ j u, news[j]? = some u → w.cell? (ad.add j) = some u) (h1 : ∀ u ∈ news, u.oneCell' = true)
    (hm : 0 < m) (h63 : n + m ≤ maxLen) (hbytes : (n + m) * bytes ≤ 140737488355328) (hbase : base ≤ w.heap.size)
    (h : ∀ v' w', w'.ownsRow base e size v' (n + m) (xs ++ news) → Only (fun k => base ≤ k ∧ v.ownBlock = some k) w w' → ((v'.ownBlock = v.ownBlock ∧ ∃ k, v.ownBlock = some k ∧ base ≤ k) ∨ v'.ownBlock = some w.heap.size) → wpList P ops Q rest (a.put o.dst v') w') : wpList P ops Q (o :: rest) a w :=
  wpList_plain hgd fun _ hK => jL_ s x t ho base e i z size bytes ht hi hz hsize hby hzs hsz v n xs hs hown ad m c news hx hl hnews h1 hm h63 hbytes hbase fun v' w' h2 h3 h4 => hK _ _ (h v' w' h2 h3 h4)
theorem ARow.lr {α : Type} {size : Nat} {V : World → (Nat → Prop) → List Value → α → Prop} {a : World → (Nat → Prop) → Addr → α → Prop} {S S' : Nat → Prop} {w : World} {base : Nat} {T : TypeId} {v : Value} {l : List α} {css : List (List Value)} (L : VLaw size V a) (_hs : 0 < size) (h : ARow w base T size v l.length css.flatten) (hlen : css.length = l.length) (hv : ∀ (k : Nat) (c : List Value) (x : α), css[k]? = some c → l[k]? = some x → V w S c x)
    (hS : ∀ k, S k → S' k) (ho : ∀ k, v.ownBlock = some k → S' k) : LR w S' size (a w S') v l := by
  obtain ⟨A, c, rfl, hc⟩ := h.form;refine ⟨A, c, rfl, hc, fun h0 => ?_⟩;obtain ⟨g, c', e, _, hlt, hcell⟩ := h.pos h0;injection e with e1 e2 e3;subst e1;refine ⟨_, rfl, ho g rfl, hlt, fun k x hx => ?_⟩;have hk : k < l.length := (List.getElem?_eq_some_iff.1 hx).1;have hk2 : k < css.length := by rw [hlen]; exact hk
  have hcs : css[k]? = some css[k] := List.getElem?_eq_getElem hk2
  have hl : ∀ c ∈ css, c.length = size := fun c hc => by
    obtain ⟨j, hj⟩ := List.getElem?_of_mem hc;have hlt := (List.getElem?_eq_some_iff.1 hj).1;exact L.len (hv j c _ hj (List.getElem?_eq_getElem (by rw [← hlen]; exact hlt)))
  rw [add_zero];refine L.at_ (L.keep (hv k _ x hcs hx) Kept.same hS) (fun j u hu => ?_);have hj : j < size := by rw [← hl _ (List.mem_of_getElem? hcs)]; exact (List.getElem?_eq_some_iff.1 hu).1
  have hlt2 : k * size + j < l.length * size := by
    have : (k + 1) * size ≤ l.length * size := Nat.mul_le_mul_right size hk;rw [Nat.succ_mul] at this;omega
  exact hcell (k * size + j) u hlt2 (by rw [y0_ css k j _ hl hcs hj]; exact hu)
structure MV (S3 : Nat → Prop) (W vb rb : Nat) (v0 : Vo) (vT vS : Value) (l : List Sg) (cs : List (List Value)) (wx : World) : Prop where
  vblk : Blk wx vb 53 #[.string v0.name, .int .u64 v0.id, .bool v0.hid, .bool v0.ro, vT, vS]
  rblk : Blk wx rb 53 #[.string ⟨#[]⟩, .int .u64 0, .bool false, .bool false, .slice none 0 0, .slice none 0 0]
  tl : TL wx S3 vT v0.tags
  len : cs.length = l.length
  row : ARow wx W 58 11 vS l.length cs.flatten
  val : ∀ (k : Nat) (c : List Value) (x : Sg), cs[k]? = some c → l[k]? = some x → sgW wx S3 c x
  o1 : ¬ S3 vb ∧ ¬ S3 rb ∧ vb < W ∧ rb < W ∧ vb ≠ rb
  o2 : ∀ k, vS.ownBlock = some k → (W ≤ k ∧ ¬ S3 k) ∨ (k < W ∧ S3 k)
  low : W ≤ wx.heap.size
section
variable {S3 S4 : Nat → Prop} {W vb rb : Nat} {v0 : Vo} {vT vS : Value} {l : List Sg} {cs : List (List Value)} {wx w' : World}
theorem MV.form (h : MV S3 W vb rb v0 vT vS l cs wx) : ∃ A c, vS = .slice A l.length c := by
  obtain ⟨A, c, e, _⟩ := h.row.form;exact ⟨A, c, e⟩
theorem MV.ownne (h : MV S3 W vb rb v0 vT vS l cs wx) {k : Nat} (hk : vS.ownBlock = some k) : k ≠ vb ∧ k ≠ rb := by
  obtain ⟨h1, h2, h3, h4, _⟩ := h.o1;rcases h.o2 k hk with ⟨h5, _⟩ | ⟨_, h5⟩
  · exact ⟨fun e => by omega, fun e => by omega⟩
  · exact ⟨fun e => h1 (e ▸ h5), fun e => h2 (e ▸ h5)⟩
theorem MV.only {F : Nat → Prop} (h : MV S3 W vb rb v0 vT vS l cs wx) (ho : Only F wx w') (hF : ∀ k, F k → ¬ S3 k ∧ k ≠ vb ∧ k ≠ rb ∧ vS.ownBlock ≠ some k) : MV S3 W vb rb v0 vT vS l cs w' :=
  ⟨h.vblk.only ho (fun e => (hF _ e).2.1 rfl), h.rblk.only ho (fun e => (hF _ e).2.2.1 rfl), TL.keep h.tl (Kept.of_only ho fun g hg e => (hF g e).1 hg) (fun _ h => h), h.len, h.row.only ho (fun k _ hk e => (hF k e).2.2.2 hk) (fun k hk _ e => (hF k e).2.2.2 hk),
    fun k c x hc hx => sgL.keep (h.val k c x hc hx) (Kept.of_only ho fun g hg e => (hF g e).1 hg) (fun _ h => h), h.o1, h.o2, Nat.le_trans h.low ho.size⟩
theorem MV.up (h : MV S3 W vb rb v0 vT vS l cs wx) (hb : Bel wx w') : MV S3 W vb rb v0 vT vS l cs w' := h.only (Only.of_below (fun _ => False) hb) (fun _ h => h.elim)
theorem MV.sl (h : MV S3 W vb rb v0 vT vS l cs wx) : SL wx (fun k => S3 k ∨ vS.ownBlock = some k) vS l := h.row.lr sgL (by decide) h.len h.val (fun _ h => .inl h) (fun _ h => .inr h)
theorem MV.weak (h : MV S3 W vb rb v0 vT vS l cs wx) (hS : ∀ k, S3 k → S4 k) (hn : ∀ k, S4 k → ¬ S3 k → W ≤ k ∧ vS.ownBlock ≠ some k) : MV S4 W vb rb v0 vT vS l cs wx := by
  have hno : ∀ k, k < W → ¬ S3 k → ¬ S4 k := fun k hk h3 h4 => by have := (hn k h4 h3).1; omega
  exact ⟨h.vblk, h.rblk, TL.keep h.tl Kept.same hS, h.len, h.row, fun k c x hc hx => sgL.keep (h.val k c x hc hx) Kept.same hS, ⟨hno _ h.o1.2.2.1 h.o1.1, hno _ h.o1.2.2.2.1 h.o1.2.1, h.o1.2.2⟩, fun k hk => (h.o2 k hk).imp (fun e => ⟨e.1, fun h4 => (hn k h4 e.2).2 hk⟩) (fun e => ⟨e.1, hS k e.2⟩), h.low⟩
theorem MV.lowS (h : MV S3 W vb rb v0 vT vS l cs wx) : MV (fun k => S3 k ∧ k < wx.heap.size) W vb rb v0 vT vS l cs wx :=
  ⟨h.vblk, h.rblk, h.tl.low1, h.len, h.row, fun k c x hc hx => sgL.low (h.val k c x hc hx), ⟨fun e => h.o1.1 e.1, fun e => h.o1.2.1 e.1, h.o1.2.2⟩, fun k hk => (h.o2 k hk).imp (fun e => ⟨e.1, fun h4 => e.2 h4.1⟩) (fun e => ⟨e.1, e.2, Nat.lt_of_lt_of_le e.1 h.low⟩), h.low⟩
theorem MV.push {v8 : Value} {w8 : World} {x : Sg} {new : List Value} (h : MV S3 W vb rb v0 vT vS l cs wx) (hn : sgW wx S3 new x) (ho : w8.ownsRow W 58 11 v8 (l.length + 1) (cs.flatten ++ new)) (hon : Only (fun k => W ≤ k ∧ vS.ownBlock = some k) wx w8)
    (hd : (v8.ownBlock = vS.ownBlock ∧ ∃ k, vS.ownBlock = some k ∧ W ≤ k) ∨ v8.ownBlock = some wx.heap.size) (hlow : ∀ k, S3 k → k < wx.heap.size) :
    MV S3 W vb rb v0 vT v8 (l ++ [x]) (cs ++ [new]) (w8.setCell ⟨vb, 5, none⟩ v8) ∧ Only (fun k => k = vb ∨ (W ≤ k ∧ vS.ownBlock = some k)) wx (w8.setCell ⟨vb, 5, none⟩ v8) := by
  have ho2 : Only (· = vb) w8 (w8.setCell ⟨vb, 5, none⟩ v8) := (Only.refl (· = vb) w8).setCell (p := ⟨vb, 5, none⟩) (.inl rfl) v8
  have hof : ∀ k, S3 k → ¬ (W ≤ k ∧ vS.ownBlock = some k) := fun k hk e => by
    rcases h.o2 k e.2 with h5 | h5
    · exact h5.2 hk
    · have := e.1; omega
  have hk1 : Kept S3 wx w8 := Kept.of_only hon hof;have hk2 : Kept S3 w8 (w8.setCell ⟨vb, 5, none⟩ v8) := Kept.of_only ho2 (fun k hk e => h.o1.1 (e ▸ hk));have h8w : ∀ k, v8.ownBlock = some k → W ≤ k := fun k hk => (World.ownsRow.lt ho k hk).1;have hvW := h.o1;refine ⟨⟨(h.vblk.only hon (fun e => by have := e.1; omega)).set_ 5 v8, (h.rblk.only hon (fun e => by have := e.1; omega)).only ho2 (fun e => hvW.2.2.2.2 e.symm), TL.keep (TL.keep h.tl hk1 (fun _ h => h)) hk2 (fun _ h => h), by simp [h.len], .inl ?_, fun k c y hc hy => ?_, h.o1, fun k hk => .inl ⟨h8w k hk, ?_⟩, ?_⟩, ?_⟩
  · rw [List.length_append, List.flatten_append]
    simpa using zb_ ho ho2 (fun k hk e => by have := h8w k hk; omega)
  · rcases Nat.lt_or_ge k l.length with hlt | hge
    · rw [List.getElem?_append_left hlt] at hy
      rw [List.getElem?_append_left (by rw [h.len]; exact hlt)] at hc;exact sgL.keep (sgL.keep (h.val k c y hc hy) hk1 (fun _ h => h)) hk2 (fun _ h => h)
    · rw [List.getElem?_append_right hge] at hy
      rw [List.getElem?_append_right (by rw [h.len]; exact hge)] at hc;have h1 := List.mem_of_getElem? hy;have h2 := List.mem_of_getElem? hc;simp at h1 h2;subst h1 h2;exact sgL.keep (sgL.keep hn hk1 (fun _ h => h)) hk2 (fun _ h => h)
  · intro h3
    rcases hd with ⟨e, k', hk', hw'⟩ | e
    · rw [e] at hk
      exact hof k h3 ⟨by rw [hk'] at hk; injection hk with hk; omega, hk⟩
    · rw [hk] at e
      injection e with e;have := hlow k h3;omega
  · exact Nat.le_trans h.low (Nat.le_trans hon.size ho2.size)
  · exact (hon.mono fun k _ e => .inr e).trans_ ho2 (fun k _ e => .inl e)
end
structure MM (B : Nat) (S : Nat → Prop) (w : World) (bb sb : Nat) (vt vd vv vn : Value) (css : List (List Value)) (v0 : Vo) (vT : Value) (β1 : Be) (l1 : List Sg) (vS : Value) (cs : List (List Value)) (S3 : Nat → Prop) (wx : World) : Prop where
  mv : MV S3 (w.heap.size + 1 + 1) w.heap.size (w.heap.size + 1) v0 vT vS l1 cs wx
  bu : BU B S3 wx bb sb β1 vt vd vv vn css
  nx : Nx S (Mt bb sb vv vn) w S3 (Mt bb sb vv vn) wx
  mt : ∀ k, Mt bb sb vv vn k → k < w.heap.size
  lo : ∀ k, S3 k → k < wx.heap.size
section
variable {B : Nat} {S : Nat → Prop} {w wx w' : World} {bb sb : Nat} {β1 β2 : Be} {vt vd vv vn : Value} {css : List (List Value)} {v0 : Vo} {vT vS : Value} {l1 : List Sg} {cs : List (List Value)} {S3 : Nat → Prop}
theorem MM.far {F : Nat → Prop} (h : MM B S w bb sb vt vd vv vn css v0 vT β1 l1 vS cs S3 wx) (hF : ∀ k, F k → Mt bb sb vv vn k) : ∀ k, F k → ¬ S3 k ∧ k ≠ w.heap.size ∧ k ≠ w.heap.size + 1 ∧ vS.ownBlock ≠ some k := fun k e => by
  have h1 := hF k e;have h2 := h.mt k h1;refine ⟨fun h3 => h.bu.sd k h3 h1, by omega, by omega, fun h3 => ?_⟩;rcases h.mv.o2 k h3 with h4 | h4
  · omega
  · exact h.bu.sd k h4.2 h1
theorem MM.src (h : MM B S w bb sb vt vd vv vn css v0 vT β1 l1 vS cs S3 wx) (hs : SrcOk B w' sb) (ho : Only (· = sb) wx w') : MM B S w bb sb vt vd vv vn css v0 vT β1 l1 vS cs S3 w' :=
  ⟨h.mv.only ho (h.far fun _ e => .inr (.inl e)), h.bu.src_ hs ho, h.nx.trans (Nx.same (ho.mono fun _ _ e => .inr (.inl e))), h.mt, fun k hk => Nat.lt_of_lt_of_le (h.lo k hk) ho.size⟩
theorem MM.up (h : MM B S w bb sb vt vd vv vn css v0 vT β1 l1 vS cs S3 wx) (hb : Bel wx w') : MM B S w bb sb vt vd vv vn css v0 vT β1 l1 vS cs S3 w' :=
  ⟨h.mv.up hb, h.bu.up hb, h.nx.below hb, h.mt, fun k hk => Nat.lt_of_lt_of_le (h.lo k hk) hb.size⟩
theorem MM.area (h : MM B S w bb sb vt vd vv vn css v0 vT β1 l1 vS cs S3 wx) (hb : BU B S3 w' bb sb β2 vt vd vv vn css) (ho : Only (Mt bb sb vv vn) wx w') : MM B S w bb sb vt vd vv vn css v0 vT β2 l1 vS cs S3 w' :=
  ⟨h.mv.only ho (h.far fun _ e => e), hb, h.nx.trans (Nx.same ho), h.mt, fun k hk => Nat.lt_of_lt_of_le (h.lo k hk) ho.size⟩
theorem MM.own {F : Nat → Prop} (h : MM B S w bb sb vt vd vv vn css v0 vT β1 l1 vS cs S3 wx) (ho : Only F wx w') (hF : ∀ k, F k → w.heap.size + 1 + 1 ≤ k ∧ ¬ S3 k ∧ vS.ownBlock ≠ some k) : MM B S w bb sb vt vd vv vn css v0 vT β1 l1 vS cs S3 w' := by
  have hB := h.bu.base;have hbl := h.bu.blk.lt;refine ⟨h.mv.only ho (fun k e => ⟨(hF k e).2.1, by have := (hF k e).1; omega, by have := (hF k e).1; omega, (hF k e).2.2⟩), h.bu.far ho (fun k e hk => by have h1 := (hF k e).1; have h2 := h.mt k hk; omega) (fun k e => (hF k e).2.1) (fun k e => ?_), ⟨h.nx.only.trans_ ho (fun k hk e => by have := (hF k e).1; omega), h.nx.deep, h.nx.turn⟩, h.mt, fun k hk => Nat.lt_of_lt_of_le (h.lo k hk) ho.size⟩;have h1 := (hF k e).1;have h2 := h.mt bb (.inl rfl);have h3 := h.bu.low;omega
theorem MM.start (h : BU B S w bb sb β1 vt vd vv vn css) {g : Nat} (hT : TL w S vT v0.tags) (hg : g < w.heap.size ∧ S g) (hlen : cs.length = v0.segs.length) (hc : ∀ j u, cs.flatten[j]? = some u → w.cell? ⟨g, j, none⟩ = some u) (hv : ∀ (k : Nat) (c : List Value) (x : Sg), cs[k]? = some c → v0.segs[k]? = some x → sgW w S c x) :
    MM B S w bb sb vt vd vv vn css v0 vT β1 v0.segs (.slice (some ⟨g, 0, none⟩) v0.segs.length v0.segs.length) cs (fun k => S k ∧ k < w.heap.size) ((w.alloc (.cells #[.string v0.name, .int .u64 v0.id, .bool v0.hid, .bool v0.ro, vT, .slice (some ⟨g, 0, none⟩) v0.segs.length v0.segs.length] 53)).alloc (.cells #[.string ⟨#[]⟩, .int .u64 0, .bool false, .bool false, .slice none 0 0, .slice none 0 0] 53)) := by
  obtain ⟨w2, hw2⟩ : ∃ w2, w2 = ((w.alloc (.cells #[.string v0.name, .int .u64 v0.id, .bool v0.hid, .bool v0.ro, vT, .slice (some ⟨g, 0, none⟩) v0.segs.length v0.segs.length] 53)).alloc (.cells #[.string ⟨#[]⟩, .int .u64 0, .bool false, .bool false, .slice none 0 0, .slice none 0 0] 53)) := ⟨_, rfl⟩;have hb : Bel w w2 := hw2 ▸ ((Below.refl _ _).al _).al _;have hk := Kept.of_below (S := fun k => S k ∧ k < w.heap.size) hb;have hsz : w2.heap.size = w.heap.size + 1 + 1 := by rw [hw2]; simp
  have hl : cs.flatten.length = v0.segs.length * 11 := by
    rw [qa_ (size := 11) (fun c hc => ?_), hlen];obtain ⟨j, hj⟩ := List.getElem?_of_mem hc;have hlt := (List.getElem?_eq_some_iff.1 hj).1;exact sgL.len (hv j c _ hj (List.getElem?_eq_getElem (by rw [← hlen]; exact hlt)))
  rw [← hw2];refine ⟨⟨?_, ?_, TL.keep hT.low1 hk (fun _ h => h), hlen, .inr ⟨g, rfl, by omega, by omega, hl, fun j u hu => (hb.cell (p := ⟨g, j, none⟩) hg.1).trans (hc j u hu)⟩, fun k c x hc hx => sgL.keep (sgL.low (hv k c x hc hx)) hk (fun _ h => h), ⟨fun e => by have := e.2; omega, fun e => by have := e.2; omega, by omega, by omega, by omega⟩, fun k hk => .inr ?_, by omega⟩, h.lowS.up hb, (Nx.low (Only.refl _ _)).below hb, fun k hk => (h.mlt hk).2, fun k hk => by have := hk.2; omega⟩
  · rw [hw2]; exact (Blk.new w _ _).alloc _
  · have := Blk.new (w.alloc (.cells #[.string v0.name, .int .u64 v0.id, .bool v0.hid, .bool v0.ro, vT, .slice (some ⟨g, 0, none⟩) v0.segs.length v0.segs.length] 53)) 53 #[.string ⟨#[]⟩, .int .u64 0, .bool false, .bool false, .slice none 0 0, .slice none 0 0]
    rw [show (w.alloc (.cells #[.string v0.name, .int .u64 v0.id, .bool v0.hid, .bool v0.ro, vT, .slice (some ⟨g, 0, none⟩) v0.segs.length v0.segs.length] 53)).heap.size = w.heap.size + 1 by simp] at this;rw [hw2]; exact this
  · have : g = k := by injection hk
    subst this;exact ⟨by omega, hg.2, hg.1⟩
theorem MM.push {v8 : Value} {w8 : World} {x : Sg} {vA : Value} (h : MM B S w bb sb vt vd vv vn css v0 vT β1 l1 vS cs S3 wx) (hA : wx.ownsRow (w.heap.size + 1 + 1) 60 3 vA x.areas.length (aC x.areas)) (hn1 : ∀ k, vA.ownBlock = some k → vS.ownBlock ≠ some k) (hst : x.stale = [])
    (ho : w8.ownsRow (w.heap.size + 1 + 1) 58 11 v8 (l1.length + 1) (cs.flatten ++ (sgA x vA (.slice none 0 0)).toList)) (hon : Only (fun k => w.heap.size + 1 + 1 ≤ k ∧ vS.ownBlock = some k) wx w8) (hd : (v8.ownBlock = vS.ownBlock ∧ ∃ k, vS.ownBlock = some k ∧ w.heap.size + 1 + 1 ≤ k) ∨ v8.ownBlock = some wx.heap.size) :
    MM B S w bb sb vt vd vv vn css v0 vT β1 (l1 ++ [x]) v8 (cs ++ [(sgA x vA (.slice none 0 0)).toList]) (fun k => (S3 k ∨ vA.ownBlock = some k) ∧ k < wx.heap.size) (w8.setCell ⟨w.heap.size, 5, none⟩ v8) := by
  have hmt := h.mt;have hAW : ∀ k, vA.ownBlock = some k → w.heap.size + 1 + 1 ≤ k ∧ k < wx.heap.size := fun k hk => World.ownsRow.lt hA k hk;have hv1 := h.mv.weak (S4 := fun k => S3 k ∨ vA.ownBlock = some k) (fun k h => .inl h) (fun k h4 h3 => h4.elim (fun e => absurd e h3) (fun e => ⟨(hAW k e).1, hn1 k e⟩));have hv2 := hv1.lowS
  have hAL : AL wx (fun k => (S3 k ∨ vA.ownBlock = some k) ∧ k < wx.heap.size) vA x.areas := by
    have hos : OS arW (fun k => vA.ownBlock = some k) wx (w.heap.size + 1 + 1) 60 3 vA x.areas (x.areas.map fun s => (arA s).toList) := ⟨by simp, hA, fun k c y hc hy => by
      rw [List.getElem?_map, hy] at hc;simp at hc;exact hc.symm⟩
    exact hos.lr arL (by decide) (fun k hk => ⟨.inr hk, (hAW k hk).2⟩) (fun k hk => ⟨.inr hk, (hAW k hk).2⟩)
  have hsg : sgW wx (fun k => (S3 k ∨ vA.ownBlock = some k) ∧ k < wx.heap.size) (sgA x vA (.slice none 0 0)).toList x := ⟨vA, .slice none 0 0, rfl, hAL, by rw [hst]; exact LR.nil⟩;obtain ⟨hp1, hp2⟩ := hv2.push hsg ho hon hd (fun k hk => hk.2);have hbig : ∀ k, (fun k => k = w.heap.size ∨ (w.heap.size + 1 + 1 ≤ k ∧ vS.ownBlock = some k)) k → w.heap.size ≤ k := fun k e => by rcases e with e | e <;> omega
  have hb1 := h.bu.lowS.weak (S' := fun k => (S3 k ∨ vA.ownBlock = some k) ∧ k < wx.heap.size) (fun k hk => ⟨.inl hk.1, hk.2⟩) (fun k hk e => hk.1.elim (fun h3 => h.bu.sd k h3 e) (fun h3 => by have h1 := (hAW k h3).1; have h2 := hmt k e; omega));refine ⟨hp1, hb1.far hp2 (fun k e hk => by have h1 := hbig k e; have h2 := hmt k hk; omega) (fun k e hk => ?_) (fun k e => by have h1 := hbig k e; have h2 := hmt bb (.inl rfl); have h3 := h.bu.low; omega), ⟨h.nx.only.trans_ hp2 (fun k hk e => by have h1 := hbig k e; omega), fun k hk e => e.1.elim (h.nx.deep k hk) (fun h3 => by have h1 := (hAW k h3).1; omega), h.nx.turn⟩, hmt, fun k hk => Nat.lt_of_lt_of_le hk.2 hp2.size⟩;rcases e with e | ⟨e1, e2⟩
  · subst e
    rcases hk.1 with h3 | h3
    · exact h.mv.o1.1 h3
    · have h1 := (hAW _ h3).1; omega
  · rcases hk.1 with h3 | h3
    · rcases h.mv.o2 k e2 with h4 | h4
      · exact h4.2 h3
      · omega
    · exact hn1 k h3 e2
theorem MM.fresh (h : MM B S w bb sb vt vd vv vn css v0 vT β1 l1 vS cs S3 wx) {k : Nat} (hk : wx.heap.size ≤ k) : w.heap.size + 1 + 1 ≤ k ∧ ¬ S3 k ∧ vS.ownBlock ≠ some k :=
  ⟨Nat.le_trans h.mv.low hk, fun e => by have := h.lo k e; omega, fun e => by have := h.mv.row.lt e; omega⟩
theorem MM.ret (h : MM B S w bb sb vt vd vv vn css v0 vT β1 l1 vS cs S3 wx) (ho : Only (· = w.heap.size + 1) wx w') :
    TL w' (fun k => S3 k ∨ vS.ownBlock = some k) vT v0.tags ∧ SL w' (fun k => S3 k ∨ vS.ownBlock = some k) vS l1 ∧ BU B (fun k => S3 k ∨ vS.ownBlock = some k) w' bb sb β1 vt vd vv vn css ∧ Nx S (Mt bb sb vv vn) w (fun k => S3 k ∨ vS.ownBlock = some k) (Mt bb sb vv vn) w' := by
  have hof : ∀ k, (S3 k ∨ vS.ownBlock = some k) → ¬ k = w.heap.size + 1 := fun k hk e => hk.elim (fun h3 => h.mv.o1.2.1 (e ▸ h3)) (fun h3 => (h.mv.ownne h3).2 e);have hB := h.bu.low;have hB2 := h.mt bb (.inl rfl);have hb := (h.bu.weak (S' := fun k => S3 k ∨ vS.ownBlock = some k) (fun k h => .inl h) (fun k hk e => hk.elim (fun h3 => h.bu.sd k h3 e) (fun h3 => (h.mv.o2 k h3).elim (fun h4 => by have := h.mt k e; omega) (fun h4 => h.bu.sd k h4.2 e)))).far ho (fun k e hk => by have := h.mt k hk; omega) (fun k e hk => hof k hk e) (fun k e => by omega);exact ⟨TL.keep h.mv.tl (Kept.of_only ho fun k hk e => h.mv.o1.2.1 (e ▸ hk)) (fun _ h => .inl h), SL.keep h.mv.sl (Kept.of_only ho hof) (fun _ h => h), hb, ⟨h.nx.only.trans_ ho (fun k hk e => by omega), fun k hk e => e.elim (h.nx.deep k hk) (fun h3 => (h.mv.o2 k h3).elim (fun h4 => by omega) (fun h4 => h.nx.deep k hk h4.2)), h.nx.turn⟩⟩
end
theorem three {W : World} {g : Nat} {T : TypeId} {v0 v1 v2 : Value} (h : Blk W g T #[v0, v1, v2]) : W.cell? ⟨g, 0, none⟩ = some v0 ∧ W.cell? ⟨g, 1, none⟩ = some v1 ∧ W.cell? ⟨g, 2, none⟩ = some v2 :=
  ⟨by rw [h.cell 0]; rfl, by rw [h.cell 1]; rfl, by rw [h.cell 2]; rfl⟩
theorem YP_ {w : World} {g base size n : Nat} {T : TypeId} {cs : Array Value} (h : Blk w g T cs) (hn : cs.size = n * size) (hb : base ≤ g) (hm : n ≤ maxLen) : w.ownsRow base T size (.slice (some ⟨g, 0, none⟩) n n) n cs.toList :=
  ⟨by rw [Array.length_toList, hn], .inr ⟨g, n, cs, rfl, hb, h, Nat.le_refl _, hm, hn, by rw [← hn, ← Array.length_toList, List.take_length]⟩⟩
theorem yG_ {w : World} {base size n k : Nat} {e T : TypeId} {v : Value} {xs : List Value} {cs : Array Value} (h : w.ownsRow base e size v n xs) (hk : v.ownBlock = some k) (hb : Blk w k T cs) (hne : e ≠ T) : False := by
  rcases h.2 with ⟨rfl, _⟩ | ⟨g, cap, cur, rfl, _, hg, _⟩
  · cases hk
  · injection hk with hk
    subst hk;have h1 : w.heap[g]? = some (.cells cs T (0, 0)) := hb;have h2 := hg.symm.trans h1;injection h2 with h2;injection h2 with _ h2 _;exact hne h2
theorem ar_ne {w : World} {base size n size2 n2 k : Nat} {e T : TypeId} {v v2 : Value} {xs xs2 : List Value} (h : w.ownsRow base e size v n xs) (h2 : ARow w base T size2 v2 n2 xs2) (hk : v.ownBlock = some k) (hk2 : v2.ownBlock = some k) (hne : e ≠ T) : False := by
  have hb := (World.ownsRow.lt h k hk).1;rcases h2 with h2 | ⟨g, rfl, hg, _⟩
  · exact zS_ h h2 hne k hk hk2
  · injection hk2 with hk2
    subst hk2;have : g < base := hg;exact absurd hb (Nat.not_le_of_lt this)
theorem kx_ {g n c k : Nat} {A B : Prop} (hk : (Value.slice (some ⟨g, 0, none⟩) n c).ownBlock = some k) (e : A ∨ B) (h1 : A → ¬ g = k) (h2 : B → ¬ g = k) : False := by
  injection hk with hk;exact e.elim (fun a => h1 a hk) (fun b => h2 b hk)
theorem jV_ {w : World} {cs : Array Value} {T : TypeId} {n : Nat} (hn : cs.size = n) : Reads (w.alloc (.cells cs T)) (w.alloc (.cells cs T)).heap.size 1 (some ⟨w.heap.size, 0, none⟩) n cs.toList := by
  refine ⟨by simp [hn], fun _ => ⟨_, rfl, by simp, fun j u hu => ?_⟩⟩;rw [add_zero, (Blk.new w T cs).cell];simpa using hu
def arT (r : Option Ar) : Value := .tuple #[.agg (arA (r.getD zAr)), .bool r.isSome]
structure ArF (B : Nat) (S : Nat → Prop) (w : World) (bb sb : Nat) (vt vd vv vn : Value) (css : List (List Value)) (v0 : Vo) (vT : Value) (β1 : Be) (n : Int) (l1 : List Sg) (vS : Value) (cs : List (List Value)) (S3 : Nat → Prop) (wr : World) (d : Nat → Bool) (x : Nat → Value) (wx : World) : Prop where
  mm : ∃ β2, MM B S w bb sb vt vd vv vn css v0 vT β2 l1 vS cs S3 wx ∧ (d 1 = false → β2 = β1) ∧ (d 1 = true → ∃ dd r, AreaR β1 dd n r β2 ∧ x 1 = arT r ∧ (d 3 = true → x 3 = arT r) ∧ (d 4 = true → x 4 = .agg (arA (r.getD zAr))) ∧ (d 5 = true → x 5 = .bool r.isSome) ∧ (d 6 = true → ∃ q, x 2 = .pointer (some ⟨q, 0, none⟩) ∧ wr.heap.size ≤ q ∧ Blk wx q 60 (arA (r.getD zAr))))
  on : Only (fun k => Mt bb sb vv vn k ∨ wr.heap.size ≤ k) wr wx
  f0 : d 0 = true → ∃ dd : Nat, dd < β1.g.disks.length ∧ x 0 = .int .i64 (dd : Int)
  f2 : d 2 = true → d 6 = false → ∃ q, x 2 = .pointer (some ⟨q, 0, none⟩) ∧ wr.heap.size ≤ q ∧ Blk wx q 60 #[.bool false, .string ⟨#[]⟩, .int .i64 0]
section
variable {B : Nat} {S : Nat → Prop} {w wr wx w' : World} {bb sb : Nat} {β1 β2 : Be} {vt vd vv vn : Value} {css : List (List Value)} {v0 : Vo} {vT vS : Value} {n : Int} {l1 : List Sg} {cs : List (List Value)} {S3 : Nat → Prop} {d : Nat → Bool} {x : Nat → Value}
theorem ArF.start (h : MM B S w bb sb vt vd vv vn css v0 vT β1 l1 vS cs S3 wr) (x : Nat → Value) : ArF B S w bb sb vt vd vv vn css v0 vT β1 n l1 vS cs S3 wr none_ x wr.drew :=
  ⟨⟨β1, h.up (Below.refl _ _).drew, fun _ => rfl, (fun h => by cases h)⟩, (Only.refl _ _).drew, (fun h => by cases h), (fun h => by cases h)⟩
theorem ArF.cells (h : ArF B S w bb sb vt vd vv vn css v0 vT β1 n l1 vS cs S3 wr d x wx) : wx.cell? ⟨bb, 0, none⟩ = some (.pointer (some ⟨sb, 0, none⟩)) ∧ wx.cell? ⟨bb, 7, none⟩ = some vd := by
  obtain ⟨β2, hm, _⟩ := h.mm;exact ⟨hm.bu.cells.1, hm.bu.cells.2.2.2.2.2.2.2.1⟩
theorem ArF.mt (h : ArF B S w bb sb vt vd vv vn css v0 vT β1 n l1 vS cs S3 wr d x wx) (hw : w.heap.size ≤ wr.heap.size) : ∀ k, Mt bb sb vv vn k → k < wr.heap.size := fun k hk => by
  obtain ⟨β2, hm, _⟩ := h.mm;exact Nat.lt_of_lt_of_le (hm.mt k hk) hw
theorem ArF.s0 {dd : Nat} (h : ArF B S w bb sb vt vd vv vn css v0 vT β1 n l1 vS cs S3 wr d x wx) (hw : w.heap.size ≤ wr.heap.size) (h1 : d 1 = false) (hd : dd < β1.g.disks.length) (hs : SrcOk B w' sb) (ho : Only (· = sb) wx w') : ArF B S w bb sb vt vd vv vn css v0 vT β1 n l1 vS cs S3 wr (upd d 0 true) (upd x 0 (.int .i64 (dd : Int))) w' := by
  have hmt := h.mt hw;obtain ⟨β2, hm, e1, _⟩ := h.mm;refine ⟨⟨β2, hm.src hs ho, e1, fun e => tf e h1⟩, h.on.trans (ho.mono fun _ _ e => .inl (.inr (.inl e))), fun _ => ⟨dd, hd, rfl⟩, fun e e6 => ?_⟩;obtain ⟨q, e, hq, hb⟩ := h.f2 e e6;exact ⟨q, e, hq, zC_ hb hq (ho.mono fun _ _ e => .inr (.inl e)) hmt⟩
theorem ArF.s1 {dd : Nat} {r : Option Ar} (h : ArF B S w bb sb vt vd vv vn css v0 vT β1 n l1 vS cs S3 wr d x wx) (hw : w.heap.size ≤ wr.heap.size) (h3 : d 3 = false) (h4 : d 4 = false) (h5 : d 5 = false) (h6 : d 6 = false) (hr : AreaR β1 dd n r β2) (hb : BU B S3 w' bb sb β2 vt vd vv vn css) (ho : Only (Mt bb sb vv vn) wx w') :
    ArF B S w bb sb vt vd vv vn css v0 vT β1 n l1 vS cs S3 wr (upd d 1 true) (upd x 1 (arT r)) w' := by
  have hmt := h.mt hw;obtain ⟨β', hm, e1, _⟩ := h.mm;refine ⟨⟨β2, hm.area hb ho, fun e => (by cases e), fun _ => ⟨dd, r, hr, rfl, fun e => tf e h3, fun e => tf e h4, fun e => tf e h5, fun e => tf e h6⟩⟩, h.on.trans (ho.mono fun _ _ e => .inl e), h.f0, fun e e6 => ?_⟩;obtain ⟨q, e, hq, hb⟩ := h.f2 e e6;exact ⟨q, e, hq, zC_ hb hq ho hmt⟩
theorem ArF.s2 (h : ArF B S w bb sb vt vd vv vn css v0 vT β1 n l1 vS cs S3 wr d x wx) (h6 : d 6 = false) : ArF B S w bb sb vt vd vv vn css v0 vT β1 n l1 vS cs S3 wr (upd d 2 true) (upd x 2 (.pointer (some ⟨wx.heap.size, 0, none⟩))) (wx.alloc (.cells #[.bool false, .string ⟨#[]⟩, .int .i64 0] 60)) := by
  obtain ⟨β', hm, e1, e2⟩ := h.mm;refine ⟨⟨β', hm.up ((Below.refl _ _).al _), e1, fun e => ?_⟩, h.on.alloc _, h.f0, fun _ _ => ⟨_, rfl, h.on.size, Blk.new wx _ _⟩⟩;obtain ⟨dd, r, hr, q1, q3, q4, q5, q6⟩ := e2 e;exact ⟨dd, r, hr, q1, q3, q4, q5, fun e => tf e h6⟩
theorem ArF.tu (h : ArF B S w bb sb vt vd vv vn css v0 vT β1 n l1 vS cs S3 wr d x wx) (h1 : d 1 = true) : ∃ β2 dd r, MM B S w bb sb vt vd vv vn css v0 vT β2 l1 vS cs S3 wx ∧ AreaR β1 dd n r β2 ∧ x 1 = arT r ∧ (d 3 = true → x 3 = arT r) ∧ (d 4 = true → x 4 = .agg (arA (r.getD zAr))) ∧ (d 5 = true → x 5 = .bool r.isSome) ∧ (d 6 = true → ∃ q, x 2 = .pointer (some ⟨q, 0, none⟩) ∧ wr.heap.size ≤ q ∧ Blk wx q 60 (arA (r.getD zAr))) := by
  obtain ⟨β', hm, _, e2⟩ := h.mm;obtain ⟨dd, r, hr⟩ := e2 h1;exact ⟨β', dd, r, hm, hr⟩
theorem ArF.s3 {β2 : Be} {dd : Nat} {r : Option Ar} (h : ArF B S w bb sb vt vd vv vn css v0 vT β1 n l1 vS cs S3 wr d x wx) (h1 : d 1 = true) (hm : MM B S w bb sb vt vd vv vn css v0 vT β2 l1 vS cs S3 wx) (hr : AreaR β1 dd n r β2 ∧ x 1 = arT r ∧ (d 3 = true → x 3 = arT r) ∧ (d 4 = true → x 4 = .agg (arA (r.getD zAr))) ∧ (d 5 = true → x 5 = .bool r.isSome) ∧ (d 6 = true → ∃ q, x 2 = .pointer (some ⟨q, 0, none⟩) ∧ wr.heap.size ≤ q ∧ Blk wx q 60 (arA (r.getD zAr)))) :
    ArF B S w bb sb vt vd vv vn css v0 vT β1 n l1 vS cs S3 wr (upd d 3 true) (upd x 3 (arT r)) wx :=
  ⟨⟨β2, hm, fun e => tf h1 e, fun _ => ⟨dd, r, hr.1, hr.2.1, fun _ => rfl, hr.2.2.2⟩⟩, h.on, h.f0, h.f2⟩
theorem ArF.s4 {β2 : Be} {dd : Nat} {r : Option Ar} (h : ArF B S w bb sb vt vd vv vn css v0 vT β1 n l1 vS cs S3 wr d x wx) (h1 : d 1 = true) (hm : MM B S w bb sb vt vd vv vn css v0 vT β2 l1 vS cs S3 wx) (hr : AreaR β1 dd n r β2 ∧ x 1 = arT r ∧ (d 3 = true → x 3 = arT r) ∧ (d 4 = true → x 4 = .agg (arA (r.getD zAr))) ∧ (d 5 = true → x 5 = .bool r.isSome) ∧ (d 6 = true → ∃ q, x 2 = .pointer (some ⟨q, 0, none⟩) ∧ wr.heap.size ≤ q ∧ Blk wx q 60 (arA (r.getD zAr)))) :
    ArF B S w bb sb vt vd vv vn css v0 vT β1 n l1 vS cs S3 wr (upd d 4 true) (upd x 4 (.agg (arA (r.getD zAr)))) wx :=
  ⟨⟨β2, hm, fun e => tf h1 e, fun _ => ⟨dd, r, hr.1, hr.2.1, hr.2.2.1, fun _ => rfl, hr.2.2.2.2⟩⟩, h.on, h.f0, h.f2⟩
theorem ArF.s5 {β2 : Be} {dd : Nat} {r : Option Ar} (h : ArF B S w bb sb vt vd vv vn css v0 vT β1 n l1 vS cs S3 wr d x wx) (h1 : d 1 = true) (hm : MM B S w bb sb vt vd vv vn css v0 vT β2 l1 vS cs S3 wx) (hr : AreaR β1 dd n r β2 ∧ x 1 = arT r ∧ (d 3 = true → x 3 = arT r) ∧ (d 4 = true → x 4 = .agg (arA (r.getD zAr))) ∧ (d 5 = true → x 5 = .bool r.isSome) ∧ (d 6 = true → ∃ q, x 2 = .pointer (some ⟨q, 0, none⟩) ∧ wr.heap.size ≤ q ∧ Blk wx q 60 (arA (r.getD zAr)))) :
    ArF B S w bb sb vt vd vv vn css v0 vT β1 n l1 vS cs S3 wr (upd d 5 true) (upd x 5 (.bool r.isSome)) wx :=
  ⟨⟨β2, hm, fun e => tf h1 e, fun _ => ⟨dd, r, hr.1, hr.2.1, hr.2.2.1, hr.2.2.2.1, fun _ => rfl, hr.2.2.2.2.2⟩⟩, h.on, h.f0, h.f2⟩
theorem ArF.s6 {β2 : Be} {dd q : Nat} {r : Option Ar} {v : Value} (h : ArF B S w bb sb vt vd vv vn css v0 vT β1 n l1 vS cs S3 wr d x wx) (h0 : MM B S w bb sb vt vd vv vn css v0 vT β1 l1 vS cs S3 wr) (h1 : d 1 = true) (hm : MM B S w bb sb vt vd vv vn css v0 vT β2 l1 vS cs S3 wx) (hr : AreaR β1 dd n r β2 ∧ x 1 = arT r ∧ (d 3 = true → x 3 = arT r) ∧ (d 4 = true → x 4 = .agg (arA (r.getD zAr))) ∧ (d 5 = true → x 5 = .bool r.isSome) ∧ (d 6 = true → ∃ q, x 2 = .pointer (some ⟨q, 0, none⟩) ∧ wr.heap.size ≤ q ∧ Blk wx q 60 (arA (r.getD zAr)))) (hq : x 2 = .pointer (some ⟨q, 0, none⟩)) (hq2 : wr.heap.size ≤ q) (hb : Blk wx q 60 #[.bool false, .string ⟨#[]⟩, .int .i64 0]) :
    ArF B S w bb sb vt vd vv vn css v0 vT β1 n l1 vS cs S3 wr (upd d 6 true) (upd x 6 v) (((wx.setCell ⟨q, 0, none⟩ (.bool (r.getD zAr).vol)).setCell ⟨q, 1, none⟩ (.string (r.getD zAr).on)).setCell ⟨q, 2, none⟩ (.int .i64 (r.getD zAr).start)) := by
  have ho : Only (· = q) wx (((wx.setCell ⟨q, 0, none⟩ (.bool (r.getD zAr).vol)).setCell ⟨q, 1, none⟩ (.string (r.getD zAr).on)).setCell ⟨q, 2, none⟩ (.int .i64 (r.getD zAr).start)) := (((Only.refl (· = q) wx).setCell (p := ⟨q, 0, none⟩) (.inl rfl) _).setCell (p := ⟨q, 1, none⟩) (.inl rfl) _).setCell (p := ⟨q, 2, none⟩) (.inl rfl) _;have hb3 := ((hb.set_ 0 (.bool (r.getD zAr).vol)).set_ 1 (.string (r.getD zAr).on)).set_ 2 (.int .i64 (r.getD zAr).start)
  have hb4 : Blk (((wx.setCell ⟨q, 0, none⟩ (.bool (r.getD zAr).vol)).setCell ⟨q, 1, none⟩ (.string (r.getD zAr).on)).setCell ⟨q, 2, none⟩ (.int .i64 (r.getD zAr).start)) q 60 (arA (r.getD zAr)) := by
    unfold arA; simpa only [tS] using hb3
  exact ⟨⟨β2, hm.own ho (fun k e => h0.fresh (by rw [e]; exact hq2)), fun e => tf h1 e, fun _ => ⟨dd, r, hr.1, hr.2.1, hr.2.2.1, hr.2.2.2.1, hr.2.2.2.2.1, fun _ => ⟨q, hq, hq2, hb4⟩⟩⟩, h.on.trans (ho.mono fun k _ e => .inr (by rw [e]; exact hq2)), h.f0, fun _ e => by cases e⟩
theorem ArF.bu (h : ArF B S w bb sb vt vd vv vn css v0 vT β1 n l1 vS cs S3 wr d x wx) (h1 : d 1 = false) : MM B S w bb sb vt vd vv vn css v0 vT β1 l1 vS cs S3 wx := by
  obtain ⟨β', hm, e1, e2⟩ := h.mm;rw [e1 h1] at hm;exact hm
end
structure AG (M : World → Prop) (W xb q : Nat) (XC : Array Value) (vA : Value) (al : List Ar) (a2 : Ar) (d : Nat → Bool) (x : Nat → Value) (wx : World) : Prop where
  mm : M wx
  xblk : Blk wx xb 58 XC
  qblk : Blk wx q 60 (arA a2)
  low : W ≤ wx.heap.size
  ra : d 2 = false → wx.ownsRow W 60 3 vA al.length (aC al)
  f0 : d 0 = true → x 0 = vA
  f1 : d 1 = true → d 2 = false → ∃ g, x 1 = .slice (some ⟨g, 0, none⟩) 1 1 ∧ Blk wx g 60 (arA a2)
  f2 : d 2 = true → wx.ownsRow W 60 3 (x 2) (al.length + 1) (aC al ++ (arA a2).toList)
section
variable {M : World → Prop} {W xb q : Nat} {XC : Array Value} {vA v8 : Value} {al : List Ar} {a2 : Ar} {d : Nat → Bool} {x : Nat → Value} {wx w' : World}
theorem AG.s0 (h : AG M W xb q XC vA al a2 d x wx) : AG M W xb q XC vA al a2 (upd d 0 true) (upd x 0 vA) wx := ⟨h.mm, h.xblk, h.qblk, h.low, h.ra, fun _ => rfl, h.f1, h.f2⟩
theorem AG.s1 (hM : ∀ w w', M w → Bel w w' → M w') (h : AG M W xb q XC vA al a2 d x wx) (h2 : d 2 = false) : AG M W xb q XC vA al a2 (upd d 1 true) (upd x 1 (.slice (some ⟨wx.heap.size, 0, none⟩) 1 1)) (wx.alloc (.cells (arA a2) 60)) :=
  ⟨hM _ _ h.mm ((Below.refl _ _).al _), h.xblk.alloc _, h.qblk.alloc _, Nat.le_trans h.low (by simp), fun _ => yk_ (h.ra h2) _, h.f0, fun _ _ => ⟨_, rfl, Blk.new wx _ _⟩, fun e => tf e h2⟩
theorem AG.s2 (hM : ∀ w w', M w → Only (fun k => vA.ownBlock = some k) w w' → M w') (hx : vA.ownBlock ≠ some xb) (hq : vA.ownBlock ≠ some q) (h : AG M W xb q XC vA al a2 d x wx) (ho : w'.ownsRow W 60 3 v8 (al.length + 1) (aC al ++ (arA a2).toList)) (hg : wx.grownBy w' vA.ownBlock) : AG M W xb q XC vA al a2 (upd d 2 true) (upd x 2 v8) w' := by
  have hon : Only (fun k => vA.ownBlock = some k) wx w' := (Only.refl (fun k => vA.ownBlock = some k) _).grown hg (fun k e => .inl e);exact ⟨hM _ _ h.mm hon, h.xblk.only hon hx, h.qblk.only hon hq, Nat.le_trans h.low hon.size, (fun e => by cases e), h.f0, (fun _ e => by cases e), fun _ => ho⟩
end
end Go.Proofs.YtdkcfgahdcpkkaaDoor
