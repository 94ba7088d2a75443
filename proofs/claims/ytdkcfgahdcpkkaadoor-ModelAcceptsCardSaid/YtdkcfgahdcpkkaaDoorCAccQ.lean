/- Groups that are made: each step keeps what is carried along. -/
import Derived.Test.YtdkcfgahdcpkkaaDoorCGr
import Derived.Test.YtdkcfgahdcpkkaaDoorCCalm
import Derived.Test.YtdkcfgahdcpkkaaDoorCFlags
import Derived.Test.YtdkcfgahdcpkkaaDoorCUses
import Derived.Test.YtdkcfgahdcpkkaaDoorCChk8P
import Derived.Test.YtdkcfgahdcpkkaaDoorCAwake
import Derived.Test.YtdkcfgahdcpkkaaDoorCFit
import Derived.Test.YtdkcfgahdcpkkaaDoorCGlo
set_option linter.all false
namespace Go.Proofs.YtdkcfgahdcpkkaaDoor
open Go.RowKit
set_option maxRecDepth 100000
/-! Counting. -/
def cnt (f : Int → Bool) (x : Int) (n : Nat) : Nat := ((List.range n).filter (fun j : Nat => f (x + (j : Int)))).length
def kl_ (l : List Pl) : Prop := l.Pairwise (fun q p => ¬ (q.disk = p.disk ∧ max q.start p.start < min (q.start + q.len) (p.start + p.len)))
theorem ZC_ {l : List Pl} {p : Pl} (h : kl_ l) (hh : hitB l p = false) : kl_ (l ++ [p]) := by
 unfold kl_ at h ⊢
 rw [List.pairwise_append]
 refine ⟨h, List.pairwise_singleton _ _, fun q hq p' hp' => ?_⟩
 simp at hp'
 subst hp'
 unfold hitB at hh
 rw [List.any_eq_false] at hh
 have := hh q hq
 simpa using this
/-! Identities. -/
theorem j5_ {g a : Int} (ha : 1 ≤ a ∧ a ≤ 1000000) : idV g a = (IntKind.u64.wrap (g * 2862933555777941757) + a * 3037000493) % 18446744073709551616 := by
 unfold idV
 rw [IntKind.wrap_u64 (_ + _), IntWalk.u64_in a (by omega), IntWalk.u64_in (a * 3037000493) (by omega)]
theorem Jd_ {x p q : Int} (hp : 0 ≤ p ∧ p < 18446744073709551616) (hq : 0 ≤ q ∧ q < 18446744073709551616) (h : (x + p) % 18446744073709551616 = (x + q) % 18446744073709551616) : p = q := by
 omega
theorem mulB {a : Int} (ha : 1 ≤ a ∧ a ≤ 1000000) : 0 ≤ a * 3037000493 ∧ a * 3037000493 < 18446744073709551616 := by omega
theorem Jj_ {g a b : Int} (ha : 1 ≤ a ∧ a ≤ 1000000) (hb : 1 ≤ b ∧ b ≤ 1000000) (h : idV g a = idV g b) : a = b := by
 rw [j5_ ha, j5_ hb] at h
 have h2 := Jd_ (mulB ha) (mulB hb) h
 clear h
 omega
def IdsOk (gid nx : Int) (vs : List Vo) : Prop := ∃ ks : List Int, vs.map (·.id) = ks.map (idV gid) ∧ ks.Pairwise (· < ·) ∧ ∀ k ∈ ks, 1 ≤ k ∧ k ≤ nx
theorem IdsOk.mono {gid nx nx' : Int} {vs : List Vo} (h : IdsOk gid nx vs) (hn : nx ≤ nx') : IdsOk gid nx' vs := by
 obtain ⟨ks, h1, h2, h3⟩ := h
 exact ⟨ks, h1, h2, fun k hk => by have := h3 k hk; omega⟩
theorem IdsOk.add {gid nx : Int} {vs : List Vo} {v : Vo} (h : IdsOk gid nx vs) (h0 : 0 ≤ nx) (hv : v.id = idV gid (nx + 1)) : IdsOk gid (nx + 1) (vs ++ [v]) := by
 obtain ⟨ks, h1, h2, h3⟩ := h
 refine ⟨ks ++ [nx + 1], by simp [h1, hv], ?_, fun k hk => ?_⟩
 ·rw [List.pairwise_append]
  refine ⟨h2, by simp, fun a ha b hb => ?_⟩;simp at hb; subst hb;have := h3 a ha; omega
 ·rcases List.mem_append.1 hk with hk | hk
  ·have := h3 k hk; omega
  ·simp at hk; omega
theorem IdsOk.nodup {gid nx : Int} {vs : List Vo} (h : IdsOk gid nx vs) (hn : nx ≤ 1000000) : (vs.map (·.id)).Nodup := by
 obtain ⟨ks, h1, h2, h3⟩ := h
 rw [h1]
 unfold List.Nodup
 rw [List.pairwise_map]
 refine List.Pairwise.imp_of_mem (fun {a b} ha hb hab e => ?_) h2
 have := Jj_ (by have := h3 a ha; omega) (by have := h3 b hb; omega) e
 omega
/-! Places. -/
structure PlOk (ds : List Dk) (nx : List Int) (ps : List Pl) : Prop where
 at_ : ∀ p ∈ ps, 1 ≤ p.len ∧ 0 ≤ p.start ∧ ∃ (d : Nat) (dk : Dk) (z : Int), ds[d]? = some dk ∧ nx[d]? = some z ∧ p.disk = dk.name ∧ p.start + p.len ≤ z
 apart : kl_ ps
theorem PlOk.nil {ds : List Dk} {nx : List Int} : PlOk ds nx [] := ⟨fun p hp => (by cases hp), List.Pairwise.nil⟩
def DkN (ds : List Dk) : Prop := ∀ (d d' : Nat) (x x' : Dk), ds[d]? = some x → ds[d']? = some x' → x.name = x'.name → d = d'
theorem PlOk.skip {ds : List Dk} {nx : List Int} {ps : List Pl} {d : Nat} {z z' : Int} (h : PlOk ds nx ps) (hz : nx[d]? = some z) (hle : z ≤ z') : PlOk ds (nx.set d z') ps := by
 refine ⟨fun p hp => ?_, h.apart⟩
 obtain ⟨h1, h2, d', dk, y, h3, h4, h5, h6⟩ := h.at_ p hp
 refine ⟨h1, h2, d', dk, ?_⟩
 by_cases e : d' = d
 ·subst e
  rw [hz] at h4; injection h4 with h4;exact ⟨z', h3, by obtain ⟨hl, _⟩ := List.getElem?_eq_some_iff.1 hz; simp [hl], h5, by omega⟩
 ·exact ⟨y, h3, by rw [List.getElem?_set_ne (Ne.symm e)]; exact h4, h5, h6⟩
theorem PlOk.snoc {ds : List Dk} {nx : List Int} {ps : List Pl} {d : Nat} {z s n : Int} {dk : Dk} (h : PlOk ds nx ps) (hd : DkN ds) (hdk : ds[d]? = some dk) (hz : nx[d]? = some z) (h0 : 0 ≤ z) (hs : z ≤ s) (hn : 1 ≤ n) : PlOk ds (nx.set d (s + n)) (ps ++ [⟨dk.name, s, n⟩]) := by
 have hm := h.skip hz (show z ≤ s + n by omega)
 refine ⟨fun p hp => ?_, ZC_ h.apart ?_⟩
 ·rcases List.mem_append.1 hp with hp | hp
  ·exact hm.at_ p hp
  ·simp at hp; subst hp
   obtain ⟨hl, _⟩ := List.getElem?_eq_some_iff.1 hz;exact ⟨hn, by show 0 ≤ s; omega, d, dk, s + n, hdk, by simp [hl], rfl, Int.le_refl _⟩
 ·unfold hitB
  rw [List.any_eq_false];intro q hq;obtain ⟨h1, h2, d', dk', y, h3, h4, h5, h6⟩ := h.at_ q hq;simp only [Bool.and_eq_true, decide_eq_true_eq, not_and];intro e hmx;have hdd : d' = d := hd d' d dk' dk h3 hdk (h5.symm.trans e);subst hdd;rw [hz] at h4; injection h4 with h4;omega
theorem AreaR.none_ {β β' : Be} {d : Nat} {n : Int} (h : AreaR β d n none β') : β' = β := by
 obtain ⟨dk, z, _, _, ⟨_, e, _⟩ | ⟨gap, _, _, _, e, _⟩⟩ := h
 ·exact e
 ·cases e
structure Pb (β : Be) (ps : List Pl) : Prop where
 pl : PlOk β.g.disks β.next ps
 ok : BeOk β
 dn : DkN β.g.disks
theorem Pb.take {β β' : Be} {d : Nat} {n : Int} {a : Ar} {ps : List Pl} (h : Pb β ps) (hr : AreaR β d n (some a) β') (hn : 1 ≤ n) : Pb β' (ps ++ [⟨a.on, a.start, n⟩]) ∧ a.vol = false ∧ Pb β' ps := by
 have hok := hr.ok (by omega) h.ok
 have hg := hr.g
 obtain ⟨dk, z, h1, h2, ⟨e, _⟩ | ⟨gap, g0, g1, hle, e, rfl⟩⟩ := hr
 ·cases e
 ·injection e with e; subst e
  have hz0 := h.ok.nz d z dk h2 h1;exact ⟨⟨h.pl.snoc h.dn h1 h2 hz0.1 (by omega) hn, hok, h.dn⟩, rfl, ⟨h.pl.skip h2 (by omega), hok, h.dn⟩⟩
theorem Pb.next {β : Be} {ps : List Pl} (h : Pb β ps) : Pb (zK_ β) ps := ⟨h.pl, ⟨h.ok.nd, h.ok.nn, h.ok.ext, h.ok.nz, h.ok.ex⟩, h.dn⟩
theorem Pb.of {β β' : Be} {ps : List Pl} (h : Pb β ps) (h1 : β'.g.disks = β.g.disks) (h2 : β'.next = β.next) (h3 : β'.g.extent = β.g.extent) : Pb β' ps := by
 refine ⟨by rw [h1, h2]; exact h.pl, ⟨by rw [h1]; exact h.ok.nd, by rw [h1, h2]; exact h.ok.nn, by rw [h1]; exact h.ok.ext, by rw [h1, h2]; exact h.ok.nz, by rw [h3]; exact h.ok.ex⟩, by rw [h1]; exact h.dn⟩
theorem Pb.less {β : Be} {ps qs : List Pl} (h : Pb β (ps ++ qs)) : Pb β ps := ⟨⟨fun p hp => h.pl.at_ p (List.mem_append_left _ hp), (List.pairwise_append.1 h.pl.apart).1⟩, h.ok, h.dn⟩
theorem YK_ (l : List Sg) (s : Sg) : plsV (l ++ [s]) = plsV l ++ plsS s := by simp [plsV]
def plsG (vs : List Vo) : List Pl := vs.flatMap (fun v => plsV v.segs)
theorem jk_ (vs : List Vo) (v : Vo) : plsG (vs ++ [v]) = plsG vs ++ plsV v.segs := by simp [plsG]
theorem YI_ {n : Int} {a : Ar} (ha : a.vol = false) : plsV [linSeg n a] = [⟨a.on, a.start, n⟩] := by
 simp [plsV, plsS, linSeg, ha, plOf, zZ_]
theorem jP_ {k : Nat} {n : Int} (hk : 0 < k) : ((k : Int) * n).tdiv k = n := by
 rw [Int.mul_comm]
 exact Int.mul_tdiv_cancel n (by omega)
theorem AreasR.pb {n : Int} {k : Nat} {β β' : Be} {l : List Ar} {ps : List Pl} (h : AreasR n k β l β') (hp : Pb β ps) (hn : 1 ≤ n) : Pb β' (ps ++ l.map fun a => ⟨a.on, a.start, n⟩) ∧ (∀ a ∈ l, a.vol = false) ∧ l.length = k := by
 induction h with
 | nil => exact ⟨by simpa using hp, by simp, rfl⟩
 | snoc h hr ih =>
  obtain ⟨h1, h2, h3⟩ := ih hp;obtain ⟨h4, h5, _⟩ := h1.take hr hn;refine ⟨by rw [List.map_append, ← List.append_assoc]; exact h4, fun a ha => ?_, by simp [h3]⟩;rcases List.mem_append.1 ha with ha | ha
  ·exact h2 a ha
  ·simp at ha; subst ha; exact h5
theorem q9_ {α : Type} {p : α → Bool} {l : List α} (h : ∀ a ∈ l, p a = true) : l.filter p = l := List.filter_eq_self.2 h
theorem Q7_ {name : ByteArray} {id n : Int} {k : Nat} {l : List Ar} (h1 : ∀ a ∈ l, a.vol = false) (h2 : l.length = k) (hk : 0 < k) : plsV (Zs_ name id k n l).segs = l.map fun a => ⟨a.on, a.start, n⟩ := by
 show plsV [_] = _
 unfold plsV
 rw [List.flatMap_cons, List.flatMap_nil, List.append_nil]
 unfold plsS
 rw [show List.filter (fun a : Ar => !a.vol) l = l from q9_ (fun a ha => by rw [h1 a ha]; rfl)]
 refine List.map_congr_left fun a _ => ?_
 unfold plOf zZ_
 dsimp only
 rw [if_pos ⟨rfl, by omega⟩, h2, jP_ hk]
theorem MoreS.pb {β β' : Be} {l l' : List Sg} {ps : List Pl} (h : MoreS β l β' l') (hp : Pb β (ps ++ plsV l)) : Pb β' (ps ++ plsV l') := by
 have hone : ∀ (β1 : Be) (s : Sg), Pb β1 (ps ++ plsV l ++ plsS s) → Pb β1 (ps ++ plsV (l ++ [s])) := fun β1 s h => by rw [YK_, ← List.append_assoc]; exact h
 obtain ⟨n, h1, h3, ⟨rfl, kind, hk, rfl⟩ | ⟨d, hr, rfl⟩ | ⟨d, a, hr, rfl⟩ | ⟨d, a, β1, d2, hr, hr2, rfl⟩ | ⟨d, a, β1, d2, a2, k, hr, hr2, _, _, rfl⟩⟩ := h
 ·refine hone _ _ ?_
  rw [show plsS (moreSg (sumL l) n kind [] 0) = [] from rfl, List.append_nil];exact hp
 ·rw [hr.none_]; exact hp
 ·obtain ⟨h4, h5, _⟩ := hp.take hr h1
  refine hone _ _ ?_;rw [show plsS (moreSg (sumL l) n 1 [a] 0) = [⟨a.on, a.start, n⟩] by simp [plsS, moreSg, h5, plOf, zZ_]];exact h4
 ·rw [hr2.none_]; exact (hp.take hr h1).2.2
 ·obtain ⟨h4, h5, _⟩ := hp.take hr h1
  obtain ⟨h6, h7, _⟩ := h4.take hr2 h1;refine hone _ _ ?_;rw [show plsS (moreSg (sumL l) n 8 [a, a2] k) = [⟨a.on, a.start, n⟩] ++ [⟨a2.on, a2.start, n⟩] by simp [plsS, moreSg, h5, h7, plOf, zZ_], ← List.append_assoc];exact h6
theorem MoreR.pb {k : Nat} {β β' : Be} {l l' : List Sg} {ps : List Pl} (h : MoreR k β l β' l') (hp : Pb β (ps ++ plsV l)) : Pb β' (ps ++ plsV l') := by
 induction h with
 | nil => exact hp
 | snoc h hs ih => exact hs.pb (ih hp)
/-! Segments behind one another. -/
theorem q0_ {e : Int} {s : Sg} : ∀ (l : List Sg) (st : Int), ym_ e false st l = 0 → zm_ e s (st + sumL l) = true → z6_ s.kind = true → ym_ e false st (l ++ [s]) = 0
 | [], st, _, hf, hs => by
  have hf' : zm_ e s st = true := by simpa [sumL] using hf
  simp [ym_, hf', hs]
 | x :: l, st, h, hf, hs => by
  rw [List.cons_append];unfold ym_ at h ⊢;by_cases h1 : zm_ e x st = false
  ·rw [if_pos h1] at h; cases h
  rw [if_neg h1] at h ⊢;by_cases h2 : (false = false ∧ z6_ x.kind = false)
  ·rw [if_pos h2] at h; cases h
  rw [if_neg h2] at h ⊢;exact q0_ l (st + x.len) h (by rw [show st + x.len + sumL l = st + sumL (x :: l) by simp only [sumL]; omega]; exact hf) hs
theorem jS_ {e : Int} {b : Bool} : ∀ (l : List Sg) (st : Int), ym_ e false st l = 0 → ym_ e b st l = 0
 | [], st, _ => rfl
 | x :: l, st, h => by
  unfold ym_ at h ⊢;by_cases h1 : zm_ e x st = false
  ·rw [if_pos h1] at h; cases h
  rw [if_neg h1] at h ⊢;by_cases h2 : (false = false ∧ z6_ x.kind = false)
  ·rw [if_pos h2] at h; cases h
  rw [if_neg h2] at h;rw [if_neg (fun hh => h2 ⟨rfl, hh.2⟩)];exact jS_ l _ h
structure SimL (e : Int) (l : List Sg) : Prop where
 form : ym_ e false 0 l = 0
 leaf : ∀ s ∈ l, (s.kind = 1 ∨ s.kind = 2 ∨ s.kind = 8 ∨ s.kind = 9 ∨ s.kind = 10) ∧ (∀ a ∈ s.areas, a.vol = false) ∧ s.log = ⟨#[]⟩ ∧ s.pool = ⟨#[]⟩
 pos : ∀ s ∈ l, 1 ≤ s.len ∧ s.len ≤ 32768
theorem SimL.snoc {e : Int} {l : List Sg} {s : Sg} (h : SimL e l) (h1 : zm_ e s (sumL l) = true) (h2 : z6_ s.kind = true) (h3 : (s.kind = 1 ∨ s.kind = 2 ∨ s.kind = 8 ∨ s.kind = 9 ∨ s.kind = 10) ∧ (∀ a ∈ s.areas, a.vol = false) ∧ s.log = ⟨#[]⟩ ∧ s.pool = ⟨#[]⟩) (h4 : 1 ≤ s.len ∧ s.len ≤ 32768) : SimL e (l ++ [s]) :=
 ⟨q0_ l 0 h.form (by rw [Int.zero_add]; exact h1) h2, fun t ht => by
  rcases List.mem_append.1 ht with ht | ht
  ·exact h.leaf t ht
  ·simp at ht; subst ht; exact h3, fun t ht => by
  rcases List.mem_append.1 ht with ht | ht
  ·exact h.pos t ht
  ·simp at ht; subst ht; exact h4⟩
theorem X8_ {e n : Int} {a : Ar} (ha : a.vol = false) (hn : 1 ≤ n ∧ n ≤ 32768) : zm_ e (linSeg n a) 0 = true := by
 have h1 : zp_ 1 = some ⟨1, 1, false, true, 0, false, false, false, false, false⟩ := rfl
 simp [zm_, linSeg, h1, areaOk, ha, chunkedB, markedB, staleFrom, withinI]
 exact ⟨decide_eq_true hn.1, decide_eq_true hn.2⟩
theorem Y1_ {e n : Int} {a : Ar} (ha : a.vol = false) (hn : 1 ≤ n ∧ n ≤ 32768) : SimL e [linSeg n a] := by
 have h := SimL.snoc (e := e) (l := []) (s := linSeg n a) ⟨rfl, fun s hs => (by cases hs), fun s hs => (by cases hs)⟩ (X8_ ha hn) rfl ⟨.inl rfl, fun x hx => by simp [linSeg] at hx; subst hx; exact ha, rfl, rfl⟩ hn
 exact h
theorem qr_ {e st n kind k : Int} {l : List Ar} (hk : (kind = 1 ∧ l.length = 1 ∧ k = 0) ∨ ((kind = 9 ∨ kind = 10) ∧ l.length = 0 ∧ k = 0) ∨ (kind = 8 ∧ l.length = 2 ∧ 0 ≤ k ∧ k ≤ n)) (hl : ∀ a ∈ l, a.vol = false) (hn : 1 ≤ n ∧ n ≤ 32768) : zm_ e (moreSg st n kind l k) st = true := by
 have h1 : zp_ 1 = some ⟨1, 1, false, true, 0, false, false, false, false, false⟩ := rfl
 have h8 : zp_ 8 = some ⟨2, 2, false, true, 0, false, false, false, false, true⟩ := rfl
 have h9 : zp_ 9 = some ⟨0, 0, false, true, 0, false, false, false, false, false⟩ := rfl
 have h10 : zp_ 10 = some ⟨0, 0, false, true, 0, false, false, false, false, false⟩ := rfl
 have ha : ∀ x : Sh, x.volumes = false → l.all (areaOk x) = true := fun x hx => by
  rw [List.all_eq_true]; intro a ha; simp [areaOk, hl a ha, hx]
 rcases hk with ⟨rfl, hl1, rfl⟩ | ⟨rfl | rfl, hl1, rfl⟩ | ⟨rfl, hl1, k0, k1⟩
 ·simp only [zm_, moreSg, h1, ha ⟨1, 1, false, true, 0, false, false, false, false, false⟩ rfl, hl1]
  simp [chunkedB, markedB, staleFrom, withinI]; first | exact ⟨decide_eq_true hn.1, decide_eq_true hn.2⟩ | exact ⟨⟨decide_eq_true hn.1, decide_eq_true hn.2⟩, k0, k1⟩
 ·simp only [zm_, moreSg, h9, ha ⟨0, 0, false, true, 0, false, false, false, false, false⟩ rfl, hl1]
  simp [chunkedB, markedB, staleFrom, withinI]; first | exact ⟨decide_eq_true hn.1, decide_eq_true hn.2⟩ | exact ⟨⟨decide_eq_true hn.1, decide_eq_true hn.2⟩, k0, k1⟩
 ·simp only [zm_, moreSg, h10, ha ⟨0, 0, false, true, 0, false, false, false, false, false⟩ rfl, hl1]
  simp [chunkedB, markedB, staleFrom, withinI]; first | exact ⟨decide_eq_true hn.1, decide_eq_true hn.2⟩ | exact ⟨⟨decide_eq_true hn.1, decide_eq_true hn.2⟩, k0, k1⟩
 ·simp only [zm_, moreSg, h8, ha ⟨2, 2, false, true, 0, false, false, false, false, true⟩ rfl, hl1]
  simp [chunkedB, markedB, staleFrom, withinI]; first | exact ⟨decide_eq_true hn.1, decide_eq_true hn.2⟩ | exact ⟨⟨decide_eq_true hn.1, decide_eq_true hn.2⟩, k0, k1⟩
theorem AreaR.vol {β β' : Be} {d : Nat} {n : Int} {a : Ar} (h : AreaR β d n (some a) β') : a.vol = false := by
 obtain ⟨dk, z, _, _, ⟨e, _⟩ | ⟨gap, _, _, _, e, _⟩⟩ := h
 ·cases e
 ·injection e with e; subst e; rfl
theorem MoreS.sim {e : Int} {β β' : Be} {l l' : List Sg} (h : MoreS β l β' l') (hs : SimL e l) : SimL e l' := by
 obtain ⟨n, h1, h3, ⟨rfl, kind, hk, rfl⟩ | ⟨d, hr, rfl⟩ | ⟨d, a, hr, rfl⟩ | ⟨d, a, β1, d2, hr, hr2, rfl⟩ | ⟨d, a, β1, d2, a2, k, hr, hr2, k0, k1, rfl⟩⟩ := h
 ·refine hs.snoc (qr_ (.inr (.inl ⟨hk, rfl, rfl⟩)) (fun a ha => by cases ha) (by omega)) ?_ ⟨?_, fun a ha => (by cases ha), rfl, rfl⟩ (by show 1 ≤ n ∧ n ≤ 32768; omega)
  ·rcases hk with rfl | rfl <;> rfl
  ·rcases hk with rfl | rfl <;> simp [moreSg]
 ·exact hs
 ·have hv := hr.vol
  exact hs.snoc (qr_ (.inl ⟨rfl, rfl, rfl⟩) (fun x hx => by simp at hx; subst hx; exact hv) (by omega)) rfl ⟨.inl rfl, fun x hx => (by simp [moreSg] at hx; subst hx; exact hv), rfl, rfl⟩ (by show 1 ≤ n ∧ n ≤ 32768; omega)
 ·exact hs
 ·have hv := hr.vol
  have hv2 := hr2.vol;have hb : ∀ x ∈ [a, a2], x.vol = false := fun x hx => by simp at hx; rcases hx with rfl | rfl <;> assumption
  exact hs.snoc (qr_ (.inr (.inr ⟨rfl, rfl, k0, k1⟩)) hb (by omega)) rfl ⟨.inr (.inr (.inl rfl)), hb, rfl, rfl⟩ (by show 1 ≤ n ∧ n ≤ 32768; omega)
theorem MoreR.sim {e : Int} {k : Nat} {β β' : Be} {l l' : List Sg} (h : MoreR k β l β' l') (hs : SimL e l) : SimL e l' := by
 induction h with
 | nil => exact hs
 | snoc h hs' ih => exact hs'.sim (ih hs)
def TopN (nm : ByteArray) : Prop := ∃ i, 1 ≤ i ∧ i ≤ 4 ∧ nm = nmG i
inductive ShV (vs : List Vo) (e : Int) : Vo → Prop
 | sim {nm : ByteArray} {id : Int} {hid : Bool} {l : List Sg} (hn : (if hid then hidB nm else visB nm) = true) (hl : SimL e l) (h3 : 1 ≤ l.length ∧ l.length ≤ 3) : ShV vs e ⟨nm, id, hid, false, [], l⟩
 | cmp {nm : ByteArray} {kind n id : Int} {l : List (ByteArray × Int)} {x : Sg} {ro : Bool} {tags : List ByteArray} (hn : TopN nm) (hx : CmpX nm kind e n l x) (h1 : 1 ≤ n ∧ n ≤ 3) (ht : tags.Sublist tagL) (hu : ∀ z ∈ l, ∃ (id : Int) (a : Ar), zP_ z.1 id true z.2 a ∈ vs) : ShV vs e (yc_ nm id ro tags x)
 | thin {nm : ByteArray} {id z : Int} {i : Nat} (hn : TopN nm) (hi : 1 ≤ i ∧ i ≤ 2) (hz : 1 ≤ z ∧ z ≤ 4) (hu : ∃ u ∈ vs, u.name = nm ∧ yz_ u = 5 ∧ u.hid = false) : ShV vs e (xb_ nm id i z)
theorem ShV.mono {vs vs' : List Vo} {e : Int} {v : Vo} (h : ShV vs e v) (hs : ∀ u ∈ vs, u ∈ vs') : ShV vs' e v := by
 cases h with
 | sim hn hl h3 => exact .sim hn hl h3
 | cmp hn hx h1 ht hu => exact .cmp hn hx h1 ht (fun z hz => by obtain ⟨id, a, h⟩ := hu z hz; exact ⟨id, a, hs _ h⟩)
 | thin hn hi hz hu => exact .thin hn hi hz (by obtain ⟨u, h, e⟩ := hu; exact ⟨u, hs u h, e⟩)
def xJ_ (vs : List Vo) : List ByteArray := vs.flatMap fun v => qg_ v false
def hidF (vs : List Vo) : List ByteArray := namesV (vs.filter (·.hid))
theorem usedF_append (a b : List Vo) : xJ_ (a ++ b) = xJ_ a ++ xJ_ b := by simp [xJ_]
theorem hidF_append (a b : List Vo) : hidF (a ++ b) = hidF a ++ hidF b := by simp [hidF, namesV]
def Ear (vs : List Vo) : Prop := ∀ (k : Nat) (v : Vo), vs[k]? = some v → ∀ x ∈ zY_ v, x ∈ namesV (vs.take k)
theorem Ear.app {vs us : List Vo} (h : Ear vs) (hs : ∀ u ∈ us, ∀ x ∈ zY_ u, x ∈ namesV vs) : Ear (vs ++ us) := by
 intro k v hk x hx
 rcases Nat.lt_or_ge k vs.length with hl | hl
 ·rw [List.getElem?_append_left hl] at hk
  rw [List.take_append_of_le_length (Nat.le_of_lt hl)];exact h k v hk x hx
 ·rw [List.getElem?_append_right hl] at hk
  rw [List.take_append, List.take_of_length_le hl, namesV_append];exact List.mem_append_left _ (hs v (List.mem_of_getElem? hk) x hx)
structure Iw (β : Be) : Prop where
 ids : IdsOk β.g.id β.g.next β.g.vols
 n0 : 0 ≤ β.g.next
 pb : Pb β (plsG β.g.vols)
 sh : ∀ v ∈ β.g.vols, ShV β.g.vols β.g.extent v
 us : xJ_ β.g.vols = hidF β.g.vols
 ea : Ear β.g.vols
theorem Iw.same {β β' : Be} {m : Int} (h : Iw β) (hg : β'.g = { β.g with next := m }) (hm : β.g.next ≤ m) (hp : Pb β' (plsG β.g.vols)) : Iw β' := by
 obtain ⟨g', nx'⟩ := β'
 dsimp only at hg
 subst hg
 exact ⟨h.ids.mono hm, by have := h.n0; show 0 ≤ m; omega, hp, h.sh, h.us, h.ea⟩
theorem Iw.snoc {β β' : Be} {v : Vo} {m : Int} (h : Iw β) (hg : β'.g = { β.g with next := m, vols := β.g.vols ++ [v] }) (hm : 0 ≤ m) (hi : IdsOk β.g.id m (β.g.vols ++ [v])) (hp : Pb β' (plsG β.g.vols ++ plsV v.segs)) (hs : ShV β.g.vols β.g.extent v) (hu : qg_ v false = []) (hv : v.hid = false) (he : ∀ x ∈ zY_ v, x ∈ namesV β.g.vols) : Iw β' := by
 obtain ⟨g', nx'⟩ := β'
 dsimp only at hg
 subst hg
 refine ⟨hi, hm, by show Pb _ (plsG (β.g.vols ++ [v])); rw [jk_]; exact hp, fun u hu' => ?_, ?_, h.ea.app (fun u hu' => by simp at hu'; subst hu'; exact he)⟩
 ·have hu2 : u ∈ β.g.vols ++ [v] := hu'
  rcases List.mem_append.1 hu2 with h1 | h1
  ·exact (h.sh u h1).mono (fun t ht => List.mem_append_left _ ht)
  ·simp at h1; subst h1
   exact hs.mono (fun t ht => List.mem_append_left _ ht)
 ·show xJ_ (β.g.vols ++ [v]) = hidF (β.g.vols ++ [v])
  rw [usedF_append, hidF_append, h.us, show xJ_ [v] = [] by simp [xJ_, hu], show hidF [v] = [] by simp [hidF, namesV, hv]]
theorem jN_ {s : Sg} (h1 : ∀ a ∈ s.areas, a.vol = false) (h2 : s.log = ⟨#[]⟩) : zq_ s false = [] := by
 unfold zq_
 rw [List.filter_eq_nil_iff.2 (fun a ha => by rw [h1 a ha]; exact Bool.false_ne_true), if_pos h2]
 simp
theorem Ya_ {s : Sg} (h1 : ∀ a ∈ s.areas, a.vol = false) (h2 : s.log = ⟨#[]⟩) (h3 : s.pool = ⟨#[]⟩) : usesS s = [] := by
 unfold usesS
 rw [List.filter_eq_nil_iff.2 (fun a ha => by rw [h1 a ha]; exact Bool.false_ne_true), if_pos h2, if_pos h3]
 simp
theorem SimL.used {e : Int} {l : List Sg} (h : SimL e l) : l.flatMap (fun s => zq_ s false) = [] := by
 rw [List.flatMap_eq_nil_iff]
 intro s hs
 exact jN_ (h.leaf s hs).2.1 (h.leaf s hs).2.2.1
theorem SimL.uses {e : Int} {l : List Sg} (h : SimL e l) : zE_ l = [] := by
 unfold zE_
 rw [List.flatten_eq_nil_iff]
 intro t ht
 obtain ⟨s, hs, rfl⟩ := List.mem_map.1 ht
 exact Ya_ (h.leaf s hs).2.1 (h.leaf s hs).2.2.1 (h.leaf s hs).2.2.2
structure Hv (β β' : Be) (l : List (ByteArray × Int)) (hs : List Vo) : Prop where
 g : ∃ m, β'.g = { β.g with next := m, vols := β.g.vols ++ hs } ∧ 0 ≤ m ∧ IdsOk β.g.id m (β.g.vols ++ hs)
 pb : Pb β' (plsG (β.g.vols ++ hs))
 nm : namesV hs = l.map Prod.fst
 sh : ∀ u ∈ hs, ShV [] β.g.extent u ∧ u.hid = true ∧ zY_ u = [] ∧ qg_ u false = []
 mem : ∀ z ∈ l, ∃ (id : Int) (a : Ar), zP_ z.1 id true z.2 a ∈ hs
theorem LinsR.hv {l : List (ByteArray × Int)} {β β' : Be} (h : LinsR l β β') (hi : Iw β) (hl : ∀ z ∈ l, hidB z.1 = true ∧ 1 ≤ z.2 ∧ z.2 ≤ 1000) : ∃ hs, Hv β β' l hs := by
 induction h with
 | nil β0 => exact ⟨[], ⟨β0.g.next, by simp, hi.n0, by simpa using hi.ids⟩, by simpa using hi.pb, rfl, fun u hu => (by cases hu), fun z hz => by cases hz⟩
 | @snoc l β β1 β2 nm n h hr ih =>
  obtain ⟨hs, ⟨m, e, hm, hids⟩, hpb, hnm, hsh, hmem⟩ := ih hi (fun z hz => hl z (List.mem_append_left _ hz));obtain ⟨hh, h1, h2⟩ := hl (nm, n) (List.mem_append_right _ (List.mem_singleton.2 rfl));dsimp only at hh h1 h2
  obtain ⟨e1, _⟩ | ⟨_, d, a, β3, ha, rfl⟩ := hr
  ·cases e1
  ·have hp1 : Pb (zK_ β1) (plsG (β.g.vols ++ hs)) := hpb.next
   obtain ⟨hp2, hav, _⟩ := hp1.take ha h1
   have hg3 : β3.g = { β.g with next := m + 1, vols := β.g.vols ++ hs } := by
    rw [ha.g];show ({ β1.g with next := β1.g.next + 1 } : Gr) = _
    rw [e]
   have hid : idB β1 = idV β.g.id (m + 1) := by unfold idB; rw [e]
   refine ⟨hs ++ [zP_ nm (idB β1) true n a], ⟨m + 1, ?_, by omega, ?_⟩, ?_, ?_, fun u hu => ?_, fun z hz => ?_⟩
   ·show ({ β3.g with vols := β3.g.vols ++ [zP_ nm (idB β1) true n a] } : Gr) = _
    rw [hg3];simp
   ·rw [← List.append_assoc]
    exact hids.add hm hid
   ·rw [← List.append_assoc, jk_]
    have : plsV (zP_ nm (idB β1) true n a).segs = [⟨a.on, a.start, n⟩] := YI_ hav;rw [this];exact hp2.of rfl rfl rfl
   ·rw [namesV_append, hnm]; simp [namesV, zP_]
   ·have hsim := Y1_ (e := β.g.extent) hav (show 1 ≤ n ∧ n ≤ 32768 by omega)
    rcases List.mem_append.1 hu with hu | hu
    ·exact hsh u hu
    ·simp at hu; subst hu
     exact ⟨.sim (by exact hh) hsim ⟨Nat.le_refl _, by show 1 ≤ 3; omega⟩, rfl, hsim.uses, hsim.used⟩
   ·rcases List.mem_append.1 hz with hz | hz
    ·obtain ⟨id, a', h⟩ := hmem z hz
     exact ⟨id, a', List.mem_append_left _ h⟩
    ·simp at hz; subst hz
     exact ⟨_, a, List.mem_append_right _ (List.mem_singleton.2 rfl)⟩
theorem Zp_ {nm : ByteArray} (h : TopN nm) : nm = nmG 1 ∨ nm = nmG 2 ∨ nm = nmG 3 ∨ nm = nmG 4 := by
 obtain ⟨i, h1, h2, rfl⟩ := h
 rcases (show i = 1 ∨ i = 2 ∨ i = 3 ∨ i = 4 by omega) with rfl | rfl | rfl | rfl <;> simp
structure Nms (nm : ByteArray) : Prop where
 vis : visB nm = true
 leg : ∀ k, k < 4 → hidB (legN nm k) = true
 leg0 : qQ_ nm = legN nm 0
 log : hidB (logN nm) = true
 hmeta : hidB (metaN nm) = true
 hdata : hidB (dataN nm) = true
 thin1 : visB (yV_ nm 1) = true
 thin2 : visB (yV_ nm 2) = true
 rleg : ∀ k : Nat, k < 4 → legR nm k = (legN nm k, 0)
 rlog : zy_ nm 1 = (logN nm, 0)
 rdata : zy_ nm 2 = (dataN nm, 0)
 rmeta : zy_ nm 3 = (metaN nm, 0)
theorem four {P : Nat → Prop} (h0 : P 0) (h1 : P 1) (h2 : P 2) (h3 : P 3) : ∀ k, k < 4 → P k := fun k hk => by
 rcases (show k = 0 ∨ k = 1 ∨ k = 2 ∨ k = 3 by omega) with rfl | rfl | rfl | rfl <;> assumption
theorem yu_ {nm : ByteArray} (h : TopN nm) : Nms nm := by
 rcases Zp_ h with rfl | rfl | rfl | rfl
 all_goals exact ⟨by kernel_rfl, four (by kernel_rfl) (by kernel_rfl) (by kernel_rfl) (by kernel_rfl), by kernel_rfl, by kernel_rfl, by kernel_rfl, by kernel_rfl, by kernel_rfl, by kernel_rfl, four (by kernel_rfl) (by kernel_rfl) (by kernel_rfl) (by kernel_rfl), by kernel_rfl, by kernel_rfl, by kernel_rfl⟩
theorem x7_ {s : ByteArray} {nm : ByteArray} {k : Nat} (h : s ∈ zJ_ nm k) : ∃ i, i < k ∧ s = legN nm i := by
 unfold zJ_ at h
 obtain ⟨i, hi, rfl⟩ := List.mem_map.1 h
 exact ⟨i, List.mem_range.1 hi, rfl⟩
theorem kd_ {a e : Int} (he : 1 ≤ e) (ha : 0 ≤ a) : 0 ≤ a / e ∧ a / e ≤ a := ⟨Int.ediv_nonneg ha (by omega), Int.ediv_le_self _ ha⟩
theorem CmpX.parts {nm : ByteArray} {kind e n : Int} {l : List (ByteArray × Int)} {x : Sg} (h : CmpX nm kind e n l x) (hN : Nms nm) (hn : 1 ≤ n ∧ n ≤ 3) (he : 1 ≤ e ∧ e ≤ 16) : (∀ z ∈ l, hidB z.1 = true ∧ 1 ≤ z.2 ∧ z.2 ≤ 1000) := by
 obtain ⟨_, k, c, lg, st, h2, h3, _, _, hst, rfl, rfl⟩ | ⟨_, k, c, h3, h4, _, rfl, rfl⟩ | ⟨_, m, c, h1, h3, _, _, rfl, rfl⟩ | ⟨_, d, c, m, h1, h2, _, _, _, _, rfl, rfl⟩ := h
 ·intro z hz
  obtain ⟨z1, z2⟩ := z;obtain ⟨h5, h6⟩ := List.of_mem_zip hz;dsimp only at h5 h6 ⊢
  have hL : 1 ≤ logL n e ∧ logL n e ≤ 1000 := by
   have hm : n * e ≤ 48 := by
    have h1 : n * e ≤ 3 * e := Int.mul_le_mul_of_nonneg_right hn.2 (by omega);omega
   have hm0 : 0 ≤ n * e := Int.mul_nonneg (by omega) (by omega);have := kd_ (a := 1 + (n * e + 63) / 64) he.1 (by omega);unfold logL;omega
  refine ⟨?_, ?_⟩
  ·rcases List.mem_append.1 h5 with h5 | h5
   ·obtain ⟨i, hi, rfl⟩ := x7_ h5
    exact hN.leg i (by omega)
   ·cases lg
    ·cases h5
    ·simp at h5; subst h5; exact hN.log
  ·rcases List.mem_append.1 h6 with h6 | h6
   ·have := (List.mem_replicate.1 h6).2; omega
   ·cases lg
    ·cases h6
    ·simp at h6; subst h6; exact hL
 ·intro z hz
  obtain ⟨z1, z2⟩ := z;obtain ⟨h5, h6⟩ := List.of_mem_zip hz;dsimp only at h5 h6 ⊢
  obtain ⟨i, hi, rfl⟩ := x7_ h5;have := (List.mem_replicate.1 h6).2;have := kd_ (a := 15 + e) he.1 (by omega);exact ⟨hN.leg i (by omega), by omega, by omega⟩
 ·intro z hz
  simp at hz;rcases hz with rfl | rfl
  ·exact ⟨hN.hmeta, by dsimp only; omega, by dsimp only; omega⟩
  ·exact ⟨hN.hdata, by dsimp only; omega, by dsimp only; omega⟩
 ·intro z hz
  simp at hz;rcases hz with rfl | rfl | rfl
  ·refine ⟨?_, by dsimp only; omega, by dsimp only; omega⟩
   show hidB (qQ_ nm) = true
   rw [hN.leg0]; exact hN.leg 0 (by omega)
  ·exact ⟨hN.hdata, by dsimp only; omega, by dsimp only; omega⟩
  ·exact ⟨hN.hmeta, by dsimp only; omega, by dsimp only; omega⟩
theorem yO_ (l : List ByteArray) : ((zr_ l).filter (·.vol)).map (·.on) = l := by
 unfold zr_
 induction l with
 | nil => rfl
 | cons a l ih => simp at ih ⊢; exact ih
theorem Y0_ (nm : ByteArray) : logN nm ≠ ⟨#[]⟩ := fun e => by
 have := congrArg ByteArray.size e
 rw [(jW_ nm).2.1] at this
 have h0 : (⟨#[]⟩ : ByteArray).size = 0 := rfl
 omega
theorem CmpX.used {nm : ByteArray} {kind e n : Int} {l : List (ByteArray × Int)} {x : Sg} (h : CmpX nm kind e n l x) : zq_ x false = l.map Prod.fst ∧ usesS x = l.map Prod.fst ∧ x.kind = kind := by
 obtain ⟨rfl, k, c, lg, st, h2, h3, _, _, hst, rfl, rfl⟩ | ⟨rfl, k, c, h3, h4, _, rfl, rfl⟩ | ⟨rfl, m, c, h1, h3, _, _, rfl, rfl⟩ | ⟨rfl, d, c, m, h1, h2, _, _, _, _, rfl, rfl⟩ := h
 ·rw [List.map_fst_zip (by cases lg <;> simp [zj_])]
  refine ⟨?_, ?_, rfl⟩
  ·unfold zq_; dsimp only; rw [yO_]; cases lg <;> simp [Y0_]
  ·unfold usesS; dsimp only; rw [yO_]; cases lg <;> simp [Y0_]
 ·rw [List.map_fst_zip (by simp [zj_])]
  refine ⟨?_, ?_, rfl⟩
  ·unfold zq_; dsimp only; rw [yO_]; simp
  ·unfold usesS; dsimp only; rw [yO_]; simp
 ·exact ⟨rfl, rfl, rfl⟩
 ·exact ⟨rfl, rfl, rfl⟩
theorem CmpX.noarea {nm : ByteArray} {kind e n : Int} {l : List (ByteArray × Int)} {x : Sg} (h : CmpX nm kind e n l x) : plsV [x] = [] := by
 have hA : ∀ l : List ByteArray, (zr_ l).filter (fun a => !a.vol) = [] := fun l => by
  rw [List.filter_eq_nil_iff];intro a ha;unfold zr_ at ha;obtain ⟨s, _, rfl⟩ := List.mem_map.1 ha;simp
 have hB : ∀ x : Sg, (∃ l, x.areas = zr_ l) → plsV [x] = [] := fun x ⟨l, e⟩ => by simp [plsV, plsS, e, hA]
 obtain ⟨_, k, c, lg, st, h2, h3, _, _, hst, rfl, rfl⟩ | ⟨_, k, c, h3, h4, _, rfl, rfl⟩ | ⟨_, m, c, h1, h3, _, _, rfl, rfl⟩ | ⟨_, d, c, m, h1, h2, _, _, _, _, rfl, rfl⟩ := h
 all_goals exact hB _ ⟨_, rfl⟩
theorem j0_ {vs : List Vo} {u : Vo} (h : u ∈ vs) : u.name ∈ namesV vs := List.mem_map.2 ⟨u, h, rfl⟩
theorem CompR.iw {β β' : Be} {name : ByteArray} {kind : Int} (h : CompR β name kind β') (hi : Iw β) (hn : TopN name) : Iw β' := by
 have hN := yu_ hn
 have he := hi.pb.ok.ex
 obtain ⟨n, l, x, h1, h3, hx, hr⟩ := h
 have hpt := hx.parts hN ⟨h1, h3⟩ he
 obtain ⟨hu1, hu2, hk⟩ := hx.used
 have hcmp : ∀ (β1 : Be) (ro : Bool) (tags : List ByteArray), HidR β l true β1 → tags.Sublist tagL → Iw ((zK_ β1).add (yc_ name (idB β1) ro tags x)) := fun β1 ro tags hr ht => by
  obtain ⟨_, hr⟩ | ⟨e, _⟩ := hr
  ·obtain ⟨hs, ⟨m, e, hm, hids⟩, hpb, hnm, hsh, hmem⟩ := hr.hv hi hpt
   have hid : idB β1 = idV β.g.id (m + 1) := by unfold idB; rw [e]
   have hsegs : (yc_ name (idB β1) ro tags x).segs = [x] := rfl;have huse : zY_ (yc_ name (idB β1) ro tags x) = l.map Prod.fst := by show zE_ [x] = _; simp [zE_, hu2]
   have hused : qg_ (yc_ name (idB β1) ro tags x) false = l.map Prod.fst := by show [x].flatMap _ = _; simp [hu1]
   have hg : ((zK_ β1).add (yc_ name (idB β1) ro tags x)).g = { β.g with next := m + 1, vols := β.g.vols ++ hs ++ [yc_ name (idB β1) ro tags x] } := by
    show ({ β1.g with next := β1.g.next + 1, vols := β1.g.vols ++ [yc_ name (idB β1) ro tags x] } : Gr) = _
    rw [e]
   have hb : ∀ u ∈ β.g.vols ++ hs, u ∈ β.g.vols ++ hs ++ [yc_ name (idB β1) ro tags x] := fun u hu => List.mem_append_left _ hu
   have hpp : Pb ((zK_ β1).add (yc_ name (idB β1) ro tags x)) (plsG (β.g.vols ++ hs ++ [yc_ name (idB β1) ro tags x])) := by
    rw [jk_, hsegs, hx.noarea, List.append_nil];exact hpb.next.of rfl rfl rfl
   refine ⟨?_, ?_, ?_, ?_, ?_, ?_⟩
   ·rw [hg]; exact hids.add hm hid
   ·rw [hg]; show 0 ≤ m + 1; omega
   ·rw [hg]; exact hpp
   ·rw [hg]
    intro u hu;have hu' : u ∈ β.g.vols ++ hs ++ [yc_ name (idB β1) ro tags x] := hu;rcases List.mem_append.1 hu' with hu' | hu'
    ·rcases List.mem_append.1 hu' with hu' | hu'
     ·exact (hi.sh u hu').mono (fun t ht => hb t (List.mem_append_left _ ht))
     ·exact (hsh u hu').1.mono (fun t ht => by cases ht)
    ·simp at hu'; subst hu'
     exact .cmp hn hx ⟨h1, h3⟩ ht (fun z hz => by
      obtain ⟨id, a, h⟩ := hmem z hz;exact ⟨id, a, hb _ (List.mem_append_right _ h)⟩)
   ·rw [hg]
    show xJ_ (β.g.vols ++ hs ++ [_]) = hidF (β.g.vols ++ hs ++ [_])
    have e1 : xJ_ hs = [] := by unfold xJ_; rw [List.flatMap_eq_nil_iff]; exact fun u hu => (hsh u hu).2.2.2
    have e2 : hidF hs = l.map Prod.fst := by unfold hidF; rw [q9_ (fun u hu => (hsh u hu).2.1), hnm]
    have e3 : xJ_ [yc_ name (idB β1) ro tags x] = l.map Prod.fst := by unfold xJ_; simp [hused]
    have e4 : hidF [yc_ name (idB β1) ro tags x] = [] := rfl;rw [usedF_append, usedF_append, hidF_append, hidF_append, e1, e2, e3, e4, hi.us];simp
   ·rw [hg]
    show Ear (β.g.vols ++ hs ++ [_])
    refine (hi.ea.app (fun u hu y hy => by rw [(hsh u hu).2.2.1] at hy; cases hy)).app (fun u hu y hy => ?_);simp at hu; subst hu;rw [huse, ← hnm] at hy;rw [namesV_append];exact List.mem_append_right _ hy
  ·cases e
 rcases hr with hr | ⟨β1, ro, tags, hr, ht, ⟨_, rfl⟩ | ⟨h5, i0, i, hi2, hth⟩⟩
 ·obtain ⟨e, _⟩ | ⟨_, m, hm, _, rfl⟩ := hr
  ·cases e
  ·exact hi.same rfl hm (hi.pb.of rfl rfl rfl)
 ·exact hcmp β1 ro tags hr ht
 ·have hw := hcmp β1 ro tags hr ht
  have hpool : ∃ u ∈ ((zK_ β1).add (yc_ name (idB β1) ro tags x)).g.vols, u.name = name ∧ yz_ u = 5 ∧ u.hid = false := ⟨yc_ name (idB β1) ro tags x, List.mem_append_right _ (List.mem_singleton.2 rfl), rfl, by show yz_ ⟨_, _, _, _, _, [x]⟩ = 5; unfold yz_; dsimp only; rw [if_pos (by rfl)]; rw [hk, h5], rfl⟩
  have : ∀ {i : Nat} {β0 β2 : Be}, ThinsR name i0 i β0 β2 → Iw β0 → (∃ u ∈ β0.g.vols, u.name = name ∧ yz_ u = 5 ∧ u.hid = false) → Iw β2 ∧ (∃ u ∈ β2.g.vols, u.name = name ∧ yz_ u = 5 ∧ u.hid = false) ∧ i ≤ i0 := fun h => by
   induction h with
   | nil β => exact fun h1 h2 => ⟨h1, h2, Nat.le_refl _⟩
   | @snoc i β β1 z h hz hv ih =>
    intro h1 h2;obtain ⟨h3, h4, h5⟩ := ih h1 h2;refine ⟨?_, ?_, by omega⟩
    ·refine h3.snoc (v := xb_ name (idB β1) (i + 1) z) (m := β1.g.next + 1) rfl (by have := h3.n0; omega) (h3.ids.add h3.n0 rfl) ?_ (.thin hn ⟨by omega, by omega⟩ hz h4) rfl rfl (fun y hy => ?_)
     ·rw [show plsV (xb_ name (idB β1) (i + 1) z).segs = [] from rfl, List.append_nil]
      exact h3.pb.next.of rfl rfl rfl
     ·have hne : name ≠ ⟨#[]⟩ := fun e => by
       obtain ⟨j, _, _, rfl⟩ := hn;have := congrArg ByteArray.size e;have e1 : (nmG j).size = 1 := rfl;rw [e1] at this;cases this
      have hy' : y ∈ zE_ [(⟨0, z, 6, [], 0, [], ⟨#[]⟩, name, ((i + 1 : Nat) : Int), 0, 0⟩ : Sg)] := hy;simp [zE_, usesS, hne] at hy';subst hy';obtain ⟨u, hu, e, _⟩ := h4;rw [← e];exact j0_ hu
    ·obtain ⟨u, hu, e⟩ := h4
     exact ⟨u, List.mem_append_left _ hu, e⟩
  exact (this hth hw hpool).1
theorem GrpS.iw {β β' : Be} {name : ByteArray} (h : GrpS β name β') (hi : Iw β) (hn : TopN name) : Iw β' := by
 have hN := yu_ hn
 obtain ⟨n, _, _, h⟩ | ⟨n, d, a, β1, k, β2, l', n1, n4, h1, hk, h2, rfl⟩ | h | ⟨kind, _, h⟩ := h
 ·obtain ⟨_, rfl⟩ | ⟨e, _⟩ := h
  ·exact hi.same rfl (by show β.g.next ≤ β.g.next + 1; omega) hi.pb.next
  ·cases e
 ·have hp1 : Pb (zK_ β) (plsG β.g.vols) := hi.pb.next
  obtain ⟨hp2, hav, _⟩ := hp1.take h1 n1;have hg1 := h1.g;have hsim := Y1_ (e := β.g.extent) hav (show 1 ≤ n ∧ n ≤ 32768 by omega);have hp3 : Pb (β1.add (zP_ name (idB β) false n a)) (plsG β.g.vols ++ plsV [linSeg n a]) := by rw [YI_ hav]; exact hp2.of rfl rfl rfl
  have hp4 := h2.pb hp3;have hs4 := h2.sim hsim;obtain ⟨hg2, ss, hss, hsl, _⟩ := h2.g
  have hvs : β2.g = { β.g with next := β.g.next + 1, vols := β.g.vols ++ [zP_ name (idB β) false n a] } := by
   rw [hg2];show ({ β1.g with vols := β1.g.vols ++ [_] } : Gr) = _
   rw [hg1]; rfl
  refine hi.snoc (v := ({ zP_ name (idB β) false n a with segs := l' } : Vo)) (m := β.g.next + 1) ?_ (by have := hi.n0; omega) (hi.ids.add hi.n0 rfl) (hp4.of (by rfl) rfl rfl) (.sim hN.vis hs4 ⟨by rw [hss]; simp, by rw [hss]; simp; omega⟩) hs4.used rfl (fun y hy => ?_)
  ·show ({ β2.g with vols := β2.g.vols.dropLast ++ [_] } : Gr) = _
   rw [hvs];simp
  ·have : zE_ l' = [] := hs4.uses
   have hy' : y ∈ zE_ l' := hy;rw [this] at hy'; cases hy'
 ·obtain ⟨n, k, l, h, n1⟩ | ⟨k, n, l, β1, k2, k3, n1, n2, h, rfl⟩ := h
  ·obtain ⟨h1, _, _⟩ := h.pb hi.pb n1
   refine hi.same (m := β.g.next) (by rw [h.g]) (Int.le_refl _) h1.less
  ·obtain ⟨h1, hv, hl⟩ := h.pb hi.pb n1
   have hform : zm_ β.g.extent ⟨0, k * n, 2, l, 1, [], ⟨#[]⟩, ⟨#[]⟩, 0, 0, 0⟩ 0 = true := by
    have e2 : zp_ 2 = some ⟨2, 6, false, true, 1, false, false, false, false, false⟩ := rfl
    have ha : l.all (areaOk ⟨2, 6, false, true, 1, false, false, false, false, false⟩) = true := by
     rw [List.all_eq_true]; intro a ha; simp [areaOk, hv a ha]
    have hb : 1 ≤ (k : Int) * n ∧ (k : Int) * n ≤ 32768 := by
     rcases (show k = 2 ∨ k = 3 by omega) with rfl | rfl <;> omega
    simp only [zm_, e2, ha, hl];simp [chunkedB, markedB, staleFrom, withinI];omega
   have hsim : SimL β.g.extent [(⟨0, k * n, 2, l, 1, [], ⟨#[]⟩, ⟨#[]⟩, 0, 0, 0⟩ : Sg)] := by
    refine SimL.snoc (l := []) ⟨rfl, fun s hs => (by cases hs), fun s hs => (by cases hs)⟩ hform rfl ⟨.inr (.inl rfl), hv, rfl, rfl⟩ ?_;show 1 ≤ (k : Int) * n ∧ (k : Int) * n ≤ 32768
    rcases (show k = 2 ∨ k = 3 by omega) with rfl | rfl <;> omega
   have hg := h.g;have hid : idB β1 = idB β := by unfold idB; rw [hg]
   refine hi.snoc (v := Zs_ name (idB β1) k n l) (m := β.g.next + 1) ?_ (by have := hi.n0; omega) (hi.ids.add hi.n0 hid) ?_ (.sim hN.vis hsim ⟨Nat.le_refl _, by show 1 ≤ 3; omega⟩) hsim.used rfl (fun y hy => ?_)
   ·show ({ β1.g with next := β1.g.next + 1, vols := β1.g.vols ++ [_] } : Gr) = _
    rw [hg]
   ·rw [Q7_ hv hl (by omega)]
    exact h1.next.of rfl rfl rfl
   ·have : zE_ [(⟨0, k * n, 2, l, 1, [], ⟨#[]⟩, ⟨#[]⟩, 0, 0, 0⟩ : Sg)] = [] := hsim.uses
    have hy' : y ∈ zE_ [(⟨0, k * n, 2, l, 1, [], ⟨#[]⟩, ⟨#[]⟩, 0, 0, 0⟩ : Sg)] := hy;rw [this] at hy'; cases hy'
 ·exact h.iw hi hn
theorem GrpsR.iw {i0 i : Nat} {β β' : Be} (h : GrpsR i0 i β β') (h4 : i0 ≤ 4) (hi : Iw β) : Iw β' ∧ i ≤ i0 := by
 induction h with
 | nil => exact ⟨hi, Nat.le_refl _⟩
 | @snoc i β β1 β2 h hs ih =>
  obtain ⟨h1, h2⟩ := ih hi;exact ⟨hs.iw h1 ⟨i + 1, by omega, by omega, rfl⟩, by omega⟩
end Go.Proofs.YtdkcfgahdcpkkaaDoor
