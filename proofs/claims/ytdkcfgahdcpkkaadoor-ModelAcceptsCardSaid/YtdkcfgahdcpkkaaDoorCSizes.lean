/- rule 6 (printed by genSizes.py). -/
import Derived.Test.YtdkcfgahdcpkkaaDoorCChk8P
import Derived.Test.YtdkcfgahdcpkkaaDoorCAwake
set_option linter.all false
namespace Go.Proofs.YtdkcfgahdcpkkaaDoor
open Go.RowKit
set_option maxRecDepth 100000
set_option maxHeartbeats 16000000 in
theorem xz_ {w : World} {gc cb : Nat} {TC : TypeId} {g : Gr} {At Ad Av Ah : Option Addr} {ct cd cv ch : Nat} {vm : Value} (h : Ck w gc g At Ad Av Ah ct cd cv ch vm) (hcb : Blk w cb TC #[.pointer (some ⟨gc, 0, none⟩)]) (hz : SzG g) (n : ByteArray) :
  Calls Tryd.prog 85 #[.string n, .pointer (some ⟨cb, 0, none⟩)] w (Ret (.int .i64 (lenO g n)) w) := by
 obtain ⟨y, hy⟩ : ∃ y, (yb_ g n).getD zVo = y := ⟨_, rfl⟩
 have HVK := hD ((yA_ (A0 := At) (A1 := Ad) (A3 := Ah) (c0 := ct) (c1 := cd) (c3 := ch) h.vl hz.vols hz.vol n).mono fun _ _ h => qf_ h)
 have HL := hD (show lenO g n = lenV y.segs by unfold lenO; rw [hy])
 have HSG := hD (show y.segs.length ≤ 1000000 by
  rw [← hy];cases hq : yb_ g n with
  | none => exact Nat.zero_le _
  | some v => exact (hz.vol v (List.mem_of_find?_eq_some hq)).2.1)
 have k0 : w.cell? ⟨cb, 0, none⟩ = some (.pointer (some ⟨gc, 0, none⟩)) := by rw [hcb.cell]; rfl
 obtain ⟨c0, c1, c2, c3, c4, c5, c6, c7, c8, c9⟩ := nine h.blk
 have HY := hD hy
 unfold grA at HVK
 clear h hcb hz hy
 go_enter Tryd.func85, Tryd.ntmps85
 go_wp2_with fail
 refine HVK.out.mono ?_
 rintro e w5 ⟨y', b, B0, b0, B1, b1, rfl, hy', hyb, hsl, hb5⟩
 obtain rfl : y = y' := HY.out.symm.trans hy'
 have HB5 := hD (hb5.al (.cells #[.string y.name, .int .u64 y.id, .bool y.hid, .bool y.ro, .slice B0 y.tags.length b0, .slice B1 y.segs.length b1] 53))
 have HLN := hD (q4_ (v := y) (B0 := B0) (b0 := b0) (SL.up hsl ((Below.refl _ _).al (.cells #[.string y.name, .int .u64 y.id, .bool y.hid, .bool y.ro, .slice B0 y.tags.length b0, .slice B1 y.segs.length b1] 53))) HSG.out)
 unfold voA at HLN
 clear k0 c0 c1 c2 c3 c4 c5 c6 c7 c8 c9 hy' hyb hsl hb5
 go_wp2_with fail
 refine HLN.out.mono ?_
 rintro e w6 ⟨rfl, hb6⟩
 have HB6 := hD (HB5.out.next hb6)
 clear hb6
 go_wp2_with fail
 go_ret
 exact ⟨by rw [HL.out]; rfl, HB6.out⟩
theorem Ys_ {n d : Int} (h0 : 0 ≤ n) (h1 : n ≤ 4611686018427387903) (h2 : 0 < d) : 0 ≤ n.tdiv d ∧ n.tdiv d ≤ n := by
 refine ⟨Int.tdiv_nonneg h0 (Int.le_of_lt h2), ?_⟩
 rw [Int.tdiv_eq_ediv_of_nonneg h0]
 exact Int.ediv_le_self d h0
theorem jl_ {n d : Int} (h0 : 0 ≤ n) (h1 : n ≤ 1099511627776) (h2 : 0 < d) (h3 : d ≤ 1073741824) : 0 ≤ yS_ n d ∧ yS_ n d ≤ n + d - 1 := by
 unfold yS_
 have := Ys_ (n := n + d - 1) (d := d) (by omega) (by omega) h2
 omega
set_option maxHeartbeats 4000000 in
theorem kW_ (w : World) {n d : Int} (h0 : 0 ≤ n) (h1 : n ≤ 1099511627776) (h2 : 0 < d) (h3 : d ≤ 1073741824) :
  Calls Tryd.prog 87 #[.int .i64 n, .int .i64 d] w (Ret (.int .i64 (yS_ n d)) w) := by
 have hin := jl_ h0 h1 h2 h3
 have w1 : IntKind.i64.wrap (n + d) = n + d := IntWalk.i64_in _ (by omega)
 have w2 : IntKind.i64.wrap (n + d - 1) = n + d - 1 := IntWalk.i64_in _ (by omega)
 have w3 : IntKind.i64.wrap ((n + d - 1).tdiv d) = (n + d - 1).tdiv d := IntWalk.i64_in _ (by unfold yS_ at hin; omega)
 have hne : ¬ d = 0 := by omega
 have HE := hD (show yS_ n d = (n + d - 1).tdiv d from rfl)
 obtain ⟨z, hz⟩ : ∃ z, (n + d - 1).tdiv d = z := ⟨_, rfl⟩
 rw [hz] at w3 HE
 go_enter Tryd.func87, Tryd.ntmps87
 go_wp2_with fail
 go_ret
 exact ⟨by rw [HE.out]; rfl, Below.refl _ _⟩
structure FitZ (g : Gr) (s : Sg) : Prop where
 len : 1 ≤ s.len ∧ s.len ≤ 32768
 ext : 1 ≤ g.extent ∧ g.extent ≤ 1024
 areas : s.areas.length ≤ 1000000
 h3 : s.kind = 3 → 1 ≤ s.chunk ∧ s.chunk ≤ 1024
 h4 : s.kind = 4 → 3 ≤ s.areas.length
 h5 : s.kind = 5 → s.areas.length = 2
 h7 : s.kind = 7 → s.areas.length = 3
theorem QA_ {w : World} {ad : Addr} {x : Ar} (h : ArC w (ad.add (0 * 3)) x) : w.cell? ⟨ad.block, ad.off + 1, none⟩ = some (.string x.on) := by
 have := h.c1
 rw [Nat.zero_mul] at this
 simpa [Addr.add] using this
theorem ar_at1 {w : World} {ad : Addr} {x : Ar} (h : ArC w (ad.add (1 * 3)) x) : w.cell? ⟨ad.block, ad.off + 3 + 1, none⟩ = some (.string x.on) := by
 have := h.c1
 rw [Nat.one_mul] at this
 simpa [Addr.add] using this
theorem Q0_ (g : Gr) (s : Sg) (hk : s.kind = 3) : z5_ g s = if (s.areas.all (fun a => decide (lenO g a.on = s.len)) && (decide (s.log = ⟨#[]⟩) || decide (1 + yS_ (yS_ (s.len * g.extent) s.chunk) 64 ≤ lenO g s.log * g.extent))) then 0 else 3 := by unfold z5_ yD_; rw [hk]; rfl
theorem QZ_ (g : Gr) (s : Sg) (hk : s.kind = 4) : z5_ g s = if (s.areas.all (fun a => decide (lenO g a.on = lenO g (onAt s 0))) && decide (s.len.tdiv (s.areas.length - 1) * g.extent + 16 ≤ lenO g (onAt s 0) * g.extent)) then 0 else 3 := by unfold z5_ yD_; rw [hk]; rfl
theorem QY_ (g : Gr) (s : Sg) (hk : s.kind = 5) : z5_ g s = if decide (lenO g (onAt s 1) = s.len) then 0 else 3 := by unfold z5_ yD_; rw [hk]; rfl
theorem QX_ (g : Gr) (s : Sg) (hk : s.kind = 7) : z5_ g s = if decide (lenO g (onAt s 0) = s.len) then 0 else 3 := by unfold z5_ yD_; rw [hk]; rfl
theorem Zh_ {α : Type} {p : α → Bool} {l : List α} {k : Nat} {x : α} (h : l[k]? = some x) : (l.take (k + 1)).all p = ((l.take k).all p && p x) := by
 obtain ⟨h1, e1⟩ := List.getElem?_eq_some_iff.1 h
 rw [List.take_succ_eq_append_getElem h1, e1, List.all_append]
 simp
theorem Jc_ {a b m n : Int} (h1 : 1 ≤ a) (h2 : a ≤ m) (h3 : 1 ≤ b) (h4 : b ≤ n) : 1 ≤ a * b ∧ a * b ≤ m * n := by
 refine ⟨?_, Int.mul_le_mul h2 h4 (by omega) (by omega)⟩
 have := Int.mul_le_mul h1 h3 (by omega) (by omega)
 simpa using this
theorem ky_ {a b m n : Int} (h1 : 0 ≤ a) (h2 : a ≤ m) (h3 : 1 ≤ b) (h4 : b ≤ n) : 0 ≤ a * b ∧ a * b ≤ m * n :=
 ⟨Int.mul_nonneg h1 (by omega), Int.mul_le_mul h2 h4 (by omega) (by omega)⟩
theorem Y3_ (g : Gr) (n : ByteArray) : 0 ≤ lenO g n ∧ lenO g n ≤ 1073741824 := kA_ _ 0 (by decide)
set_option maxHeartbeats 16000000 in
theorem YC_ {w : World} {S : Nat → Prop} {gc cb lb : Nat} {TC TM : TypeId} {g : Gr} {At Ad Av Ah : Option Addr} {ct cd cv ch : Nat} {vm : Value} (h : Ck w gc g At Ad Av Ah ct cd cv ch vm) (hcb : Blk w cb TC #[.pointer (some ⟨gc, 0, none⟩)]) (hlb : Blk w lb TM #[.func (.func 85) #[] #[.pointer (some ⟨cb, 0, none⟩)]]) (hz : SzG g) {v : Vo} {s : Sg} {A0 A1 Bt Bs : Option Addr} {d0 d1 bt bs : Nat} (har : AL w S (.slice A0 s.areas.length d0) s.areas) (hf : FitZ g s) (h3 : s.kind ≠ 3) (h4 : s.kind ≠ 4) (h5 : s.kind ≠ 5) (h7 : s.kind ≠ 7) :
  Calls Tryd.prog 86 #[.agg (voA v (.slice Bt v.tags.length bt) (.slice Bs v.segs.length bs)), .agg (sgA s (.slice A0 s.areas.length d0) (.slice A1 s.stale.length d1)), .pointer (some ⟨lb, 0, none⟩), .pointer (some ⟨cb, 0, none⟩)] w (Ret (.int .i64 (z5_ g s)) w) := by
 have hby := Blk.new (w.alloc (.cells #[.string v.name, .int .u64 v.id, .bool v.hid, .bool v.ro, .slice Bt v.tags.length bt, .slice Bs v.segs.length bs] 53)) 58 #[.int .i64 s.start, .int .i64 s.len, .int .i64 s.kind, .slice A0 s.areas.length d0, .int .i64 s.chunk, .slice A1 s.stale.length d1, .string s.log, .string s.pool, .int .i64 s.dev, .int .i64 s.mode, .int .i64 s.done]
 rw [show (w.alloc (.cells #[.string v.name, .int .u64 v.id, .bool v.hid, .bool v.ro, .slice Bt v.tags.length bt, .slice Bs v.segs.length bs] 53)).heap.size = w.heap.size + 1 by simp] at hby
 have HBS := hD (show ∀ w', Bel ((w.alloc (.cells #[.string v.name, .int .u64 v.id, .bool v.hid, .bool v.ro, .slice Bt v.tags.length bt, .slice Bs v.segs.length bs] 53)).alloc (.cells #[.int .i64 s.start, .int .i64 s.len, .int .i64 s.kind, .slice A0 s.areas.length d0, .int .i64 s.chunk, .slice A1 s.stale.length d1, .string s.log, .string s.pool, .int .i64 s.dev, .int .i64 s.mode, .int .i64 s.done] 58)) w' → Blk w' (w.heap.size + 1) 58 #[.int .i64 s.start, .int .i64 s.len, .int .i64 s.kind, .slice A0 s.areas.length d0, .int .i64 s.chunk, .slice A1 s.stale.length d1, .string s.log, .string s.pool, .int .i64 s.dev, .int .i64 s.mode, .int .i64 s.done] from fun w' hb => hby.below hb hby.lt)
 have HW := hD (show ∀ w', Bel ((w.alloc (.cells #[.string v.name, .int .u64 v.id, .bool v.hid, .bool v.ro, .slice Bt v.tags.length bt, .slice Bs v.segs.length bs] 53)).alloc (.cells #[.int .i64 s.start, .int .i64 s.len, .int .i64 s.kind, .slice A0 s.areas.length d0, .int .i64 s.chunk, .slice A1 s.stale.length d1, .string s.log, .string s.pool, .int .i64 s.dev, .int .i64 s.mode, .int .i64 s.done] 58)) w' → Bel w w' from fun w' hb => (((Below.refl _ _).al _).al _).next hb)
 have HLN := hD (show ∀ w' n, Bel w w' → Calls Tryd.prog 85 #[.string n, .pointer (some ⟨cb, 0, none⟩)] w' (Ret (.int .i64 (lenO g n)) w') from fun w' n hb => xz_ (h.up hb) (hcb.below hb hcb.lt) hz n)
 have HCB := hD (show ∀ w', Bel w w' → w'.cell? ⟨cb, 0, none⟩ = some (.pointer (some ⟨gc, 0, none⟩)) from fun w' hb => by rw [(hcb.below hb hcb.lt).cell]; rfl)
 have HLB := hD (show ∀ w', Bel w w' → w'.cell? ⟨lb, 0, none⟩ = some (.func (.func 85) #[] #[.pointer (some ⟨cb, 0, none⟩)]) from fun w' hb => by rw [(hlb.below hb hlb.lt).cell]; rfl)
 have HCE := hD (show ∀ w', Bel w w' → w'.cell? ⟨gc, 3, none⟩ = some (.int .i64 g.extent) from fun w' hb => (nine (h.up hb).blk).2.2.2.1)
 have HR := hD (show ∀ w', Bel w w' → AL w' S (.slice A0 s.areas.length d0) s.areas from fun w' hb => AL.up har hb)
 have HF := hD hf
 have hal := hf.areas
 obtain ⟨hl0, hl1⟩ := hf.len
 obtain ⟨he0, he1⟩ := hf.ext
 clear h har hz hf hby hcb hlb
 unfold voA sgA
 have HE := hD (show z5_ g s = 0 by unfold z5_ yD_; rw [if_neg h3, if_neg h4, if_neg h5, if_neg h7]; rfl)
 have q3 : (s.kind == 3) = false := beq_eq_false_iff_ne.2 h3
 have q4 : (s.kind == 4) = false := beq_eq_false_iff_ne.2 h4
 have q5 : (s.kind == 5) = false := beq_eq_false_iff_ne.2 h5
 have q7 : (s.kind == 7) = false := beq_eq_false_iff_ne.2 h7
 obtain ⟨j0, j1, j2, j3, j4, j5, j6, j7, j8, j9, j10⟩ := elev (HBS.out _ (Below.refl _ _))
 clear h3 h4 h5 h7
 go_enter Tryd.func86, Tryd.ntmps86
 go_wp2_with fail
 go_ret
 exact ⟨by rw [HE.out]; rfl, HW.out _ (Below.refl _ _)⟩
set_option maxHeartbeats 16000000 in
theorem Yz_ {w : World} {S : Nat → Prop} {gc cb lb : Nat} {TC TM : TypeId} {g : Gr} {At Ad Av Ah : Option Addr} {ct cd cv ch : Nat} {vm : Value} (h : Ck w gc g At Ad Av Ah ct cd cv ch vm) (hcb : Blk w cb TC #[.pointer (some ⟨gc, 0, none⟩)]) (hlb : Blk w lb TM #[.func (.func 85) #[] #[.pointer (some ⟨cb, 0, none⟩)]]) (hz : SzG g) {v : Vo} {s : Sg} {A0 A1 Bt Bs : Option Addr} {d0 d1 bt bs : Nat} (har : AL w S (.slice A0 s.areas.length d0) s.areas) (hf : FitZ g s) (hk : s.kind = 5) :
  Calls Tryd.prog 86 #[.agg (voA v (.slice Bt v.tags.length bt) (.slice Bs v.segs.length bs)), .agg (sgA s (.slice A0 s.areas.length d0) (.slice A1 s.stale.length d1)), .pointer (some ⟨lb, 0, none⟩), .pointer (some ⟨cb, 0, none⟩)] w (Ret (.int .i64 (z5_ g s)) w) := by
 have hby := Blk.new (w.alloc (.cells #[.string v.name, .int .u64 v.id, .bool v.hid, .bool v.ro, .slice Bt v.tags.length bt, .slice Bs v.segs.length bs] 53)) 58 #[.int .i64 s.start, .int .i64 s.len, .int .i64 s.kind, .slice A0 s.areas.length d0, .int .i64 s.chunk, .slice A1 s.stale.length d1, .string s.log, .string s.pool, .int .i64 s.dev, .int .i64 s.mode, .int .i64 s.done]
 rw [show (w.alloc (.cells #[.string v.name, .int .u64 v.id, .bool v.hid, .bool v.ro, .slice Bt v.tags.length bt, .slice Bs v.segs.length bs] 53)).heap.size = w.heap.size + 1 by simp] at hby
 have HBS := hD (show ∀ w', Bel ((w.alloc (.cells #[.string v.name, .int .u64 v.id, .bool v.hid, .bool v.ro, .slice Bt v.tags.length bt, .slice Bs v.segs.length bs] 53)).alloc (.cells #[.int .i64 s.start, .int .i64 s.len, .int .i64 s.kind, .slice A0 s.areas.length d0, .int .i64 s.chunk, .slice A1 s.stale.length d1, .string s.log, .string s.pool, .int .i64 s.dev, .int .i64 s.mode, .int .i64 s.done] 58)) w' → Blk w' (w.heap.size + 1) 58 #[.int .i64 s.start, .int .i64 s.len, .int .i64 s.kind, .slice A0 s.areas.length d0, .int .i64 s.chunk, .slice A1 s.stale.length d1, .string s.log, .string s.pool, .int .i64 s.dev, .int .i64 s.mode, .int .i64 s.done] from fun w' hb => hby.below hb hby.lt)
 have HW := hD (show ∀ w', Bel ((w.alloc (.cells #[.string v.name, .int .u64 v.id, .bool v.hid, .bool v.ro, .slice Bt v.tags.length bt, .slice Bs v.segs.length bs] 53)).alloc (.cells #[.int .i64 s.start, .int .i64 s.len, .int .i64 s.kind, .slice A0 s.areas.length d0, .int .i64 s.chunk, .slice A1 s.stale.length d1, .string s.log, .string s.pool, .int .i64 s.dev, .int .i64 s.mode, .int .i64 s.done] 58)) w' → Bel w w' from fun w' hb => (((Below.refl _ _).al _).al _).next hb)
 have HLN := hD (show ∀ w' n, Bel w w' → Calls Tryd.prog 85 #[.string n, .pointer (some ⟨cb, 0, none⟩)] w' (Ret (.int .i64 (lenO g n)) w') from fun w' n hb => xz_ (h.up hb) (hcb.below hb hcb.lt) hz n)
 have HCB := hD (show ∀ w', Bel w w' → w'.cell? ⟨cb, 0, none⟩ = some (.pointer (some ⟨gc, 0, none⟩)) from fun w' hb => by rw [(hcb.below hb hcb.lt).cell]; rfl)
 have HLB := hD (show ∀ w', Bel w w' → w'.cell? ⟨lb, 0, none⟩ = some (.func (.func 85) #[] #[.pointer (some ⟨cb, 0, none⟩)]) from fun w' hb => by rw [(hlb.below hb hlb.lt).cell]; rfl)
 have HCE := hD (show ∀ w', Bel w w' → w'.cell? ⟨gc, 3, none⟩ = some (.int .i64 g.extent) from fun w' hb => (nine (h.up hb).blk).2.2.2.1)
 have HR := hD (show ∀ w', Bel w w' → AL w' S (.slice A0 s.areas.length d0) s.areas from fun w' hb => AL.up har hb)
 have HF := hD hf
 have hal := hf.areas
 obtain ⟨hl0, hl1⟩ := hf.len
 obtain ⟨he0, he1⟩ := hf.ext
 clear h har hz hf hby hcb hlb
 unfold voA sgA
 have HE := hD (show z5_ g s = if decide (lenO g (onAt s 1) = s.len) then 0 else 3 from QY_ g s hk)
 have hlen : 1 < s.areas.length := by rw [HF.out.h5 hk]; decide
 rw [hk] at HBS HW ⊢
 clear hk
 obtain ⟨ad, x, rfl, hx, _, had, b0⟩ := (HR.out _ (HW.out _ (Below.refl _ _))).at_ hlen
 rw [yL_ hx] at HE
 have eA := CalmW.cell (ar_at1 b0)
 obtain ⟨f0, f1, f2, f3, f4, f5, f6, f7, f8, f9, f10⟩ := xT_ (HBS.out _ (Below.refl _ _))
 have kl := CalmW.cell (HLB.out _ (HW.out _ (Below.refl _ _)))
 have kc := CalmW.cell (HCB.out _ (HW.out _ (Below.refl _ _)))
 have ke := CalmW.cell (HCE.out _ (HW.out _ (Below.refl _ _)))
 have HLC := hD (fun (n : CalmW (((w.alloc (.cells #[.string v.name, .int .u64 v.id, .bool v.hid, .bool v.ro, .slice Bt v.tags.length bt, .slice Bs v.segs.length bs] 53)).alloc (.cells #[.int .i64 s.start, .int .i64 s.len, .int .i64 5, .slice (some ad) s.areas.length d0, .int .i64 s.chunk, .slice A1 s.stale.length d1, .string s.log, .string s.pool, .int .i64 s.dev, .int .i64 s.mode, .int .i64 s.done] 58)))) (t : ByteArray) => HLN.out n.w t ((HW.out _ (Below.refl _ _)).next n.ok))
 obtain ⟨j0, j1, j2, j3, j4, j5, j6, j7, j8, j9, j10⟩ := elev (HBS.out _ (Below.refl _ _))
 clear hx had b0
 go_enter Tryd.func86, Tryd.ntmps86
 go_upto_region 19 with fail
 clear j0 j1 j2 j3 j4 j5 j6 j7 j8 j9 j10
 refine ze_ (by kernel_rfl) (by kernel_rfl) ?_
 repeat (go_big_quiet_step ((go_at_call 85; exact Calls.calm (HLC.out _ _))))
 refine wpQuiet_nil ?_
 rintro _ ⟨n5, rfl⟩
 have HB7 := hD (HW.out _ n5.ok)
 clear f0 f1 f2 f3 f4 f5 f6 f7 f8 f9 f10 kl kc ke HLC eA
 generalize n5.w = w7 at *
 by_cases hq : lenO g x.on = s.len
 ·have q : (lenO g x.on == s.len) = true := by rw [hq]; simp
  have HE2 := hD (HE.out.trans (by rw [decide_eq_true hq]; rfl : _ = (0 : Int)));clear hq;go_wp2_with fail
  go_ret
  exact ⟨by rw [HE2.out]; rfl, HB7.out⟩
 ·have q : (lenO g x.on == s.len) = false := beq_eq_false_iff_ne.2 hq
  have HE2 := hD (HE.out.trans (by rw [decide_eq_false hq]; rfl : _ = (3 : Int)));clear hq;go_wp2_with fail
  go_ret
  exact ⟨by rw [HE2.out]; rfl, HB7.out⟩
set_option maxHeartbeats 16000000 in
theorem Yy_ {w : World} {S : Nat → Prop} {gc cb lb : Nat} {TC TM : TypeId} {g : Gr} {At Ad Av Ah : Option Addr} {ct cd cv ch : Nat} {vm : Value} (h : Ck w gc g At Ad Av Ah ct cd cv ch vm) (hcb : Blk w cb TC #[.pointer (some ⟨gc, 0, none⟩)]) (hlb : Blk w lb TM #[.func (.func 85) #[] #[.pointer (some ⟨cb, 0, none⟩)]]) (hz : SzG g) {v : Vo} {s : Sg} {A0 A1 Bt Bs : Option Addr} {d0 d1 bt bs : Nat} (har : AL w S (.slice A0 s.areas.length d0) s.areas) (hf : FitZ g s) (hk : s.kind = 7) :
  Calls Tryd.prog 86 #[.agg (voA v (.slice Bt v.tags.length bt) (.slice Bs v.segs.length bs)), .agg (sgA s (.slice A0 s.areas.length d0) (.slice A1 s.stale.length d1)), .pointer (some ⟨lb, 0, none⟩), .pointer (some ⟨cb, 0, none⟩)] w (Ret (.int .i64 (z5_ g s)) w) := by
 have hby := Blk.new (w.alloc (.cells #[.string v.name, .int .u64 v.id, .bool v.hid, .bool v.ro, .slice Bt v.tags.length bt, .slice Bs v.segs.length bs] 53)) 58 #[.int .i64 s.start, .int .i64 s.len, .int .i64 s.kind, .slice A0 s.areas.length d0, .int .i64 s.chunk, .slice A1 s.stale.length d1, .string s.log, .string s.pool, .int .i64 s.dev, .int .i64 s.mode, .int .i64 s.done]
 rw [show (w.alloc (.cells #[.string v.name, .int .u64 v.id, .bool v.hid, .bool v.ro, .slice Bt v.tags.length bt, .slice Bs v.segs.length bs] 53)).heap.size = w.heap.size + 1 by simp] at hby
 have HBS := hD (show ∀ w', Bel ((w.alloc (.cells #[.string v.name, .int .u64 v.id, .bool v.hid, .bool v.ro, .slice Bt v.tags.length bt, .slice Bs v.segs.length bs] 53)).alloc (.cells #[.int .i64 s.start, .int .i64 s.len, .int .i64 s.kind, .slice A0 s.areas.length d0, .int .i64 s.chunk, .slice A1 s.stale.length d1, .string s.log, .string s.pool, .int .i64 s.dev, .int .i64 s.mode, .int .i64 s.done] 58)) w' → Blk w' (w.heap.size + 1) 58 #[.int .i64 s.start, .int .i64 s.len, .int .i64 s.kind, .slice A0 s.areas.length d0, .int .i64 s.chunk, .slice A1 s.stale.length d1, .string s.log, .string s.pool, .int .i64 s.dev, .int .i64 s.mode, .int .i64 s.done] from fun w' hb => hby.below hb hby.lt)
 have HW := hD (show ∀ w', Bel ((w.alloc (.cells #[.string v.name, .int .u64 v.id, .bool v.hid, .bool v.ro, .slice Bt v.tags.length bt, .slice Bs v.segs.length bs] 53)).alloc (.cells #[.int .i64 s.start, .int .i64 s.len, .int .i64 s.kind, .slice A0 s.areas.length d0, .int .i64 s.chunk, .slice A1 s.stale.length d1, .string s.log, .string s.pool, .int .i64 s.dev, .int .i64 s.mode, .int .i64 s.done] 58)) w' → Bel w w' from fun w' hb => (((Below.refl _ _).al _).al _).next hb)
 have HLN := hD (show ∀ w' n, Bel w w' → Calls Tryd.prog 85 #[.string n, .pointer (some ⟨cb, 0, none⟩)] w' (Ret (.int .i64 (lenO g n)) w') from fun w' n hb => xz_ (h.up hb) (hcb.below hb hcb.lt) hz n)
 have HCB := hD (show ∀ w', Bel w w' → w'.cell? ⟨cb, 0, none⟩ = some (.pointer (some ⟨gc, 0, none⟩)) from fun w' hb => by rw [(hcb.below hb hcb.lt).cell]; rfl)
 have HLB := hD (show ∀ w', Bel w w' → w'.cell? ⟨lb, 0, none⟩ = some (.func (.func 85) #[] #[.pointer (some ⟨cb, 0, none⟩)]) from fun w' hb => by rw [(hlb.below hb hlb.lt).cell]; rfl)
 have HCE := hD (show ∀ w', Bel w w' → w'.cell? ⟨gc, 3, none⟩ = some (.int .i64 g.extent) from fun w' hb => (nine (h.up hb).blk).2.2.2.1)
 have HR := hD (show ∀ w', Bel w w' → AL w' S (.slice A0 s.areas.length d0) s.areas from fun w' hb => AL.up har hb)
 have HF := hD hf
 have hal := hf.areas
 obtain ⟨hl0, hl1⟩ := hf.len
 obtain ⟨he0, he1⟩ := hf.ext
 clear h har hz hf hby hcb hlb
 unfold voA sgA
 have HE := hD (show z5_ g s = if decide (lenO g (onAt s 0) = s.len) then 0 else 3 from QX_ g s hk)
 have hlen : 0 < s.areas.length := by rw [HF.out.h7 hk]; decide
 rw [hk] at HBS HW ⊢
 clear hk
 obtain ⟨ad, x, rfl, hx, _, had, b0⟩ := (HR.out _ (HW.out _ (Below.refl _ _))).at_ hlen
 rw [yL_ hx] at HE
 have eA := CalmW.cell (QA_ b0)
 obtain ⟨f0, f1, f2, f3, f4, f5, f6, f7, f8, f9, f10⟩ := xT_ (HBS.out _ (Below.refl _ _))
 have kl := CalmW.cell (HLB.out _ (HW.out _ (Below.refl _ _)))
 have kc := CalmW.cell (HCB.out _ (HW.out _ (Below.refl _ _)))
 have ke := CalmW.cell (HCE.out _ (HW.out _ (Below.refl _ _)))
 have HLC := hD (fun (n : CalmW (((w.alloc (.cells #[.string v.name, .int .u64 v.id, .bool v.hid, .bool v.ro, .slice Bt v.tags.length bt, .slice Bs v.segs.length bs] 53)).alloc (.cells #[.int .i64 s.start, .int .i64 s.len, .int .i64 7, .slice (some ad) s.areas.length d0, .int .i64 s.chunk, .slice A1 s.stale.length d1, .string s.log, .string s.pool, .int .i64 s.dev, .int .i64 s.mode, .int .i64 s.done] 58)))) (t : ByteArray) => HLN.out n.w t ((HW.out _ (Below.refl _ _)).next n.ok))
 obtain ⟨j0, j1, j2, j3, j4, j5, j6, j7, j8, j9, j10⟩ := elev (HBS.out _ (Below.refl _ _))
 clear hx had b0
 go_enter Tryd.func86, Tryd.ntmps86
 go_upto_region 21 with fail
 clear j0 j1 j2 j3 j4 j5 j6 j7 j8 j9 j10
 refine ze_ (by kernel_rfl) (by kernel_rfl) ?_
 repeat (go_big_quiet_step ((go_at_call 85; exact Calls.calm (HLC.out _ _))))
 refine wpQuiet_nil ?_
 rintro _ ⟨n5, rfl⟩
 have HB7 := hD (HW.out _ n5.ok)
 clear f0 f1 f2 f3 f4 f5 f6 f7 f8 f9 f10 kl kc ke HLC eA
 generalize n5.w = w7 at *
 by_cases hq : lenO g x.on = s.len
 ·have q : (lenO g x.on == s.len) = true := by rw [hq]; simp
  have HE2 := hD (HE.out.trans (by rw [decide_eq_true hq]; rfl : _ = (0 : Int)));clear hq;go_wp2_with fail
  go_ret
  exact ⟨by rw [HE2.out]; rfl, HB7.out⟩
 ·have q : (lenO g x.on == s.len) = false := beq_eq_false_iff_ne.2 hq
  have HE2 := hD (HE.out.trans (by rw [decide_eq_false hq]; rfl : _ = (3 : Int)));clear hq;go_wp2_with fail
  go_ret
  exact ⟨by rw [HE2.out]; rfl, HB7.out⟩
set_option maxHeartbeats 16000000 in
theorem YB_ {w : World} {S : Nat → Prop} {gc cb lb : Nat} {TC TM : TypeId} {g : Gr} {At Ad Av Ah : Option Addr} {ct cd cv ch : Nat} {vm : Value} (h : Ck w gc g At Ad Av Ah ct cd cv ch vm) (hcb : Blk w cb TC #[.pointer (some ⟨gc, 0, none⟩)]) (hlb : Blk w lb TM #[.func (.func 85) #[] #[.pointer (some ⟨cb, 0, none⟩)]]) (hz : SzG g) {v : Vo} {s : Sg} {A0 A1 Bt Bs : Option Addr} {d0 d1 bt bs : Nat} (har : AL w S (.slice A0 s.areas.length d0) s.areas) (hf : FitZ g s) (hk : s.kind = 3) :
  Calls Tryd.prog 86 #[.agg (voA v (.slice Bt v.tags.length bt) (.slice Bs v.segs.length bs)), .agg (sgA s (.slice A0 s.areas.length d0) (.slice A1 s.stale.length d1)), .pointer (some ⟨lb, 0, none⟩), .pointer (some ⟨cb, 0, none⟩)] w (Ret (.int .i64 (z5_ g s)) w) := by
 have hby := Blk.new (w.alloc (.cells #[.string v.name, .int .u64 v.id, .bool v.hid, .bool v.ro, .slice Bt v.tags.length bt, .slice Bs v.segs.length bs] 53)) 58 #[.int .i64 s.start, .int .i64 s.len, .int .i64 s.kind, .slice A0 s.areas.length d0, .int .i64 s.chunk, .slice A1 s.stale.length d1, .string s.log, .string s.pool, .int .i64 s.dev, .int .i64 s.mode, .int .i64 s.done]
 rw [show (w.alloc (.cells #[.string v.name, .int .u64 v.id, .bool v.hid, .bool v.ro, .slice Bt v.tags.length bt, .slice Bs v.segs.length bs] 53)).heap.size = w.heap.size + 1 by simp] at hby
 have HBS := hD (show ∀ w', Bel ((w.alloc (.cells #[.string v.name, .int .u64 v.id, .bool v.hid, .bool v.ro, .slice Bt v.tags.length bt, .slice Bs v.segs.length bs] 53)).alloc (.cells #[.int .i64 s.start, .int .i64 s.len, .int .i64 s.kind, .slice A0 s.areas.length d0, .int .i64 s.chunk, .slice A1 s.stale.length d1, .string s.log, .string s.pool, .int .i64 s.dev, .int .i64 s.mode, .int .i64 s.done] 58)) w' → Blk w' (w.heap.size + 1) 58 #[.int .i64 s.start, .int .i64 s.len, .int .i64 s.kind, .slice A0 s.areas.length d0, .int .i64 s.chunk, .slice A1 s.stale.length d1, .string s.log, .string s.pool, .int .i64 s.dev, .int .i64 s.mode, .int .i64 s.done] from fun w' hb => hby.below hb hby.lt)
 have HW := hD (show ∀ w', Bel ((w.alloc (.cells #[.string v.name, .int .u64 v.id, .bool v.hid, .bool v.ro, .slice Bt v.tags.length bt, .slice Bs v.segs.length bs] 53)).alloc (.cells #[.int .i64 s.start, .int .i64 s.len, .int .i64 s.kind, .slice A0 s.areas.length d0, .int .i64 s.chunk, .slice A1 s.stale.length d1, .string s.log, .string s.pool, .int .i64 s.dev, .int .i64 s.mode, .int .i64 s.done] 58)) w' → Bel w w' from fun w' hb => (((Below.refl _ _).al _).al _).next hb)
 have HLN := hD (show ∀ w' n, Bel w w' → Calls Tryd.prog 85 #[.string n, .pointer (some ⟨cb, 0, none⟩)] w' (Ret (.int .i64 (lenO g n)) w') from fun w' n hb => xz_ (h.up hb) (hcb.below hb hcb.lt) hz n)
 have HCB := hD (show ∀ w', Bel w w' → w'.cell? ⟨cb, 0, none⟩ = some (.pointer (some ⟨gc, 0, none⟩)) from fun w' hb => by rw [(hcb.below hb hcb.lt).cell]; rfl)
 have HLB := hD (show ∀ w', Bel w w' → w'.cell? ⟨lb, 0, none⟩ = some (.func (.func 85) #[] #[.pointer (some ⟨cb, 0, none⟩)]) from fun w' hb => by rw [(hlb.below hb hlb.lt).cell]; rfl)
 have HCE := hD (show ∀ w', Bel w w' → w'.cell? ⟨gc, 3, none⟩ = some (.int .i64 g.extent) from fun w' hb => (nine (h.up hb).blk).2.2.2.1)
 have HR := hD (show ∀ w', Bel w w' → AL w' S (.slice A0 s.areas.length d0) s.areas from fun w' hb => AL.up har hb)
 have HF := hD hf
 have hal := hf.areas
 obtain ⟨hl0, hl1⟩ := hf.len
 obtain ⟨he0, he1⟩ := hf.ext
 clear h har hz hf hby hcb hlb
 unfold voA sgA
 have HE := hD (Q0_ g s hk)
 obtain ⟨hc0, hc1⟩ := HF.out.h3 hk
 rw [hk] at HBS HW ⊢
 clear hk
 obtain ⟨j0, j1, j2, j3, j4, j5, j6, j7, j8, j9, j10⟩ := elev (HBS.out _ (Below.refl _ _))
 go_enter Tryd.func86, Tryd.ntmps86
 go_wp2_with fail
 clear j0 j1 j2 j3 j4 j5 j6 j7 j8 j9 j10
 go_loopw [7, 20] (fun ok i wx => ∃ k : Nat, k ≤ s.areas.length ∧ i = .int .i64 (k : Int) ∧ ok = .bool ((s.areas.take k).all (fun a => decide (lenO g a.on = s.len))) ∧ Bel (((w.alloc (.cells #[.string v.name, .int .u64 v.id, .bool v.hid, .bool v.ro, .slice Bt v.tags.length bt, .slice Bs v.segs.length bs] 53)).alloc (.cells #[.int .i64 s.start, .int .i64 s.len, .int .i64 3, .slice A0 s.areas.length d0, .int .i64 s.chunk, .slice A1 s.stale.length d1, .string s.log, .string s.pool, .int .i64 s.dev, .int .i64 s.mode, .int .i64 s.done] 58))) wx) (fun _ i _ => s.areas.length - (intOf i).toNat)
 case atStart => exact ⟨0, Nat.zero_le _, rfl, rfl, Below.refl _ _⟩
 case round =>
  obtain ⟨k, hk, rfl, rfl, hb⟩ := hrel;have HB := hD hb;obtain ⟨b, hbv⟩ : ∃ b, (s.areas.take k).all (fun a => decide (lenO g a.on = s.len)) = b := ⟨_, rfl⟩;have HBV := hD hbv;rw [hbv];clear hb hbv;by_cases hlt : k < s.areas.length
  ·have z0 : (k : Int) < (s.areas.length : Int) := by omega
   have z1 : (0 : Int) ≤ (k : Int) := by omega
   obtain ⟨ad, x, rfl, hx, _, had, b0⟩ := (HR.out _ (HW.out _ HB.out)).at_ hlt;obtain ⟨a0, a1, a2⟩ := b0;have HN := hD ((Zh_ (p := fun a => decide (lenO g a.on = s.len)) hx).trans (by rw [HBV.out]));have HBA := hD (HB.out.al (.cells #[.bool x.vol, .string x.on, .int .i64 x.start] 60));have e1 := CalmW.cell (show (wr.alloc (.cells #[.bool x.vol, .string x.on, .int .i64 x.start] 60)).cell? ⟨wr.heap.size, 1, none⟩ = some (.string x.on) by rw [(Blk.new wr _ _).cell]; rfl);obtain ⟨f0, f1, f2, f3, f4, f5, f6, f7, f8, f9, f10⟩ := xT_ (HBS.out _ (HBA.out));have kl := CalmW.cell (HLB.out _ (HW.out _ (HBA.out)));have kc := CalmW.cell (HCB.out _ (HW.out _ (HBA.out)));have ke := CalmW.cell (HCE.out _ (HW.out _ (HBA.out)));have HLC := hD (fun (n : CalmW (wr.alloc (.cells #[.bool x.vol, .string x.on, .int .i64 x.start] 60))) (t : ByteArray) => HLN.out n.w t ((HW.out _ (HBA.out)).next n.ok));clear hx had;go_upto_region 7 with fail
   clear a0 a1 a2;cases b with
   | false =>
    refine ze_ (by kernel_rfl) (by kernel_rfl) ?_;repeat (go_big_quiet_step (fail))
    refine wpQuiet_nil ?_;rintro _ ⟨n5, rfl⟩;have HB7 := hD (HBA.out.next n5.ok);clear f0 f1 f2 f3 f4 f5 f6 f7 f8 f9 f10 kl kc ke HLC e1;generalize n5.w = w7 at *;go_wp2_with fail
    go_roundw
    case rel => exact ⟨k + 1, by omega, by go_num, by rw [HN.out]; rfl, HB7.out⟩
    case measure => simp [intOf]; omega
   | true =>
    refine ze_ (by kernel_rfl) (by kernel_rfl) ?_;repeat (go_big_quiet_step ((go_at_call 85; exact Calls.calm (HLC.out _ _))))
    refine wpQuiet_nil ?_;rintro _ ⟨n5, rfl⟩;have HB7 := hD (HBA.out.next n5.ok);clear f0 f1 f2 f3 f4 f5 f6 f7 f8 f9 f10 kl kc ke HLC e1;generalize n5.w = w7 at *;go_wp2_with fail
    go_roundw
    case rel => exact ⟨k + 1, by omega, by go_num, by rw [HN.out]; rfl, HB7.out⟩
    case measure => simp [intOf]; omega
  ·obtain rfl : k = s.areas.length := by omega
   have HAL := hD (show s.areas.all (fun a => decide (lenO g a.on = s.len)) = b by rw [← HBV.out, List.take_length]);obtain ⟨hm0, hm1⟩ := Jc_ hl0 hl1 he0 he1;have wm : IntKind.i64.wrap (s.len * g.extent) = s.len * g.extent := IntWalk.i64_in _ (by omega);obtain ⟨p, hp⟩ : ∃ p, s.len * g.extent = p := ⟨_, rfl⟩;rw [hp] at HE hm0 hm1 wm;have HP := hD hp;have hoi := jl_ (n := p) (d := s.chunk) (by omega) (by omega) (by omega) (by omega);have HOV := hD (fun n : CalmW wr => kW_ n.w (n := p) (d := s.chunk) (by omega) (by omega) (by omega) (by omega));obtain ⟨r, hr⟩ : ∃ r, yS_ p s.chunk = r := ⟨_, rfl⟩;rw [hr] at HE hoi HOV;have wm2 : IntKind.i64.wrap (s.len * g.extent) = p := by rw [hp]; exact wm
   obtain ⟨f0, f1, f2, f3, f4, f5, f6, f7, f8, f9, f10⟩ := xT_ (HBS.out _ (HB.out));have kl := CalmW.cell (HLB.out _ (HW.out _ (HB.out)));have kc := CalmW.cell (HCB.out _ (HW.out _ (HB.out)));have ke := CalmW.cell (HCE.out _ (HW.out _ (HB.out)));have HLC := hD (fun (n : CalmW (wr)) (t : ByteArray) => HLN.out n.w t ((HW.out _ (HB.out)).next n.ok));clear hr hp;go_upto_region 9 with fail
   refine ze_ (by kernel_rfl) (by kernel_rfl) ?_;repeat (go_big_quiet_step ((go_at_call 87; exact Calls.calm (HOV.out _))))
   refine wpQuiet_nil ?_;rintro _ ⟨n5, rfl⟩;have HB9 := hD (HB.out.next n5.ok);clear f0 f1 f2 f3 f4 f5 f6 f7 f8 f9 f10 kl kc ke HLC HOV;generalize n5.w = w9 at *;clear wm2;obtain ⟨f0, f1, f2, f3, f4, f5, f6, f7, f8, f9, f10⟩ := xT_ (HBS.out _ (HB9.out));have kl := CalmW.cell (HLB.out _ (HW.out _ (HB9.out)));have kc := CalmW.cell (HCB.out _ (HW.out _ (HB9.out)));have ke := CalmW.cell (HCE.out _ (HW.out _ (HB9.out)));have HLC := hD (fun (n : CalmW (w9)) (t : ByteArray) => HLN.out n.w t ((HW.out _ (HB9.out)).next n.ok));go_upto_region 10 with fail
   cases b with
   | false =>
    refine ze_ (by kernel_rfl) (by kernel_rfl) ?_;repeat (go_big_quiet_step (fail))
    refine wpQuiet_nil ?_;rintro _ ⟨n5, rfl⟩;have HB10 := hD (HB9.out.next n5.ok);clear f0 f1 f2 f3 f4 f5 f6 f7 f8 f9 f10 kl kc ke HLC;generalize n5.w = w10 at *;have HE2 := hD (show z5_ g s = 3 from by rw [HE.out, HAL.out]; rfl);go_wp2_with fail
    go_ret
    exact ⟨by rw [HE2.out]; rfl, HW.out _ (HB10.out)⟩
   | true =>
    by_cases hlg : s.log = ⟨#[]⟩
    ·have ql : s.log.toList.isEmpty = true := by rw [hlg]; kernel_rfl
     have HQL := hD hlg;clear hlg;refine ze_ (by kernel_rfl) (by kernel_rfl) ?_;repeat (go_big_quiet_step (fail))
     refine wpQuiet_nil ?_;rintro _ ⟨n5, rfl⟩;have HB10 := hD (HB9.out.next n5.ok);clear f0 f1 f2 f3 f4 f5 f6 f7 f8 f9 f10 kl kc ke HLC;generalize n5.w = w10 at *;have HE2 := hD (show z5_ g s = 0 from by rw [HE.out, HAL.out, HQL.out]; rfl);go_wp2_with fail
     go_ret
     exact ⟨by rw [HE2.out]; rfl, HW.out _ (HB10.out)⟩
    ·have ql : s.log.toList.isEmpty = false := Bool.eq_false_iff.2 (fun h => hlg (zH_ h))
     have HQL := hD hlg;clear hlg;obtain ⟨l, hl⟩ : ∃ l, lenO g s.log = l := ⟨_, rfl⟩;have hlb := Y3_ g s.log;rw [hl] at HE hlb;have HL := hD hl;obtain ⟨hn0, hn1⟩ := ky_ hlb.1 hlb.2 he0 he1;have wn : IntKind.i64.wrap (l * g.extent) = l * g.extent := IntWalk.i64_in _ (by omega);have hoj := jl_ (n := r) (d := 64) (by omega) (by omega) (by omega) (by omega);have wo : IntKind.i64.wrap (1 + yS_ r 64) = 1 + yS_ r 64 := IntWalk.i64_in _ (by omega);have HOW := hD (fun n : CalmW w9 => kW_ n.w (n := r) (d := 64) (by omega) (by omega) (by omega) (by omega));have HLL := hD (show ∀ n : CalmW w9, Calls Tryd.prog 85 #[.string s.log, .pointer (some ⟨cb, 0, none⟩)] n.w (Ret (.int .i64 l) n.w) from fun n => by have := HLC.out n s.log; rw [hl] at this; exact this);clear hl;by_cases hq : 1 + yS_ r 64 ≤ l * g.extent
     ·have q : decide (1 + yS_ r 64 ≤ l * g.extent) = true := decide_eq_true hq
      have HQ := hD q;clear hq;refine ze_ (by kernel_rfl) (by kernel_rfl) ?_;repeat (go_big_quiet_step (first | (go_at_call 85; exact Calls.calm (HLL.out _)) | (go_at_call 87; exact Calls.calm (HOW.out _))))
      refine wpQuiet_nil ?_;rintro _ ⟨n5, rfl⟩;have HB10 := hD (HB9.out.next n5.ok);clear f0 f1 f2 f3 f4 f5 f6 f7 f8 f9 f10 kl kc ke HLC HLL HOW;generalize n5.w = w10 at *;have HE2 := hD (show z5_ g s = 0 from by rw [HE.out, HAL.out, HQ.out, Bool.or_true]; rfl);go_wp2_with fail
      go_ret
      exact ⟨by rw [HE2.out]; rfl, HW.out _ (HB10.out)⟩
     ·have q : decide (1 + yS_ r 64 ≤ l * g.extent) = false := decide_eq_false hq
      have HQ := hD q;clear hq;refine ze_ (by kernel_rfl) (by kernel_rfl) ?_;repeat (go_big_quiet_step (first | (go_at_call 85; exact Calls.calm (HLL.out _)) | (go_at_call 87; exact Calls.calm (HOW.out _))))
      refine wpQuiet_nil ?_;rintro _ ⟨n5, rfl⟩;have HB10 := hD (HB9.out.next n5.ok);clear f0 f1 f2 f3 f4 f5 f6 f7 f8 f9 f10 kl kc ke HLC HLL HOW;generalize n5.w = w10 at *;have HE2 := hD (show z5_ g s = 3 from by rw [HE.out, HAL.out, HQ.out, decide_eq_false HQL.out]; rfl);go_wp2_with fail
      go_ret
      exact ⟨by rw [HE2.out]; rfl, HW.out _ (HB10.out)⟩
set_option maxHeartbeats 16000000 in
theorem YA_ {w : World} {S : Nat → Prop} {gc cb lb : Nat} {TC TM : TypeId} {g : Gr} {At Ad Av Ah : Option Addr} {ct cd cv ch : Nat} {vm : Value} (h : Ck w gc g At Ad Av Ah ct cd cv ch vm) (hcb : Blk w cb TC #[.pointer (some ⟨gc, 0, none⟩)]) (hlb : Blk w lb TM #[.func (.func 85) #[] #[.pointer (some ⟨cb, 0, none⟩)]]) (hz : SzG g) {v : Vo} {s : Sg} {A0 A1 Bt Bs : Option Addr} {d0 d1 bt bs : Nat} (har : AL w S (.slice A0 s.areas.length d0) s.areas) (hf : FitZ g s) (hk : s.kind = 4) :
  Calls Tryd.prog 86 #[.agg (voA v (.slice Bt v.tags.length bt) (.slice Bs v.segs.length bs)), .agg (sgA s (.slice A0 s.areas.length d0) (.slice A1 s.stale.length d1)), .pointer (some ⟨lb, 0, none⟩), .pointer (some ⟨cb, 0, none⟩)] w (Ret (.int .i64 (z5_ g s)) w) := by
 have hby := Blk.new (w.alloc (.cells #[.string v.name, .int .u64 v.id, .bool v.hid, .bool v.ro, .slice Bt v.tags.length bt, .slice Bs v.segs.length bs] 53)) 58 #[.int .i64 s.start, .int .i64 s.len, .int .i64 s.kind, .slice A0 s.areas.length d0, .int .i64 s.chunk, .slice A1 s.stale.length d1, .string s.log, .string s.pool, .int .i64 s.dev, .int .i64 s.mode, .int .i64 s.done]
 rw [show (w.alloc (.cells #[.string v.name, .int .u64 v.id, .bool v.hid, .bool v.ro, .slice Bt v.tags.length bt, .slice Bs v.segs.length bs] 53)).heap.size = w.heap.size + 1 by simp] at hby
 have HBS := hD (show ∀ w', Bel ((w.alloc (.cells #[.string v.name, .int .u64 v.id, .bool v.hid, .bool v.ro, .slice Bt v.tags.length bt, .slice Bs v.segs.length bs] 53)).alloc (.cells #[.int .i64 s.start, .int .i64 s.len, .int .i64 s.kind, .slice A0 s.areas.length d0, .int .i64 s.chunk, .slice A1 s.stale.length d1, .string s.log, .string s.pool, .int .i64 s.dev, .int .i64 s.mode, .int .i64 s.done] 58)) w' → Blk w' (w.heap.size + 1) 58 #[.int .i64 s.start, .int .i64 s.len, .int .i64 s.kind, .slice A0 s.areas.length d0, .int .i64 s.chunk, .slice A1 s.stale.length d1, .string s.log, .string s.pool, .int .i64 s.dev, .int .i64 s.mode, .int .i64 s.done] from fun w' hb => hby.below hb hby.lt)
 have HW := hD (show ∀ w', Bel ((w.alloc (.cells #[.string v.name, .int .u64 v.id, .bool v.hid, .bool v.ro, .slice Bt v.tags.length bt, .slice Bs v.segs.length bs] 53)).alloc (.cells #[.int .i64 s.start, .int .i64 s.len, .int .i64 s.kind, .slice A0 s.areas.length d0, .int .i64 s.chunk, .slice A1 s.stale.length d1, .string s.log, .string s.pool, .int .i64 s.dev, .int .i64 s.mode, .int .i64 s.done] 58)) w' → Bel w w' from fun w' hb => (((Below.refl _ _).al _).al _).next hb)
 have HLN := hD (show ∀ w' n, Bel w w' → Calls Tryd.prog 85 #[.string n, .pointer (some ⟨cb, 0, none⟩)] w' (Ret (.int .i64 (lenO g n)) w') from fun w' n hb => xz_ (h.up hb) (hcb.below hb hcb.lt) hz n)
 have HCB := hD (show ∀ w', Bel w w' → w'.cell? ⟨cb, 0, none⟩ = some (.pointer (some ⟨gc, 0, none⟩)) from fun w' hb => by rw [(hcb.below hb hcb.lt).cell]; rfl)
 have HLB := hD (show ∀ w', Bel w w' → w'.cell? ⟨lb, 0, none⟩ = some (.func (.func 85) #[] #[.pointer (some ⟨cb, 0, none⟩)]) from fun w' hb => by rw [(hlb.below hb hlb.lt).cell]; rfl)
 have HCE := hD (show ∀ w', Bel w w' → w'.cell? ⟨gc, 3, none⟩ = some (.int .i64 g.extent) from fun w' hb => (nine (h.up hb).blk).2.2.2.1)
 have HR := hD (show ∀ w', Bel w w' → AL w' S (.slice A0 s.areas.length d0) s.areas from fun w' hb => AL.up har hb)
 have HF := hD hf
 have hal := hf.areas
 obtain ⟨hl0, hl1⟩ := hf.len
 obtain ⟨he0, he1⟩ := hf.ext
 clear h har hz hf hby hcb hlb
 unfold voA sgA
 have HE := hD (QZ_ g s hk)
 have hn3 := HF.out.h4 hk
 rw [hk] at HBS HW ⊢
 clear hk
 obtain ⟨ad, x0, rfl, hx0, _, had, b00⟩ := (HR.out _ (HW.out _ (Below.refl _ _))).at_ (k := 0) (by omega)
 rw [yL_ hx0] at HE
 have HA0 := hD (show ∀ w', Bel w w' → w'.cell? ⟨ad.block, ad.off + 1, none⟩ = some (.string x0.on) from fun w' hb => by
  obtain ⟨ad', x', ea, hx', _, _, b0'⟩ := (HR.out _ hb).at_ (k := 0) (by omega);injection ea with ea;subst ea;rw [hx0] at hx';injection hx' with hx';subst hx';exact QA_ b0')
 clear had b00 hx0
 obtain ⟨j0, j1, j2, j3, j4, j5, j6, j7, j8, j9, j10⟩ := elev (HBS.out _ (Below.refl _ _))
 go_enter Tryd.func86, Tryd.ntmps86
 go_wp2_with fail
 clear j0 j1 j2 j3 j4 j5 j6 j7 j8 j9 j10
 go_loopw [7, 73] (fun ok i wx => ∃ k : Nat, k ≤ s.areas.length ∧ i = .int .i64 (k : Int) ∧ ok = .bool ((s.areas.take k).all (fun a => decide (lenO g a.on = lenO g x0.on))) ∧ Bel (((w.alloc (.cells #[.string v.name, .int .u64 v.id, .bool v.hid, .bool v.ro, .slice Bt v.tags.length bt, .slice Bs v.segs.length bs] 53)).alloc (.cells #[.int .i64 s.start, .int .i64 s.len, .int .i64 4, .slice (some ad) s.areas.length d0, .int .i64 s.chunk, .slice A1 s.stale.length d1, .string s.log, .string s.pool, .int .i64 s.dev, .int .i64 s.mode, .int .i64 s.done] 58))) wx) (fun _ i _ => s.areas.length - (intOf i).toNat)
 case atStart => exact ⟨0, Nat.zero_le _, rfl, rfl, Below.refl _ _⟩
 case round =>
  obtain ⟨k, hk, rfl, rfl, hb⟩ := hrel;have HB := hD hb;obtain ⟨b, hbv⟩ : ∃ b, (s.areas.take k).all (fun a => decide (lenO g a.on = lenO g x0.on)) = b := ⟨_, rfl⟩;have HBV := hD hbv;rw [hbv];clear hb hbv;by_cases hlt : k < s.areas.length
  ·have z0 : (k : Int) < (s.areas.length : Int) := by omega
   have z1 : (0 : Int) ≤ (k : Int) := by omega
   obtain ⟨ad', x, ea, hx, _, had, b0⟩ := (HR.out _ (HW.out _ HB.out)).at_ hlt;injection ea with ea;subst ea;obtain ⟨a0, a1, a2⟩ := b0;have HN := hD ((Zh_ (p := fun a => decide (lenO g a.on = lenO g x0.on)) hx).trans (by rw [HBV.out]));have HBA := hD (HB.out.al (.cells #[.bool x.vol, .string x.on, .int .i64 x.start] 60));have e1 := CalmW.cell (show (wr.alloc (.cells #[.bool x.vol, .string x.on, .int .i64 x.start] 60)).cell? ⟨wr.heap.size, 1, none⟩ = some (.string x.on) by rw [(Blk.new wr _ _).cell]; rfl);have e0 := CalmW.cell (HA0.out _ (HW.out _ HBA.out));obtain ⟨f0, f1, f2, f3, f4, f5, f6, f7, f8, f9, f10⟩ := xT_ (HBS.out _ (HBA.out));have kl := CalmW.cell (HLB.out _ (HW.out _ (HBA.out)));have kc := CalmW.cell (HCB.out _ (HW.out _ (HBA.out)));have ke := CalmW.cell (HCE.out _ (HW.out _ (HBA.out)));have HLC := hD (fun (n : CalmW (wr.alloc (.cells #[.bool x.vol, .string x.on, .int .i64 x.start] 60))) (t : ByteArray) => HLN.out n.w t ((HW.out _ (HBA.out)).next n.ok));clear hx had;go_upto_region 15 with fail
   clear a0 a1 a2;cases b with
   | false =>
    refine ze_ (by kernel_rfl) (by kernel_rfl) ?_;repeat (go_big_quiet_step (fail))
    refine wpQuiet_nil ?_;rintro _ ⟨n5, rfl⟩;have HB7 := hD (HBA.out.next n5.ok);clear f0 f1 f2 f3 f4 f5 f6 f7 f8 f9 f10 kl kc ke HLC e1 e0;generalize n5.w = w7 at *;go_wp2_with fail
    go_roundw
    case rel => exact ⟨k + 1, by omega, by go_num, by rw [HN.out]; rfl, HB7.out⟩
    case measure => simp [intOf]; omega
   | true =>
    refine ze_ (by kernel_rfl) (by kernel_rfl) ?_;repeat (go_big_quiet_step ((go_at_call 85; exact Calls.calm (HLC.out _ _))))
    refine wpQuiet_nil ?_;rintro _ ⟨n5, rfl⟩;have HB7 := hD (HBA.out.next n5.ok);clear f0 f1 f2 f3 f4 f5 f6 f7 f8 f9 f10 kl kc ke HLC e1 e0;generalize n5.w = w7 at *;go_wp2_with fail
    go_roundw
    case rel => exact ⟨k + 1, by omega, by go_num, by rw [HN.out]; rfl, HB7.out⟩
    case measure => simp [intOf]; omega
  ·obtain rfl : k = s.areas.length := by omega
   have HAL := hD (show s.areas.all (fun a => decide (lenO g a.on = lenO g x0.on)) = b by rw [← HBV.out, List.take_length]);obtain ⟨l, hl⟩ : ∃ l, lenO g x0.on = l := ⟨_, rfl⟩;have hlb := Y3_ g x0.on;rw [hl] at HE hlb HAL;have z3 : (3 : Int) ≤ (s.areas.length : Int) := by omega
   have hdn := Ys_ (n := s.len) (d := (s.areas.length : Int) - 1) (by omega) (by omega) (by omega);obtain ⟨d, hd⟩ : ∃ d, s.len.tdiv ((s.areas.length : Int) - 1) = d := ⟨_, rfl⟩;rw [hd] at HE hdn;obtain ⟨hn0, hn1⟩ := ky_ hlb.1 hlb.2 he0 he1;obtain ⟨hm0, hm1⟩ := ky_ hdn.1 (Int.le_trans hdn.2 hl1) he0 he1;have wn : IntKind.i64.wrap (l * g.extent) = l * g.extent := IntWalk.i64_in _ (by omega);have wm : IntKind.i64.wrap (d * g.extent) = d * g.extent := IntWalk.i64_in _ (by omega);have wa : IntKind.i64.wrap (d * g.extent + 16) = d * g.extent + 16 := IntWalk.i64_in _ (by omega);have ws : IntKind.i64.wrap ((s.areas.length : Int) - 1) = (s.areas.length : Int) - 1 := IntWalk.i64_in _ (by omega);have wd : IntKind.i64.wrap (s.len.tdiv ((s.areas.length : Int) - 1)) = d := by rw [hd]; exact IntWalk.i64_in _ (by omega)
   have hne : ¬ ((s.areas.length : Int) - 1 = 0) := by omega
   obtain ⟨f0, f1, f2, f3, f4, f5, f6, f7, f8, f9, f10⟩ := xT_ (HBS.out _ (HB.out));have kl := CalmW.cell (HLB.out _ (HW.out _ (HB.out)));have kc := CalmW.cell (HCB.out _ (HW.out _ (HB.out)));have ke := CalmW.cell (HCE.out _ (HW.out _ (HB.out)));have HLC := hD (fun (n : CalmW (wr)) (t : ByteArray) => HLN.out n.w t ((HW.out _ (HB.out)).next n.ok));have e0 := CalmW.cell (HA0.out _ (HW.out _ HB.out));have HLL := hD (show ∀ n : CalmW wr, Calls Tryd.prog 85 #[.string x0.on, .pointer (some ⟨cb, 0, none⟩)] n.w (Ret (.int .i64 l) n.w) from fun n => by have := HLC.out n x0.on; rw [hl] at this; exact this);clear hl hd hdn z3 hlb;go_upto_region 17 with fail
   cases b with
   | false =>
    refine ze_ (by kernel_rfl) (by kernel_rfl) ?_;repeat (go_big_quiet_step (fail))
    refine wpQuiet_nil ?_;rintro _ ⟨n5, rfl⟩;have HB10 := hD (HB.out.next n5.ok);clear f0 f1 f2 f3 f4 f5 f6 f7 f8 f9 f10 kl kc ke HLC e0 HLL;generalize n5.w = w10 at *;have HE2 := hD (show z5_ g s = 3 from by rw [HE.out, HAL.out]; rfl);go_wp2_with fail
    go_ret
    exact ⟨by rw [HE2.out]; rfl, HW.out _ (HB10.out)⟩
   | true =>
    by_cases hq : d * g.extent + 16 ≤ l * g.extent
    ·have q : decide (d * g.extent + 16 ≤ l * g.extent) = true := decide_eq_true hq
     have HQ := hD q;clear hq;refine ze_ (by kernel_rfl) (by kernel_rfl) ?_;repeat (go_big_quiet_step ((go_at_call 85; exact Calls.calm (HLL.out _))))
     refine wpQuiet_nil ?_;rintro _ ⟨n5, rfl⟩;have HB10 := hD (HB.out.next n5.ok);clear f0 f1 f2 f3 f4 f5 f6 f7 f8 f9 f10 kl kc ke HLC e0 HLL;generalize n5.w = w10 at *;have HE2 := hD (show z5_ g s = 0 from by rw [HE.out, HAL.out, HQ.out]; rfl);go_wp2_with fail
     go_ret
     exact ⟨by rw [HE2.out]; rfl, HW.out _ (HB10.out)⟩
    ·have q : decide (d * g.extent + 16 ≤ l * g.extent) = false := decide_eq_false hq
     have HQ := hD q;clear hq;refine ze_ (by kernel_rfl) (by kernel_rfl) ?_;repeat (go_big_quiet_step ((go_at_call 85; exact Calls.calm (HLL.out _))))
     refine wpQuiet_nil ?_;rintro _ ⟨n5, rfl⟩;have HB10 := hD (HB.out.next n5.ok);clear f0 f1 f2 f3 f4 f5 f6 f7 f8 f9 f10 kl kc ke HLC e0 HLL;generalize n5.w = w10 at *;have HE2 := hD (show z5_ g s = 3 from by rw [HE.out, HAL.out, HQ.out]; rfl);go_wp2_with fail
     go_ret
     exact ⟨by rw [HE2.out]; rfl, HW.out _ (HB10.out)⟩
end Go.Proofs.YtdkcfgahdcpkkaaDoor
