/- rule 7: the closure that takes extents (printed by genOver.py). -/
import Derived.Test.YtdkcfgahdcpkkaaDoorCOverP
import Derived.Test.YtdkcfgahdcpkkaaDoorCAwake
set_option linter.all false
namespace Go.Proofs.YtdkcfgahdcpkkaaDoor
open Go.RowKit Go.Maps
set_option maxRecDepth 100000
theorem addB (Q o k : Nat) : (⟨Q, o, none⟩ : Addr).add k = ⟨Q, o + k, none⟩ := by
 unfold Addr.add
 split
 ·rename_i h; subst h; rfl
 ·rfl
def anyB (f : Nat → Bool) (o m : Nat) : Bool := (List.range m).any fun j => f (o + j)
theorem bcell {w : World} {Q N i : Nat} {f : Nat → Bool} (hb : Blk w Q 4 (bcells f N)) (h : i < N) : w.cell? ⟨Q, i, none⟩ = some (.bool (f i)) := by
 rw [hb.cell, Z8_ h]
set_option maxHeartbeats 4000000 in
theorem jx_ {w : World} {Q N o m c : Nat} {f : Nat → Bool} (hb : Blk w Q 4 (bcells f N)) (h : o + m ≤ N) (hm : m ≤ 1000000) :
  Calls Tryd.prog 89 #[.slice (some ⟨Q, o, none⟩) m c, .bool true] w (Ret (.bool (anyB f o m)) w) := by
 have HI : Calls Tryd.prog 114 #[.slice (some ⟨Q, o, none⟩) m c, .bool true] w (fun e w' => ∃ z : Int, e = .returned (.int .i64 z) ∧ decide (0 ≤ z) = anyB f o m ∧ Bel w w') := by
  have HC := hD (show ∀ wx k, Bel w wx → k < m → wx.cell? ((⟨Q, o, none⟩ : Addr).add k) = some (.bool (f (o + k))) from fun wx k hbw hk => by rw [addB]; exact bcell (hb.below hbw hb.lt) (by omega));clear hb;go_enter Tryd.func114, Tryd.ntmps114
  go_wp2_with fail
  go_loopw [8] (fun v wr => ∃ k : Nat, k ≤ m ∧ v = .int .i64 (k : Int) ∧ (∀ j, j < k → f (o + j) = false) ∧ Bel w wr) (fun v _ => m - (intOf v).toNat)
  case atStart => exact ⟨0, Nat.zero_le _, rfl, fun j h => absurd h (Nat.not_lt_zero _), Below.refl _ _⟩
  case round =>
   obtain ⟨k, hk, rfl, hn, hb⟩ := hrel;have HN := hD hn;have HB := hD hb;clear hn hb;by_cases hlt : k < m
   ·have z0 : (k : Int) < (m : Int) := by omega
    have z1 : (0 : Int) ≤ (k : Int) := by omega
    have hc := HC.out wr k HB.out hlt;have hc2 := hc;rw [addB] at hc2;obtain ⟨b, hbv⟩ : ∃ b, f (o + k) = b := ⟨_, rfl⟩;rw [hbv] at hc hc2;have HV := hD hbv;clear hbv;cases b with
    | true =>
     have HD := hD (show anyB f o m = true from List.any_eq_true.2 ⟨k, List.mem_range.2 hlt, HV.out⟩);go_wp2_with fail
     go_ret
     exact ⟨k, rfl, by rw [HD.out, decide_eq_true (by omega)], HB.out⟩
    | false =>
     go_wp2_with fail
     go_roundw
     case rel => exact ⟨k + 1, by omega, by go_num, fun j hj => by
      rcases Nat.lt_or_ge j k with h | h
      ·exact HN.out j h
      ·obtain rfl : j = k := by omega
       exact HV.out, HB.out⟩
     case measure => simp [intOf]; omega
   ·obtain rfl : k = m := by omega
    have HD := hD (show anyB f o k = false from List.any_eq_false.2 fun j hj => by rw [HN.out j (List.mem_range.1 hj)]; exact Bool.false_ne_true);go_wp2_with fail
    go_ret
    exact ⟨-1, rfl, by rw [HD.out]; rfl, HB.out⟩
 have HH := hD HI
 clear HI hb
 go_enter Tryd.func89, Tryd.ntmps89
 go_wp2_with fail
 refine HH.out.mono ?_
 rintro e w1 ⟨z, rfl, hz, hb⟩
 have HZ := hD hz
 have HB := hD hb
 clear hz hb
 go_wp2_with fail
 go_ret
 exact ⟨by rw [HZ.out]; rfl, HB.out⟩
structure FitO (g : Gr) (s : Sg) : Prop where
 len : 1 ≤ s.len ∧ s.len ≤ 32768
 areas : s.areas.length ≤ 1000000
 on : ∀ a ∈ s.areas, a.vol = false → ∃ d ∈ g.disks, d.name = a.on ∧ 0 ≤ a.start ∧ 1 ≤ zZ_ s ∧ a.start + zZ_ s ≤ d.ext
def covN (l : List Pl) (d : ByteArray) (i : Nat) : Bool := covB l d (i : Int)
structure Tk (g : Gr) (mb tb : Nat) (Q : ByteArray → Nat) (l : List Pl) (w : World) : Prop where
 box : Blk w tb 129 #[.map (some mb)]
 map : ∃ n M, VMp Tryd.prog skf 9 w mb n M ∧ ∀ d ∈ g.disks, M d.name = some (.slice (some ⟨Q d.name, 0, none⟩) d.ext.toNat d.ext.toNat)
 rows : ∀ d ∈ g.disks, Blk w (Q d.name) 4 (bcells (covN l d.name) d.ext.toNat)
structure DkQ (g : Gr) (mb tb : Nat) (Q : ByteArray → Nat) : Prop where
 nm : ∀ d ∈ g.disks, ∀ d' ∈ g.disks, d.name = d'.name → d = d'
 inj : ∀ d ∈ g.disks, ∀ d' ∈ g.disks, Q d.name = Q d'.name → d.name = d'.name
 ne : ∀ d ∈ g.disks, Q d.name ≠ mb ∧ Q d.name ≠ tb
 ext : ∀ d ∈ g.disks, 0 ≤ d.ext ∧ d.ext ≤ 4096
 size : ∀ d ∈ g.disks, d.name.size ≤ 1000000
def qM_ (g : Gr) (Q : ByteArray → Nat) (q : Nat) : Prop := ∃ d ∈ g.disks, q = Q d.name
section
variable {g : Gr} {mb tb : Nat} {Q : ByteArray → Nat} {l : List Pl} {w w' : World}
theorem Tk.up (h : Tk g mb tb Q l w) (hb : Bel w w') : Tk g mb tb Q l w' := by
 obtain ⟨n, M, hm, hM⟩ := h.map
 exact ⟨h.box.below hb h.box.lt, ⟨n, M, hm.up hb, hM⟩, fun d hd => (h.rows d hd).below hb (h.rows d hd).lt⟩
theorem Tk.lt (h : Tk g mb tb Q l w) {q : Nat} (hq : qM_ g Q q) : q < w.heap.size := by
 obtain ⟨d, hd, rfl⟩ := hq
 exact (h.rows d hd).lt
theorem Tk.put (h : Tk g mb tb Q l w) (hDk : DkQ g mb tb Q) {d : Dk} (hd : d ∈ g.disks) {p : Pl} (hp : p.disk = d.name) (ho : Only (· = Q d.name) w w') (hb : Blk w' (Q d.name) 4 (bcells (covN (l ++ [p]) d.name) d.ext.toNat)) : Tk g mb tb Q (l ++ [p]) w' := by
 obtain ⟨n, M, hm, hM⟩ := h.map
 refine ⟨h.box.only ho (fun e => (hDk.ne d hd).2 (show tb = Q d.name from e).symm), ⟨n, M, hm.only ho (fun e => (hDk.ne d hd).1 (show mb = Q d.name from e).symm), hM⟩, fun d' hd' => ?_⟩
 by_cases e : d'.name = d.name
 ·obtain rfl := hDk.nm d' hd' d hd e
  exact hb
 ·have hr := (h.rows d' hd').only ho (fun e' => e (hDk.inj d' hd' d hd e'))
  rw [jd_ (f := covN l d'.name) (g := covN (l ++ [p]) d'.name) (fun i _ => by
   unfold covN;rw [Zb_, hp, decide_eq_false (Ne.symm e)];simp)] at hr
  exact hr
end
theorem zeroBs (w : World) : (zeroValue 130).run Tryd.prog w = .ok (.slice none 0 0) w := by kernel_rfl
theorem Jl_ (l : List Pl) (p : Pl) {o m : Nat} (h1 : p.start = (o : Int)) (h2 : p.len = (m : Int)) : anyB (covN l p.disk) o m = hitB l p := by
 rw [Bool.eq_iff_iff, Jk_]
 unfold anyB covN
 rw [List.any_eq_true]
 constructor
 ·rintro ⟨j, hj, h⟩
  exact ⟨j, by rw [h2]; exact_mod_cast List.mem_range.1 hj, by rw [h1]; exact_mod_cast h⟩
 ·rintro ⟨j, hj, h⟩
  exact ⟨j, List.mem_range.2 (by rw [h2] at hj; exact_mod_cast hj), by rw [h1] at h; exact_mod_cast h⟩
def jv_ (f : Nat → Bool) (o j : Nat) (i : Nat) : Bool := f i || (decide (o ≤ i) && decide (i < o + j))
theorem ZX_ (f : Nat → Bool) (o : Nat) : jv_ f o 0 = f := by
 funext i
 unfold jv_
 by_cases h : o ≤ i
 ·rw [decide_eq_false (by omega : ¬ i < o + 0)]; simp
 ·rw [decide_eq_false h]; simp
theorem ZY_ (f : Nat → Bool) (o j N : Nat) : (bcells (jv_ f o j) N).setIfInBounds (o + j) (.bool true) = bcells (jv_ f o (j + 1)) N := by
 rw [Z7_]
 refine jd_ fun i _ => ?_
 unfold jv_
 by_cases h : i = o + j
 ·subst h
  rw [decide_eq_true (rfl : o + j = o + j), decide_eq_true (by omega : o ≤ o + j), decide_eq_true (by omega : o + j < o + (j + 1))];simp
 ·rw [decide_eq_false h, Bool.or_false]
  congr 2
  simp only [decide_eq_decide];omega
theorem Xj_ (l : List Pl) (p : Pl) {o m : Nat} (h1 : p.start = (o : Int)) (h2 : p.len = (m : Int)) : jv_ (covN l p.disk) o m = covN (l ++ [p]) p.disk := by
 funext i
 unfold jv_ covN
 rw [Zb_, h1, h2, decide_eq_true rfl, Bool.true_and]
 congr 2
 ·simp
 ·simp only [decide_eq_decide]
  omega
theorem okey : Keyed Tryd.prog 9 := string_keyed Tryd.underlying9
set_option maxHeartbeats 16000000 in
theorem YU_ {w : World} {S : Nat → Prop} {mb tb : Nat} {g : Gr} {Q : ByteArray → Nat} {l : List Pl} (h : Tk g mb tb Q l w) (hDk : DkQ g mb tb Q) {v : Vo} {s : Sg} {A0 A1 Bt Bs : Option Addr} {d0 d1 bt bs : Nat} (har : AL w S (.slice A0 s.areas.length d0) s.areas) (hS : ∀ j, S j → ¬ qM_ g Q j) (hf : FitO g s) :
  Calls Tryd.prog 88 #[.agg (voA v (.slice Bt v.tags.length bt) (.slice Bs v.segs.length bs)), .agg (sgA s (.slice A0 s.areas.length d0) (.slice A1 s.stale.length d1)), .pointer (some ⟨tb, 0, none⟩)] w (XA_ (if overA s l s.areas then 15 else 0) (qM_ g Q) (Tk g mb tb Q (l ++ plsS s)) w) := by
 have HNF := hD (show ∀ j, w.heap.size ≤ j → ¬ qM_ g Q j from fun j hj hq => by have := h.lt hq; omega)
 have hby := Blk.new (w.alloc (.cells (voX v Bt bt Bs bs) 53)) 58 (sgX s A0 d0 A1 d1)
 rw [show (w.alloc (.cells (voX v Bt bt Bs bs) 53)).heap.size = w.heap.size + 1 by simp] at hby
 have HBS := hD (show ∀ w', Only (qM_ g Q) ((w.alloc (.cells (voX v Bt bt Bs bs) 53)).alloc (.cells (sgX s A0 d0 A1 d1) 58)) w' → Blk w' (w.heap.size + 1) 58 (sgX s A0 d0 A1 d1) from fun w' ho => hby.only ho (HNF.out _ (Nat.le_succ _)))
 have HW := hD (show ∀ w', Only (qM_ g Q) ((w.alloc (.cells (voX v Bt bt Bs bs) 53)).alloc (.cells (sgX s A0 d0 A1 d1) 58)) w' → Only (qM_ g Q) w w' from fun w' ho => (((Only.refl _ w).alloc _).alloc _).trans ho)
 have HR := hD (show ∀ w', Only (qM_ g Q) w w' → AL w' S (.slice A0 s.areas.length d0) s.areas from fun w' ho => AL.keep har (Kept.of_only ho hS) (fun _ h => h))
 have HT := hD (show Tk g mb tb Q l ((w.alloc (.cells (voX v Bt bt Bs bs) 53)).alloc (.cells (sgX s A0 d0 A1 d1) 58)) from h.up (((Below.refl _ _).al _).al _))
 have HXT := hD (show ∀ w', Calls Tryd.prog 81 #[.agg (sgX s A0 d0 A1 d1)] w' (Ret (.int .i64 (zZ_ s)) w') from fun w' => qF_ w' s hf.len)
 have HF := hD hf
 have HDQ := hD hDk
 have hal := hf.areas
 obtain ⟨r, hr⟩ : ∃ r : Int, (if overA s l s.areas then 15 else 0) = r := ⟨_, rfl⟩
 have HR1 := hD (show overA s l s.areas = true → r = 15 from fun h => by rw [← hr, h]; rfl)
 have HR0 := hD (show overA s l s.areas = false → r = 0 from fun h => by rw [← hr, h]; rfl)
 rw [hr]
 clear h hby har hf hDk hr
 unfold voA sgA
 obtain ⟨j0, j1, j2, j3, j4, j5, j6, j7, j8, j9, j10⟩ := elev (HBS.out _ (Only.refl _ _))
 go_enter Tryd.func88, Tryd.ntmps88
 go_wp2_with fail
 clear j0 j1 j2 j3 j4 j5 j6 j7 j8 j9 j10
 go_loopw [13] (fun i wx => ∃ k : Nat, k ≤ s.areas.length ∧ i = .int .i64 (k : Int) ∧ Only (qM_ g Q) ((w.alloc (.cells (voX v Bt bt Bs bs) 53)).alloc (.cells (sgX s A0 d0 A1 d1) 58)) wx ∧ Tk g mb tb Q (l ++ plsK s k) wx ∧ overA s l s.areas = overA s (l ++ plsK s k) (s.areas.drop k)) (fun i _ => s.areas.length - (intOf i).toNat)
 case atStart => exact ⟨0, Nat.zero_le _, rfl, Only.refl _ _, by rw [show plsK s 0 = [] from rfl, List.append_nil]; exact HT.out, by rw [show plsK s 0 = [] from rfl, List.append_nil]; rfl⟩
 case round =>
  obtain ⟨k, hk, rfl, ho, ht, he⟩ := hrel;obtain ⟨wo, hwo⟩ : ∃ wo, wo = wr := ⟨_, rfl⟩;subst hwo;have HO := hD ho;have HTK := hD ht;have HEQ := hD he;clear ho ht he;by_cases hlt : k < s.areas.length
  ·have z0 : (k : Int) < (s.areas.length : Int) := by omega
   have z1 : (0 : Int) ≤ (k : Int) := by omega
   obtain ⟨ad, x, rfl, hx, _, had, a0, a1, a2⟩ := (HR.out _ (HW.out _ HO.out)).at_ hlt;have HX := hD hx;cases hv : x.vol with
   | true =>
    rw [hv] at a0;have HN1 := hD (XT_ hx hv);have HN2 := hD (HEQ.out.trans (YQ_ hx hv));clear hx hv;go_wp2_with fail
    go_roundw
    case rel => exact ⟨k + 1, by omega, by go_num, HO.out.alloc _, by rw [HN1.out]; exact HTK.out.up ((Below.refl _ _).al _), by rw [HN1.out]; exact HN2.out⟩
    case measure => simp [intOf]; omega
   | false =>
    obtain ⟨d, hd, hdn, hs0, he1, hse⟩ := HF.out.on x (List.mem_of_getElem? hx) hv;have hde := HDQ.out.ext d hd;obtain ⟨o, ho⟩ := Int.eq_ofNat_of_zero_le hs0;obtain ⟨m, hm⟩ := Int.eq_ofNat_of_zero_le (show 0 ≤ zZ_ s by omega);obtain ⟨N, hN⟩ : ∃ N, d.ext.toNat = N := ⟨_, rfl⟩;have hoN : o + m ≤ N := by omega
    have hm1 : 1 ≤ m := by omega
    have hN4 : N ≤ 4096 := by omega
    have HPO := hD (show (plOf s x).start = (o : Int) from ho);have HPM := hD (show (plOf s x).len = (m : Int) from hm);have HPD := hD (show (plOf s x).disk = d.name from hdn.symm);have hsz := HDQ.out.size d hd;rw [hdn] at hsz;rw [hv] at a0;rw [ho] at a2;rw [hm] at HXT;have HN1 := hD (Q9_ hx hv);have HN2 := hD (show hitB (l ++ plsK s k) (plOf s x) = false → overA s l s.areas = overA s (l ++ plsK s k ++ [plOf s x]) (s.areas.drop (k + 1)) from fun hh => HEQ.out.trans (XZ_ hx hv hh));have HN3 := hD (show hitB (l ++ plsK s k) (plOf s x) = true → overA s l s.areas = true from fun hh => HEQ.out.trans (YR_ hx hv hh));have HOA := hD (HO.out.alloc (.cells #[.bool false, .string x.on, .int .i64 (o : Int)] 60));have HTA := hD (HTK.out.up ((Below.refl _ wo).al (.cells #[.bool false, .string x.on, .int .i64 (o : Int)] 60)));obtain ⟨n, M, hm1', hM⟩ := HTA.out.map;have hMd := hM d hd;rw [hdn] at hMd;obtain ⟨q, hq⟩ : ∃ q, Q d.name = q := ⟨_, rfl⟩;rw [← hdn, hq, hN, hdn] at hMd;have HQ := hD hq;have HNN := hD hN;have HD := hD hd;have e0 := CalmW.cell (show (wo.alloc (.cells #[.bool false, .string x.on, .int .i64 (o : Int)] 60)).cell? ⟨wo.heap.size, 1, none⟩ = some (.string x.on) by rw [(Blk.new wo _ _).cell]; rfl);have e1 := CalmW.cell (show (wo.alloc (.cells #[.bool false, .string x.on, .int .i64 (o : Int)] 60)).cell? ⟨wo.heap.size, 2, none⟩ = some (.int .i64 (o : Int)) by rw [(Blk.new wo _ _).cell]; rfl);have e2 := CalmW.cell (show (wo.alloc (.cells #[.bool false, .string x.on, .int .i64 (o : Int)] 60)).cell? ⟨tb, 0, none⟩ = some (.map (some mb)) by rw [HTA.out.box.cell]; rfl)
    have hlk : ∀ n : CalmW (wo.alloc (.cells #[.bool false, .string x.on, .int .i64 (o : Int)] 60)), (Instr.lookup 129 (.map (some mb)) (.string x.on) false).run Tryd.prog n.w = .ok (.slice (some ⟨q, 0, none⟩) N N) n.w := fun n5 => by
     have := (hm1'.up n5.ok).look okey Tryd.underlying129 (zeroBs _) (y := x.on) (WideMaps.keyOf_string_mk Tryd.underlying9 (by unfold maxLen; omega));rw [hMd] at this;exact this
    have hwr : IntKind.i64.wrap ((o : Int) + (m : Int)) = (o : Int) + (m : Int) := IntWalk.i64_in _ (by omega);have g0 : (0 : Int) ≤ (o : Int) := by omega
    have g1 : (o : Int) ≤ (o : Int) + (m : Int) := by omega
    have g2 : (o : Int) + (m : Int) ≤ (N : Int) := by omega
    have g3 : ¬ N = o := by omega
    have t0 : ((o : Int) + (m : Int)).toNat = o + m := by omega
    have t1 : o + m - o = m := by omega
    obtain ⟨f0, f1, f2, f3, f4, f5, f6, f7, f8, f9, f10⟩ := xT_ (HBS.out _ HOA.out);clear hx hv hd hdn hs0 he1 hse hde hM hMd hq hN ho hm;go_upto_region 5 with fail
    clear a0 a1 a2;refine ze_ (by kernel_rfl) (by kernel_rfl) ?_;repeat (go_big_quiet_step ((go_at_call 81; exact Calls.calm (HXT.out _))))
    refine wpQuiet_nil ?_;rintro _ ⟨n5, rfl⟩;have HO5 := hD (HOA.out.next n5.ok);have HT5 := hD (HTA.out.up n5.ok);clear e0 e1 e2 hlk f0 f1 f2 f3 f4 f5 f6 f7 f8 f9 f10 hm1' HTA HOA;generalize n5.w = w5 at *;have hrow := HT5.out.rows d HD.out;rw [HQ.out, HNN.out] at hrow;obtain ⟨hb, hhb⟩ : ∃ b, anyB (covN (l ++ plsK s k) d.name) o m = b := ⟨_, rfl⟩;have HH := hD (show hitB (l ++ plsK s k) (plOf s x) = hb by rw [← Jl_ _ _ HPO.out HPM.out, HPD.out]; exact hhb);have HC := hD (jx_ (c := N - o) hrow hoN (by omega));rw [hhb] at HC;have HBR := hD hrow;clear hrow hhb;go_wp2_with fail
    refine HC.out.mono ?_;rintro e w6 ⟨rfl, hb6⟩;have HO6 := hD (HO5.out.next hb6);have HT6 := hD (HT5.out.up hb6);have HB6 := hD (HBR.out.below hb6 HBR.out.lt);clear hb6 HO5 HT5 HBR HC;cases hb with
    | true =>
     have HE := hD (HR1.out (HN3.out HH.out));go_wp2_with fail
     go_ret
     exact ⟨by rw [HE.out]; rfl, HW.out _ HO6.out, by rw [HE.out]; exact fun h => absurd h (by decide)⟩
    | false =>
     have HEN := hD (HN2.out HH.out);go_wp2_with fail
     go_loopw [35] (fun i wx => ∃ j : Nat, j ≤ m ∧ i = .int .i64 (j : Int) ∧ Only (· = q) w6 wx ∧ Blk wx q 4 (bcells (jv_ (covN (l ++ plsK s k) d.name) o j) N)) (fun i _ => m - (intOf i).toNat)
     case atStart => exact ⟨0, Nat.zero_le _, rfl, Only.refl _ _, by rw [ZX_]; exact HB6.out⟩
     case round =>
      obtain ⟨j, hj, rfl, ho, hb⟩ := hrel;have HOJ := hD ho;have HBJ := hD hb;clear ho hb;by_cases hlt2 : j < m
      ·have z2 : (j : Int) < (m : Int) := by omega
       have z3 : (0 : Int) ≤ (j : Int) := by omega
       have hc := bcell HBJ.out (show o + j < N by omega);have hfz := HBJ.out.frozen (o + j);have hc2 := hc;have hfz2 := hfz;rw [← addB q o j] at hc2 hfz2;have HBN := hD (show Blk (wr.setCell ⟨q, o + j, none⟩ (.bool true)) q 4 (bcells (jv_ (covN (l ++ plsK s k) d.name) o (j + 1)) N) by rw [← ZY_]; exact HBJ.out.set_ (o + j) _);have HON := hD (HOJ.out.setCell (p := ⟨q, o + j, none⟩) (.inl rfl) (.bool true));go_wp2_with fail
       go_roundw
       case rel => exact ⟨j + 1, by omega, by go_num, HON.out, HBN.out⟩
       case measure => simp [intOf]; omega
      ·obtain rfl : j = m := by omega
       have HTN := hD (HT6.out.put HDQ.out HD.out (p := plOf s x) HPD.out (w' := wr) (by rw [HQ.out]; exact HOJ.out) (by
        have h1 := HBJ.out;rw [← HPD.out, Xj_ _ _ HPO.out HPM.out, HPD.out] at h1;rw [HQ.out, HNN.out];exact h1))
       have HON := hD (HO6.out.trans (HOJ.out.mono fun i _ e => ⟨d, HD.out, by rw [HQ.out]; exact e⟩));go_wp2_with fail
       go_roundw
       case rel => exact ⟨k + 1, by omega, by go_num, HON.out, by rw [HN1.out, ← List.append_assoc]; exact HTN.out, by rw [HN1.out, ← List.append_assoc]; exact HEN.out⟩
       case measure => simp [intOf]; omega
  ·obtain rfl : k = s.areas.length := by omega
   have HE := hD (HR0.out (show overA s l s.areas = false by rw [HEQ.out, YS_ _ _ _ (Nat.le_refl _)]));go_wp2_with fail
   go_ret
   exact ⟨by rw [HE.out]; rfl, HW.out _ HO.out, fun _ => by rw [← XU_]; exact HTK.out⟩
end Go.Proofs.YtdkcfgahdcpkkaaDoor
