/- The builder: the states of the region that appends a thin volume (printed by genThin.py). -/
import Derived.Test.YtdkcfgahdcpkkaaDoorCMkCmp1
set_option linter.all false
namespace Go.Proofs.YtdkcfgahdcpkkaaDoor
open Go.RowKit
set_option maxRecDepth 100000
structure TH (B : Nat) (S : Nat → Prop) (wr : World) (bb sb : Nat) (β : Be) (vt vd vv vn : Value) (css : List (List Value)) (name : ByteArray) (i : Nat) (d : Nat → Bool) (x : Nat → Value) (w : World) : Prop where
 bu : BU B S w bb sb (if d 5 then zK_ β else β) vt vd vv vn css
 on : Only (Mt bb sb vv vn) wr w
 mt : ∀ k, Mt bb sb vv vn k → k < wr.heap.size
 f0 : d 0 = true → x 0 = vv
 f1 : d 1 = true → ∃ g, x 1 = .slice (some ⟨g, 0, none⟩) 3 3 ∧ wr.heap.size ≤ g ∧ Blk w g 9 #[.string ⟨#[48]⟩, .string ⟨#[49]⟩, .string ⟨#[50]⟩]
 f2 : d 2 = true → ∃ g, x 2 = .pointer (some ⟨g, i, none⟩) ∧ wr.heap.size ≤ g ∧ Blk w g 9 #[.string ⟨#[48]⟩, .string ⟨#[49]⟩, .string ⟨#[50]⟩]
 f3 : d 3 = true → x 3 = .string (digB i)
 f4 : d 4 = true → x 4 = .string (yV_ name i)
 f5 : d 5 = true → x 5 = .int .u64 (idB β)
 f6 : d 6 = true → ∃ z, 1 ≤ z ∧ z ≤ 4 ∧ x 6 = .int .i64 z
 f7 : d 7 = true → x 7 = .agg #[.int .i64 0, x 6, .int .i64 6, .slice none 0 0, .int .i64 0, .slice none 0 0, .string ⟨#[]⟩, .string name, .int .i64 (i : Int), .int .i64 0, .int .i64 0]
 f8 : d 8 = true → ∃ g, x 8 = .slice (some ⟨g, 0, none⟩) 1 1 ∧ wr.heap.size ≤ g ∧ Blk w g 58 #[.int .i64 0, x 6, .int .i64 6, .slice none 0 0, .int .i64 0, .slice none 0 0, .string ⟨#[]⟩, .string name, .int .i64 (i : Int), .int .i64 0, .int .i64 0]
 f9 : d 9 = true → x 9 = .agg #[x 4, x 5, .bool false, .bool false, .slice none 0 0, x 8]
 f10 : d 10 = true → ∃ g, x 10 = .slice (some ⟨g, 0, none⟩) 1 1 ∧ wr.heap.size ≤ g ∧ Blk w g 53 #[x 4, x 5, .bool false, .bool false, .slice none 0 0, x 8]
section
variable {B : Nat} {S : Nat → Prop} {wr w w' : World} {bb sb : Nat} {β : Be} {vt vd vv vn : Value} {css : List (List Value)} {name : ByteArray} {i : Nat} {d : Nat → Bool} {x : Nat → Value}
theorem TH.start (h : BU B S wr bb sb β vt vd vv vn css) (x : Nat → Value) : TH B S wr bb sb β vt vd vv vn css name i none_ x wr.drew :=
 ⟨h.up (Below.refl _ _).drew, (Only.refl _ _).drew, fun k hk => (h.mlt hk).2, (fun h => by cases h), (fun h => by cases h), (fun h => by cases h), (fun h => by cases h), (fun h => by cases h), (fun h => by cases h), (fun h => by cases h), (fun h => by cases h), (fun h => by cases h), (fun h => by cases h), (fun h => by cases h)⟩
theorem TH.k1 (h : TH B S wr bb sb β vt vd vv vn css name i d x w) (ho : Only (Mt bb sb vv vn) w w') (e : d 1 = true) : ∃ g, x 1 = .slice (some ⟨g, 0, none⟩) 3 3 ∧ wr.heap.size ≤ g ∧ Blk w' g 9 #[.string ⟨#[48]⟩, .string ⟨#[49]⟩, .string ⟨#[50]⟩] := by
 obtain ⟨g, e, h1, h2⟩ := h.f1 e
 exact ⟨g, e, h1, zC_ h2 h1 ho h.mt⟩
theorem TH.k2 (h : TH B S wr bb sb β vt vd vv vn css name i d x w) (ho : Only (Mt bb sb vv vn) w w') (e : d 2 = true) : ∃ g, x 2 = .pointer (some ⟨g, i, none⟩) ∧ wr.heap.size ≤ g ∧ Blk w' g 9 #[.string ⟨#[48]⟩, .string ⟨#[49]⟩, .string ⟨#[50]⟩] := by
 obtain ⟨g, e, h1, h2⟩ := h.f2 e
 exact ⟨g, e, h1, zC_ h2 h1 ho h.mt⟩
theorem TH.k8 (h : TH B S wr bb sb β vt vd vv vn css name i d x w) (ho : Only (Mt bb sb vv vn) w w') (e : d 8 = true) : ∃ g, x 8 = .slice (some ⟨g, 0, none⟩) 1 1 ∧ wr.heap.size ≤ g ∧ Blk w' g 58 #[.int .i64 0, x 6, .int .i64 6, .slice none 0 0, .int .i64 0, .slice none 0 0, .string ⟨#[]⟩, .string name, .int .i64 (i : Int), .int .i64 0, .int .i64 0] := by
 obtain ⟨g, e, h1, h2⟩ := h.f8 e
 exact ⟨g, e, h1, zC_ h2 h1 ho h.mt⟩
theorem TH.k10 (h : TH B S wr bb sb β vt vd vv vn css name i d x w) (ho : Only (Mt bb sb vv vn) w w') (e : d 10 = true) : ∃ g, x 10 = .slice (some ⟨g, 0, none⟩) 1 1 ∧ wr.heap.size ≤ g ∧ Blk w' g 53 #[x 4, x 5, .bool false, .bool false, .slice none 0 0, x 8] := by
 obtain ⟨g, e, h1, h2⟩ := h.f10 e
 exact ⟨g, e, h1, zC_ h2 h1 ho h.mt⟩
theorem TH.s0 (h : TH B S wr bb sb β vt vd vv vn css name i d x w) : TH B S wr bb sb β vt vd vv vn css name i (upd d 0 true) (upd x 0 (vv)) w :=
 ⟨h.bu, h.on, h.mt, (fun _ => rfl), h.f1, h.f2, h.f3, h.f4, h.f5, h.f6, h.f7, h.f8, h.f9, h.f10⟩
theorem TH.s1 (h : TH B S wr bb sb β vt vd vv vn css name i d x w) : TH B S wr bb sb β vt vd vv vn css name i (upd d 1 true) (upd x 1 (.slice (some ⟨w.heap.size, 0, none⟩) 3 3)) (w.alloc (.cells #[.string ⟨#[48]⟩, .string ⟨#[49]⟩, .string ⟨#[50]⟩] 9)) :=
 ⟨h.bu.up ((Below.refl _ _).al _), h.on.alloc _, h.mt, h.f0, (fun _ => ⟨_, rfl, h.on.size, Blk.new w _ _⟩), h.k2 ((Only.refl (Mt bb sb vv vn) w).alloc _), h.f3, h.f4, h.f5, h.f6, h.f7, h.k8 ((Only.refl (Mt bb sb vv vn) w).alloc _), h.f9, h.k10 ((Only.refl (Mt bb sb vv vn) w).alloc _)⟩
theorem TH.s2 {g : Nat} (h : TH B S wr bb sb β vt vd vv vn css name i d x w) (hg : wr.heap.size ≤ g) (hb : Blk w g 9 #[.string ⟨#[48]⟩, .string ⟨#[49]⟩, .string ⟨#[50]⟩]) : TH B S wr bb sb β vt vd vv vn css name i (upd d 2 true) (upd x 2 (.pointer (some ⟨g, i, none⟩))) w :=
 ⟨h.bu, h.on, h.mt, h.f0, h.f1, (fun _ => ⟨g, rfl, hg, hb⟩), h.f3, h.f4, h.f5, h.f6, h.f7, h.f8, h.f9, h.f10⟩
theorem TH.s3 (h : TH B S wr bb sb β vt vd vv vn css name i d x w) : TH B S wr bb sb β vt vd vv vn css name i (upd d 3 true) (upd x 3 (.string (digB i))) w :=
 ⟨h.bu, h.on, h.mt, h.f0, h.f1, h.f2, (fun _ => rfl), h.f4, h.f5, h.f6, h.f7, h.f8, h.f9, h.f10⟩
theorem TH.s4 (h : TH B S wr bb sb β vt vd vv vn css name i d x w) (g9 : d 9 = false) (g10 : d 10 = false) : TH B S wr bb sb β vt vd vv vn css name i (upd d 4 true) (upd x 4 (.string (yV_ name i))) w :=
 ⟨h.bu, h.on, h.mt, h.f0, h.f1, h.f2, h.f3, (fun _ => rfl), h.f5, h.f6, h.f7, h.f8, (fun e => tf e g9), (fun e => tf e g10)⟩
theorem TH.s5 (h : TH B S wr bb sb β vt vd vv vn css name i d x w) (g9 : d 9 = false) (g10 : d 10 = false) (hb : BU B S w' bb sb (zK_ β) vt vd vv vn css) (ho : Only (Mt bb sb vv vn) w w') : TH B S wr bb sb β vt vd vv vn css name i (upd d 5 true) (upd x 5 (.int .u64 (idB β))) w' :=
 ⟨hb, h.on.trans ho, h.mt, h.f0, h.k1 ho, h.k2 ho, h.f3, h.f4, (fun _ => rfl), h.f6, h.f7, h.k8 ho, (fun e => tf e g9), (fun e => tf e g10)⟩
theorem TH.s6 {z : Int} (h : TH B S wr bb sb β vt vd vv vn css name i d x w) (g7 : d 7 = false) (g8 : d 8 = false) (hz : 1 ≤ z ∧ z ≤ 4) (hs : SrcOk B w' sb) (ho : Only (· = sb) w w') : TH B S wr bb sb β vt vd vv vn css name i (upd d 6 true) (upd x 6 (.int .i64 z)) w' :=
 ⟨h.bu.src_ hs ho, h.on.trans (ho.mono fun _ _ e => .inr (.inl e)), h.mt, h.f0, h.k1 (ho.mono fun _ _ e => .inr (.inl e)), h.k2 (ho.mono fun _ _ e => .inr (.inl e)), h.f3, h.f4, h.f5, (fun _ => ⟨z, hz.1, hz.2, rfl⟩), (fun e => tf e g7), (fun e => tf e g8), h.f9, h.k10 (ho.mono fun _ _ e => .inr (.inl e))⟩
theorem TH.s7 (h : TH B S wr bb sb β vt vd vv vn css name i d x w) : TH B S wr bb sb β vt vd vv vn css name i (upd d 7 true) (upd x 7 (.agg #[.int .i64 0, x 6, .int .i64 6, .slice none 0 0, .int .i64 0, .slice none 0 0, .string ⟨#[]⟩, .string name, .int .i64 (i : Int), .int .i64 0, .int .i64 0])) w :=
 ⟨h.bu, h.on, h.mt, h.f0, h.f1, h.f2, h.f3, h.f4, h.f5, h.f6, (fun _ => rfl), h.f8, h.f9, h.f10⟩
theorem TH.s8 (h : TH B S wr bb sb β vt vd vv vn css name i d x w) (g9 : d 9 = false) (g10 : d 10 = false) : TH B S wr bb sb β vt vd vv vn css name i (upd d 8 true) (upd x 8 (.slice (some ⟨w.heap.size, 0, none⟩) 1 1)) (w.alloc (.cells #[.int .i64 0, x 6, .int .i64 6, .slice none 0 0, .int .i64 0, .slice none 0 0, .string ⟨#[]⟩, .string name, .int .i64 (i : Int), .int .i64 0, .int .i64 0] 58)) :=
 ⟨h.bu.up ((Below.refl _ _).al _), h.on.alloc _, h.mt, h.f0, h.k1 ((Only.refl (Mt bb sb vv vn) w).alloc _), h.k2 ((Only.refl (Mt bb sb vv vn) w).alloc _), h.f3, h.f4, h.f5, h.f6, h.f7, (fun _ => ⟨_, rfl, h.on.size, Blk.new w _ _⟩), (fun e => tf e g9), (fun e => tf e g10)⟩
theorem TH.s9 (h : TH B S wr bb sb β vt vd vv vn css name i d x w) : TH B S wr bb sb β vt vd vv vn css name i (upd d 9 true) (upd x 9 (.agg #[x 4, x 5, .bool false, .bool false, .slice none 0 0, x 8])) w :=
 ⟨h.bu, h.on, h.mt, h.f0, h.f1, h.f2, h.f3, h.f4, h.f5, h.f6, h.f7, h.f8, (fun _ => rfl), h.f10⟩
theorem TH.s10 (h : TH B S wr bb sb β vt vd vv vn css name i d x w) : TH B S wr bb sb β vt vd vv vn css name i (upd d 10 true) (upd x 10 (.slice (some ⟨w.heap.size, 0, none⟩) 1 1)) (w.alloc (.cells #[x 4, x 5, .bool false, .bool false, .slice none 0 0, x 8] 53)) :=
 ⟨h.bu.up ((Below.refl _ _).al _), h.on.alloc _, h.mt, h.f0, h.k1 ((Only.refl (Mt bb sb vv vn) w).alloc _), h.k2 ((Only.refl (Mt bb sb vv vn) w).alloc _), h.f3, h.f4, h.f5, h.f6, h.f7, h.k8 ((Only.refl (Mt bb sb vv vn) w).alloc _), h.f9, (fun _ => ⟨_, rfl, h.on.size, Blk.new w _ _⟩)⟩
end
end Go.Proofs.YtdkcfgahdcpkkaaDoor
