/- Texts joined into one file: VRg, BBpdu, Ints. -/
import Derived.Test.YthcdppppppgckaaGreatDoorA25
import Derived.Maps.RangeWalk
import Derived.Test.YthcdppppppgckaaGreatDoorA07
import Derived.Test.YthcdppppppgckaaGreatDoorA34
import Derived.Test.YthcdppppppgckaaGreatDoorA05
import Derived.Test.YthcdppppppgckaaGreatDoorA04
import Derived.Test.YthcdppppppgckaaGreatDoorA02

namespace Go.Proofs.YthcdppppppgckaaGreatDoor
open Go.RowKit Go.Lib Go.Sort
set_option maxRecDepth 20000
open Go.Maps (Keyed has IsMap has_true_of_atKey)

structure Bx (α : Type) where
 val : α
section
variable {P : Program} {T : TypeId} {κ : Type}
def VRg (K : KeyEnc P T κ) (w : World) (b r n : Nat) (F : κ → Option Value) (lf : κ → Bool) (cnt : Nat) : Prop :=
 (∀ x, F x ≠ none → K.ok x) ∧ ∃ (D : DataW Value) (left : Lit → Bool), w.ranges P T heldR b r n D left cnt ∧ (∀ x, K.ok x → lookV D (K.lit x) = F x) ∧ ∀ x, K.ok x → left (K.lit x) = lf x
variable {K : KeyEnc P T κ} {w : World} {b r n cnt : Nat} {F : κ → Option Value} {lf : κ → Bool}
theorem VRg.map (h : VRg K w b r n F lf cnt) : VMap K w b n F := by
 obtain ⟨h0, D, left, h, e, _⟩ := h
 exact ⟨h0, D, h.owns, e⟩
theorem VRg.left (h : VRg K w b r n F lf cnt) : w.rangeLeft b r = cnt := by
 obtain ⟨_, D, left, h, _, _⟩ := h
 exact h.left_eq
theorem VRg.kept {w' : World} {row : Option Nat} (h : VRg K w b r n F lf cnt) (hg : w.grownBy w' row) (h1 : some b ≠ row) (h2 : some r ≠ row) : VRg K w' b r n F lf cnt := by
 obtain ⟨h0, D, left, h, e, l⟩ := h
 exact ⟨h0, D, left, h.kept hg h1 h2, e, l⟩
theorem VRg.same {w' : World} (h : VRg K w b r n F lf cnt) (h1 : w'.heap[b]? = w.heap[b]?) (h2 : w'.heap[r]? = w.heap[r]?) : VRg K w' b r n F lf cnt := by
 obtain ⟨h0, D, left, ⟨es, clock, since, seen, c0, hb, F, hs, hd, hr, hold⟩, e, l⟩ := h
 exact ⟨h0, D, left, ⟨es, clock, since, seen, c0, h1.trans hb, F, hs, hd, h2.trans hr, hold⟩, e, l⟩
theorem VRg.lt (h : VRg K w b r n F lf cnt) : b < w.heap.size ∧ r < w.heap.size := by
 obtain ⟨_, D, left, ⟨es, clock, since, seen, c0, hb, F, hs, hd, hr, hold⟩, _⟩ := h
 exact ⟨(Array.getElem?_eq_some_iff.1 hb).1, (Array.getElem?_eq_some_iff.1 hr).1⟩
theorem VRg.below {w' : World} (h : VRg K w b r n F lf cnt) (hb : Below w.heap.size w w') : VRg K w' b r n F lf cnt := h.same (hb.block _ h.lt.1) (hb.block _ h.lt.2)
theorem VRg.ne (h : VRg K w b r n F lf cnt) : r ≠ b := by
 obtain ⟨_, D, left, h, _, _⟩ := h
 exact h.ne
def strikeK [DecidableEq κ] (lf : κ → Bool) (x : κ) : κ → Bool := fun a => lf a && !decide (a = x)
theorem strikeK_left [DecidableEq κ] (K : KeyEnc P T κ) {left : Lit → Bool} {lf : κ → Bool} (h : ∀ a, K.ok a → left (K.lit a) = lf a) {x a : κ} (hx : K.ok x) (ha : K.ok a) : (left (K.lit a) && !(K.lit a).sameKey (K.lit x)) = strikeK lf x a := by
 unfold strikeK
 rw [h a ha]
 by_cases e : a = x
 · subst e
   rw [WideAt.sameKey_self (K.isKey ha)]
   simp
 · rw [Maps.sameKey_ne (fun h => e (K.lit_inj ha hx h))]
   simp [e]
theorem VRg.drop [DecidableEq κ] {t e : TypeId} (h : VRg K w b r n F lf cnt) (ht : P.underlying t = some (.map T e)) (x : κ) (hx : K.ok x) (ty : TypeId) :
 ∃ w' cnt', (Builtin.delete_ #[t, T] ty #[.map (some b), K.enc x]).run P w = .ok (.tuple #[]) w' ∧ VRg K w' b r n (delV F x) (strikeK lf x) cnt' ∧ cnt' ≤ cnt ∧ w.mapTurned w' b := by
 obtain ⟨h0, D, left, h, e, l⟩ := h
 obtain ⟨w', cnt', hr, h', hle, ht⟩ := h.drop K.law ht (K.reads x hx) ty
 refine ⟨w', cnt', hr, ⟨fun y hy => ?_, _, _, h', fun y hy => ?_, fun a ha => strikeK_left K l hx ha⟩, hle, ht⟩
 · unfold delV at hy
   split at hy
   · exact absurd rfl hy
   · exact h0 y hy
 · rw [lookV_del K hx hy]
   unfold delV
   dsimp only
   rw [e y hy]
variable (w : World) {ops : Array Oper} {rest : List Oper} {o : Oper} {a : Act} {Q : Exit → Act → World → Prop}
theorem wpList_range_v (hg : o.guard = none) (m : Operand) (t e : TypeId) (hop : o.op = Op.range t m) (ht : P.underlying t = some (.map T e)) (K : KeyEnc P T κ) (b n : Nat) (F : κ → Option Value) (hm : a.eval m = .map (some b)) (h : VMap K w b n F)
 (hK : ∀ w' cnt, VRg K w' b w.heap.size n F (fun a => (F a).isSome) cnt → Below w.heap.size w w' → w'.heap.size = w.heap.size + 1 → wpList P ops Q rest (a.put o.dst (.pointer (some ⟨w.heap.size, 0, none⟩))) w') :
 wpList P ops Q (o :: rest) a w := by
 obtain ⟨h0, D, hown, e'⟩ := h
 refine wpList_range_own w hg m t hop T e K.law ht heldR b n D hm hown (fun w' h1 h2 h3 => hK w' _ ⟨h0, D, _, h1, e', fun x hx => ?_⟩ ⟨h2.os, h2.tape, h2.output, h2.size, fun k hk => h2.block k hk (by simp)⟩ h3)
 rw [lookV_has hown K, e' x hx]
theorem wpList_next_v [DecidableEq κ] (hg : o.guard = none) (it : Operand) (hop : o.op = Op.next it false) (K : KeyEnc P T κ) (b r n : Nat) (F : κ → Option Value) (lf : κ → Bool) (cnt : Nat) (hit : a.eval it = .pointer (some ⟨r, 0, none⟩)) (h : VRg K w b r n F lf cnt)
 (hDone : (∀ x, K.ok x → lf x = false) → wpList P ops Q rest (a.put o.dst (.tuple #[.bool false])) w)
 (hMore : ∀ (x : κ) (c : Value) (w' : World) (cnt' : Nat), K.ok x → F x = some c → lf x = true → VRg K w' b r n F (strikeK lf x) cnt' → cnt' < cnt → w.grownBy w' (some r) → w'.heap.size = w.heap.size →
   (Instr.entry (.pointer (some ⟨r, 0, none⟩))).run P w' = .ok (.tuple #[K.enc x, c]) w' → wpList P ops Q rest (a.put o.dst (.tuple #[.bool true, K.enc x, c])) w') :
 wpList P ops Q (o :: rest) a w := by
 obtain ⟨h0, D, left, h, e, l⟩ := h
 refine wpList_next_ranges w hg it hop T K.law heldR K.enc id (fun key kl hkey => by obtain ⟨x, _, hx⟩ := K.all key kl hkey; exact ⟨x, hx⟩) (fun v _ _ => ⟨v, rfl⟩) b r n D left cnt hit h (fun _ h => hDone (fun x hx => by rw [← l x hx]; exact h _))
  (fun x c kl y w' cnt' hkey hlk hv hat hrg hlt hgr hsz hen => ?_)
 obtain ⟨x', hx', ex⟩ := K.all _ _ hkey
 obtain rfl : x = x' := K.inj _ _ ex
 rw [K.reads x hx'] at hkey
 injection hkey with hkey
 subst hkey
 simp only [heldR, Option.some.injEq] at hv
 refine hMore x c w' cnt' hx' ?_ (by rw [← l x hx']; exact hlk) ⟨h0, D, _, hrg, e, fun a ha => strikeK_left K l hx' ha⟩ hlt hgr hsz hen
 rw [← e x hx']
 unfold lookV
 rw [if_pos (has_true_of_atKey hat), hat, ← hv]
 rfl
def DoneK (K : KeyEnc P T κ) (lf : κ → Bool) : Prop := ∀ x, K.ok x → lf x = false
theorem wpList_next_b [DecidableEq κ] (hg : o.guard = none) (it : Operand) (hop : o.op = Op.next it false) (K : KeyEnc P T κ) (b r n : Nat) (F : κ → Option Value) (lf : κ → Bool) (cnt : Nat) (hit : a.eval it = .pointer (some ⟨r, 0, none⟩)) (h : VRg K w b r n F lf cnt)
 (hDone : DoneK K lf → wpList P ops Q rest (a.put o.dst (.tuple #[.bool false])) w)
 (hMore : ∀ (xb : Bx κ) (c : Value) (w' : World) (cnt' : Nat), K.ok xb.val → F xb.val = some c → lf xb.val = true → VRg K w' b r n F (strikeK lf xb.val) cnt' → cnt' < cnt → w.grownBy w' (some r) → w'.heap.size = w.heap.size →
   (Instr.entry (.pointer (some ⟨r, 0, none⟩))).run P w' = .ok (.tuple #[K.enc xb.val, c]) w' → wpList P ops Q rest (a.put o.dst (.tuple #[.bool true, K.enc xb.val, c])) w') :
 wpList P ops Q (o :: rest) a w :=
 wpList_next_v w hg it hop K b r n F lf cnt hit h hDone fun x => hMore ⟨x⟩
end
end Go.Proofs.YthcdppppppgckaaGreatDoor

namespace Go.Proofs.YthcdppppppgckaaGreatDoor
open Go.RowKit Go.Lib Go.Maps Go.Sort
set_option maxRecDepth 20000
set_option maxRecDepth 20000

theorem eight_any (n : Nat) (w : World) (hn : n < 18446744073709551616) :
 Calls Tryz.prog 135 #[.int .u64 n] w fun e w' => e = .returned (.string (bstr (ofN n 8))) ∧ Below w.heap.size w w' := by
 have hb : Calls Tryz.prog 195 #[.int .u64 n, .int .i64 8] w fun e w' => e = .returned (.string (bstr (ofN n 8))) ∧ Below w.heap.size w w' := bytes_any n 8 w hn (by omega)
 have HB := Lib.hid hb
 clear hb
 go_enter Tryz.func135, Tryz.ntmps135
 go_wp2_with ((with_reducible refine HB.out.mono ?_); rintro e w2 ⟨rfl, hb2⟩; have HB2 := Lib.hid hb2; clear hb2)
 go_ret
 exact ⟨rfl, HB2.out⟩

theorem put_1 (n : Int) (w : World) : Calls Tryz.prog 134 #[.int .i64 n, .int .i64 1] w fun e w' => e = .returned (.tuple #[.string (bstr (putS n 1)), .int .i64 (if okPut n 1 then 0 else 1)]) ∧ Below w.heap.size w w' := put_any n 1 w (by omega) (by omega)
theorem put_2 (n : Int) (w : World) : Calls Tryz.prog 134 #[.int .i64 n, .int .i64 2] w fun e w' => e = .returned (.tuple #[.string (bstr (putS n 2)), .int .i64 (if okPut n 2 then 0 else 1)]) ∧ Below w.heap.size w w' := put_any n 2 w (by omega) (by omega)
theorem put_4 (n : Int) (w : World) : Calls Tryz.prog 134 #[.int .i64 n, .int .i64 4] w fun e w' => e = .returned (.tuple #[.string (bstr (putS n 4)), .int .i64 (if okPut n 4 then 0 else 1)]) ∧ Below w.heap.size w w' := put_any n 4 w (by omega) (by omega)
theorem putS_yes {n : Int} {k : Nat} (h : okPut n k = true) : putS n k = ofN n.toNat k := by unfold putS; rw [h]; rfl
def KZ : KeyEnc Tryz.prog 3 Int where
 enc := Value.int .i64
 ok x := (Lit.int .i64 x).wf = true
 lit := Lit.int .i64
 reads _ h := keyOf_int_mk Tryz.underlying3 h
 all _ _ h := by obtain ⟨x, e, _, hw⟩ := Maps.keyOf_int_inv Tryz.underlying3 h; exact ⟨x, hw, e⟩
 inj _ _ h := by injection h
 law := int_keyed Tryz.underlying3

def flg (c l f a b d : Bool) : Int := 12 + (if c && !a then 1 else 0) + (if l && !b then 16 else 0) + (if f && !d then 32 else 0)
theorem flg_a (l f b d : Bool) : bits BinOp.or .i64 (flg true l f true b d) 1 = flg true l f false b d := by revert l f b d; decide +kernel
theorem flg_b (c f a d : Bool) : bits BinOp.or .i64 (flg c true f a true d) 16 = flg c true f a false d := by revert c f a d; decide +kernel
theorem flg_d (c l a b : Bool) : bits BinOp.or .i64 (flg c l true a b true) 32 = flg c l true a b false := by revert c l a b; decide +kernel
def bflags (b : Bpd) : Int := flg b.change b.learn b.fwd false false false
theorem bflags_range (b : Bpd) : 0 ≤ bflags b ∧ bflags b ≤ 61 := by unfold bflags flg; constructor <;> (cases b.change <;> cases b.learn <;> cases b.fwd <;> decide)
def bEncOk (b : Bpd) : Bool := okPut b.v.cost 4 && okPut b.v.port 2 && okPut b.age 1
def bEncS (b : Bpd) : Str := [66, 66, 3, 0, 0, 2, 2] ++ ofN (bflags b).toNat 1 ++ ofN b.v.root.toNat 8 ++ ofN b.v.cost.toNat 4 ++ ofN b.v.bridge.toNat 8 ++ ofN b.v.port.toNat 2 ++ ofN b.age.toNat 1 ++ [0, 20, 0, 2, 0, 15, 0, 0]
def bEnc (b : Bpd) : Str × Int := if bEncOk b then (bEncS b, 0) else ([], 1)
def bcells (b : Bpd) : Array Value := #[.int .u64 b.v.root, .int .i64 b.v.cost, .int .u64 b.v.bridge, .int .i64 b.v.port, .int .i64 b.age, .bool b.change, .bool b.learn, .bool b.fwd]
def encB (b : Bpd) : Value := .agg (bcells b)
def FlagV (c l f : Bool) : Int → Option Value := updV (updV (updV (fun _ => none) 0 (.bool c)) 4 (.bool l)) 5 (.bool f)
theorem strike_same (lf : Int → Bool) (x : Int) : strikeK lf x x = false := by simp [strikeK]
theorem strike_else (lf : Int → Bool) (x y : Int) (h : y ≠ x) : strikeK lf x y = lf y := by simp [strikeK, h]
theorem FlagV_some {c l f : Bool} {x : Int} {v : Value} (h : FlagV c l f x = some v) : (x = 0 ∧ v = .bool c) ∨ (x = 4 ∧ v = .bool l) ∨ (x = 5 ∧ v = .bool f) := by
 unfold FlagV updV at h
 dsimp only at h
 split at h
 · injection h with h; exact .inr (.inr ⟨by assumption, h.symm⟩)
 · split at h
   · injection h with h; exact .inr (.inl ⟨by assumption, h.symm⟩)
   · split at h
     · injection h with h; exact .inl ⟨by assumption, h.symm⟩
     · cases h
def RetBEnc (w : World) (r : Str × Int) (e : Ending) (w' : World) : Prop := e = .returned (.tuple #[.string (bstr r.1), .int .i64 r.2]) ∧ Below w.heap.size w w'
def u64ok (n : Int) : Prop := 0 ≤ n ∧ n < 18446744073709551616

set_option maxHeartbeats 4000000 in
theorem benc_any (b : Bpd) (w : World) (h1 : u64ok b.v.root) (h2 : u64ok b.v.bridge) :
 Calls Tryz.prog 72 #[encB b] w (RetBEnc w (bEnc b)) := by
 obtain ⟨⟨root, cost, bridge, port⟩, age, c, l, f⟩ := b
 unfold encB bcells
 dsimp only at h1 h2 ⊢
 obtain ⟨rn, rfl⟩ := Int.eq_ofNat_of_zero_le h1.1
 obtain ⟨dn, rfl⟩ := Int.eq_ofNat_of_zero_le h2.1
 have H8 := Lib.hid (And.intro (show rn < 18446744073709551616 from by have := h1.2; omega) (show dn < 18446744073709551616 from by have := h2.2; omega))
 clear h1 h2
 obtain ⟨r, hr⟩ : ∃ r, bEnc ⟨⟨(rn : Nat), cost, (dn : Nat), port⟩, age, c, l, f⟩ = r := ⟨_, rfl⟩
 rw [hr]
 have HRB := Lib.hid hr
 clear hr
 obtain ⟨W1, hW1⟩ : ∃ W, w.alloc (.cells #[.int .u64 (rn : Nat), .int .i64 cost, .int .u64 (dn : Nat), .int .i64 port, .int .i64 age, .bool c, .bool l, .bool f] 110) = W := ⟨_, rfl⟩
 obtain ⟨q0, hq0⟩ : ∃ q, w.heap.size = q := ⟨_, rfl⟩
 have hx : CBox W1 q0 110 #[.int .u64 (rn : Nat), .int .i64 cost, .int .u64 (dn : Nat), .int .i64 port, .int .i64 age, .bool c, .bool l, .bool f] := by rw [← hW1]; exact CBox.new _ hq0.symm
 have HB := Lib.hid (show Below w.heap.size w W1 from by rw [← hW1]; exact (Below.refl _ _).alloc (Nat.le_refl _) _)
 have HX := Lib.hid hx
 have HW := Lib.hid hW1; have HQ := Lib.hid hq0
 -- the literal
 have hm0 : VMap KZ (W1.alloc (.map #[] 0)) W1.heap.size 0 (fun _ => none) := VMap.made KZ W1
 obtain ⟨W3, hr3, hm3, hg3⟩ := hm0.put Tryz.underlying231 0 (by rfl) (.bool c) (by decide)
 obtain ⟨W4, hr4, hm4, hg4⟩ := hm3.put Tryz.underlying231 4 (by rfl) (.bool l) (by decide)
 obtain ⟨W5, hr5, hm5, hg5⟩ := hm4.put Tryz.underlying231 5 (by rfl) (.bool f) (by decide)
 replace hr3 : (Instr.mapUpdate 231 (.map (some W1.heap.size)) (.int .i64 0) (.bool c)).run Tryz.prog (W1.alloc (.map #[] 0)) = .ok () W3 := hr3
 replace hr4 : (Instr.mapUpdate 231 (.map (some W1.heap.size)) (.int .i64 4) (.bool l)).run Tryz.prog W3 = .ok () W4 := hr4
 replace hr5 : (Instr.mapUpdate 231 (.map (some W1.heap.size)) (.int .i64 5) (.bool f)).run Tryz.prog W4 = .ok () W5 := hr5
 have b2 : Below W1.heap.size W1 (W1.alloc (.map #[] 0)) := (Below.refl _ _).alloc (Nat.le_refl _) _
 have b3 := b2.grown hg3.grown (by simp) (fun k hk => by cases hk; exact Nat.le_refl _)
 have b4 := b3.grown hg4.grown b3.size (fun k hk => by cases hk; exact Nat.le_refl _)
 have b5 := b4.grown hg5.grown b4.size (fun k hk => by cases hk; exact Nat.le_refl _)
 have x2 := hx.below b2 hx.lt
 have x3 := hx.below b3 hx.lt
 have x4 := hx.below b4 hx.lt
 obtain ⟨c5, _⟩ := x2.at_ 5 _ rfl
 obtain ⟨c6, _⟩ := x3.at_ 6 _ rfl
 obtain ⟨c7, _⟩ := x4.at_ 7 _ rfl
 have X5 := Lib.hid (hx.below b5 hx.lt)
 have B5 := Lib.hid (HB.out.trans (b5.mono HB.out.size))
 have M5 := Lib.hid (show VMap KZ W5 W1.heap.size 3 (FlagV c l f) from hm5)
 have HM := Lib.hid b5.size
 have HML := Lib.hid (show q0 < W1.heap.size from hx.lt)
 have HWM := Lib.hid (show w.heap.size ≤ W1.heap.size from HB.out.size)
 clear hx hW1 hq0 hm0 hm3 hm4 hm5 hg3 hg4 hg5 b2 b3 b4 b5 x2 x3 x4
 have hmm := @run_makeMap Tryz.prog
 go_enter Tryz.func72, Tryz.ntmps72
 go_upto_region 2 with fail
 rw [HW.out, HQ.out]
 clear HW HX HB
 go_wp2_with (at_range; refine wpList_range_v _ rfl _ 231 4 rfl Tryz.underlying231 KZ W1.heap.size 3 (FlagV c l f) rfl M5.out ?_; intro w6 cnt6 hrg6 hb6 hs6)
 go_frame
 clear hmm hr3 hr4 hr5 c5 c6 c7
 have HR6 := Lib.hid hrg6; have B6 := Lib.hid (B5.out.trans (hb6.mono B5.out.size)); have X6 := Lib.hid (X5.out.below hb6 X5.out.lt)
 have HWS := Lib.hid (show W1.heap.size ≤ W5.heap.size from HM.out)
 clear hrg6 hb6 hs6
 go_loopw [4] (fun fl wr => ∃ (lf : Int → Bool) (cnt : Nat), fl = .int .i64 (flg c l f (lf 0) (lf 4) (lf 5)) ∧ VRg KZ wr W1.heap.size W5.heap.size 3 (FlagV c l f) lf cnt ∧ Below w.heap.size w wr ∧ CBox wr q0 110 #[.int .u64 (rn : Nat), .int .i64 cost, .int .u64 (dn : Nat), .int .i64 port, .int .i64 age, .bool c, .bool l, .bool f]) (fun _ wr => wr.rangeLeft W1.heap.size W5.heap.size)
 case atStart => exact ⟨_, cnt6, by unfold FlagV updV flg; simp, HR6.out, B6.out, X6.out⟩
 case round =>
  obtain ⟨lf, cnt, rfl, hrg, hb, hxr⟩ := hrel
  have HXR := Lib.hid hxr; have HBR := Lib.hid hb; have HRG := Lib.hid hrg
  clear hb hxr HR6 B6 X6 X5 B5 M5
  go_wp2_with (first
   | (at_next; refine wpList_next_v _ rfl _ rfl KZ W1.heap.size W5.heap.size 3 _ _ _ rfl HRG.out ?_ ?_)
   | go_in)
  · intro hdone
    have HE := Lib.hid (show flg c l f (lf 0) (lf 4) (lf 5) = bflags ⟨⟨(rn : Nat), cost, (dn : Nat), port⟩, age, c, l, f⟩ from by rw [hdone 0 (by rfl), hdone 4 (by rfl), hdone 5 (by rfl)]; rfl)
    clear hdone hrg HRG
    rw [HE.out]
    clear HE
    obtain ⟨FL, hFL⟩ : ∃ n, bflags ⟨⟨(rn : Nat), cost, (dn : Nat), port⟩, age, c, l, f⟩ = n := ⟨_, rfl⟩
    have hr := bflags_range ⟨⟨(rn : Nat), cost, (dn : Nat), port⟩, age, c, l, f⟩
    have HRT := Lib.hid (show r = if okPut cost 4 && okPut port 2 && okPut age 1 then ([66, 66, 3, 0, 0, 2, 2] ++ ofN FL.toNat 1 ++ ofN rn 8 ++ ofN cost.toNat 4 ++ ofN dn 8 ++ ofN port.toNat 2 ++ ofN age.toNat 1 ++ [0, 20, 0, 2, 0, 15, 0, 0], 0) else ([], 1) from by rw [← HRB.out, ← hFL]; rfl)
    rw [hFL] at hr ⊢
    have ho1 : okPut FL 1 = true := by unfold okPut; rw [decide_eq_true hr.1, decide_eq_true (by omega)]; rfl
    have HP1 := Lib.hid (fun W => put_1 FL W)
    rw [ho1, putS_yes ho1, if_pos rfl] at HP1
    clear hFL hr ho1
    have HP4 := Lib.hid (fun W => put_4 cost W)
    have HP2 := Lib.hid (fun W => put_2 port W)
    have HPA := Lib.hid (fun W => put_1 age W)
    obtain ⟨X1, hX1⟩ : ∃ x, ofN FL.toNat 1 = x := ⟨_, rfl⟩
    rw [hX1] at HP1 HRT
    have HL1 := Lib.hid (show X1.length = 1 from by rw [← hX1, ofN_length])
    clear hX1
    cases o4 : okPut cost 4
    · have HR0 := Lib.hid (show r = ([], 1) from by rw [HRT.out, o4]; rfl)
      rw [o4, if_neg (by decide)] at HP4
      clear HRT o4
      obtain ⟨YHP4, hYHP4⟩ : ∃ y, putS cost 4 = y := ⟨_, rfl⟩
      rw [hYHP4] at HP4
      clear hYHP4
      obtain ⟨YHP2, hYHP2⟩ : ∃ y, putS port 2 = y := ⟨_, rfl⟩
      rw [hYHP2] at HP2
      clear hYHP2
      obtain ⟨YHPA, hYHPA⟩ : ∃ y, putS age 1 = y := ⟨_, rfl⟩
      rw [hYHPA] at HPA
      clear hYHPA
      obtain ⟨EHP2, hEHP2⟩ : ∃ y : Int, (if okPut port 2 = true then 0 else 1) = y := ⟨_, rfl⟩
      rw [hEHP2] at HP2
      clear hEHP2
      obtain ⟨EHPA, hEHPA⟩ : ∃ y : Int, (if okPut age 1 = true then 0 else 1) = y := ⟨_, rfl⟩
      rw [hEHPA] at HPA
      clear hEHPA
      go_wp2_with (first | ((with_reducible refine (HP1.out _).mono ?_); rintro e w3 ⟨rfl, hb3⟩; have B3 := Lib.hid (HBR.out.trans (hb3.mono HBR.out.size)); have X3 := Lib.hid (HXR.out.below hb3 HXR.out.lt); obtain ⟨x1, _⟩ := X3.out.at_ 1 _ rfl; clear hb3) | ((with_reducible refine (HP4.out _).mono ?_); rintro e w4 ⟨rfl, hb4⟩; have B4 := Lib.hid (B3.out.trans (hb4.mono B3.out.size)); have X4 := Lib.hid (X3.out.below hb4 X3.out.lt); clear x1; obtain ⟨x3, _⟩ := X4.out.at_ 3 _ rfl; clear hb4) | ((with_reducible refine (HP2.out _).mono ?_); rintro e w5 ⟨rfl, hb5⟩; have B5 := Lib.hid (B4.out.trans (hb5.mono B4.out.size)); have X5 := Lib.hid (X4.out.below hb5 X4.out.lt); clear x3; obtain ⟨x4, _⟩ := X5.out.at_ 4 _ rfl; clear hb5) | ((with_reducible refine (HPA.out _).mono ?_); rintro e w6 ⟨rfl, hb6⟩; have B6 := Lib.hid (B5.out.trans (hb6.mono B5.out.size)); have X6 := Lib.hid (X5.out.below hb6 X5.out.lt); clear x4; clear hb6))
      go_ret2
      exact ⟨by rw [HR0.out, bstr_nil]; rfl, B6.out⟩
    · cases o2 : okPut port 2
      · have HR0 := Lib.hid (show r = ([], 1) from by rw [HRT.out, o4, o2]; rfl)
        rw [o4, if_pos rfl] at HP4
        rw [o2, if_neg (by decide)] at HP2
        clear HRT o4 o2
        obtain ⟨YHP4, hYHP4⟩ : ∃ y, putS cost 4 = y := ⟨_, rfl⟩
        rw [hYHP4] at HP4
        clear hYHP4
        obtain ⟨YHP2, hYHP2⟩ : ∃ y, putS port 2 = y := ⟨_, rfl⟩
        rw [hYHP2] at HP2
        clear hYHP2
        obtain ⟨YHPA, hYHPA⟩ : ∃ y, putS age 1 = y := ⟨_, rfl⟩
        rw [hYHPA] at HPA
        clear hYHPA
        obtain ⟨EHPA, hEHPA⟩ : ∃ y : Int, (if okPut age 1 = true then 0 else 1) = y := ⟨_, rfl⟩
        rw [hEHPA] at HPA
        clear hEHPA
        go_wp2_with (first | ((with_reducible refine (HP1.out _).mono ?_); rintro e w3 ⟨rfl, hb3⟩; have B3 := Lib.hid (HBR.out.trans (hb3.mono HBR.out.size)); have X3 := Lib.hid (HXR.out.below hb3 HXR.out.lt); obtain ⟨x1, _⟩ := X3.out.at_ 1 _ rfl; clear hb3) | ((with_reducible refine (HP4.out _).mono ?_); rintro e w4 ⟨rfl, hb4⟩; have B4 := Lib.hid (B3.out.trans (hb4.mono B3.out.size)); have X4 := Lib.hid (X3.out.below hb4 X3.out.lt); clear x1; obtain ⟨x3, _⟩ := X4.out.at_ 3 _ rfl; clear hb4) | ((with_reducible refine (HP2.out _).mono ?_); rintro e w5 ⟨rfl, hb5⟩; have B5 := Lib.hid (B4.out.trans (hb5.mono B4.out.size)); have X5 := Lib.hid (X4.out.below hb5 X4.out.lt); clear x3; obtain ⟨x4, _⟩ := X5.out.at_ 4 _ rfl; clear hb5) | ((with_reducible refine (HPA.out _).mono ?_); rintro e w6 ⟨rfl, hb6⟩; have B6 := Lib.hid (B5.out.trans (hb6.mono B5.out.size)); have X6 := Lib.hid (X5.out.below hb6 X5.out.lt); clear x4; clear hb6))
        go_ret2
        exact ⟨by rw [HR0.out, bstr_nil]; rfl, B6.out⟩
      · cases oa : okPut age 1
        · have HR0 := Lib.hid (show r = ([], 1) from by rw [HRT.out, o4, o2, oa]; rfl)
          rw [o4, if_pos rfl] at HP4
          rw [o2, if_pos rfl] at HP2
          rw [oa, if_neg (by decide)] at HPA
          clear HRT o4 o2 oa
          obtain ⟨YHP4, hYHP4⟩ : ∃ y, putS cost 4 = y := ⟨_, rfl⟩
          rw [hYHP4] at HP4
          clear hYHP4
          obtain ⟨YHP2, hYHP2⟩ : ∃ y, putS port 2 = y := ⟨_, rfl⟩
          rw [hYHP2] at HP2
          clear hYHP2
          obtain ⟨YHPA, hYHPA⟩ : ∃ y, putS age 1 = y := ⟨_, rfl⟩
          rw [hYHPA] at HPA
          clear hYHPA
          go_wp2_with (first | ((with_reducible refine (HP1.out _).mono ?_); rintro e w3 ⟨rfl, hb3⟩; have B3 := Lib.hid (HBR.out.trans (hb3.mono HBR.out.size)); have X3 := Lib.hid (HXR.out.below hb3 HXR.out.lt); obtain ⟨x1, _⟩ := X3.out.at_ 1 _ rfl; clear hb3) | ((with_reducible refine (HP4.out _).mono ?_); rintro e w4 ⟨rfl, hb4⟩; have B4 := Lib.hid (B3.out.trans (hb4.mono B3.out.size)); have X4 := Lib.hid (X3.out.below hb4 X3.out.lt); clear x1; obtain ⟨x3, _⟩ := X4.out.at_ 3 _ rfl; clear hb4) | ((with_reducible refine (HP2.out _).mono ?_); rintro e w5 ⟨rfl, hb5⟩; have B5 := Lib.hid (B4.out.trans (hb5.mono B4.out.size)); have X5 := Lib.hid (X4.out.below hb5 X4.out.lt); clear x3; obtain ⟨x4, _⟩ := X5.out.at_ 4 _ rfl; clear hb5) | ((with_reducible refine (HPA.out _).mono ?_); rintro e w6 ⟨rfl, hb6⟩; have B6 := Lib.hid (B5.out.trans (hb6.mono B5.out.size)); have X6 := Lib.hid (X5.out.below hb6 X5.out.lt); clear x4; clear hb6))
          go_ret2
          exact ⟨by rw [HR0.out, bstr_nil]; rfl, B6.out⟩
        · rw [o4, if_pos rfl, putS_yes o4] at HP4
          rw [o2, if_pos rfl, putS_yes o2] at HP2
          rw [oa, if_pos rfl, putS_yes oa] at HPA
          rw [o4, o2, oa] at HRT
          clear o4 o2 oa
          obtain ⟨YHP4, hYHP4⟩ : ∃ y, ofN cost.toNat 4 = y := ⟨_, rfl⟩
          have HLHP4 := Lib.hid (show YHP4.length = 4 from by rw [← hYHP4, ofN_length])
          rw [hYHP4] at HP4 HRT
          clear hYHP4
          obtain ⟨YHP2, hYHP2⟩ : ∃ y, ofN port.toNat 2 = y := ⟨_, rfl⟩
          have HLHP2 := Lib.hid (show YHP2.length = 2 from by rw [← hYHP2, ofN_length])
          rw [hYHP2] at HP2 HRT
          clear hYHP2
          obtain ⟨YHPA, hYHPA⟩ : ∃ y, ofN age.toNat 1 = y := ⟨_, rfl⟩
          have HLHPA := Lib.hid (show YHPA.length = 1 from by rw [← hYHPA, ofN_length])
          rw [hYHPA] at HPA HRT
          clear hYHPA
          obtain ⟨R8, hR8⟩ : ∃ y, ofN rn 8 = y := ⟨_, rfl⟩
          have HLR8 := Lib.hid (show R8.length = 8 from by rw [← hR8, ofN_length])
          have HER8 := Lib.hid (fun W => eight_any rn W H8.out.1)
          rw [hR8] at HER8 HRT
          clear hR8
          obtain ⟨D8, hD8⟩ : ∃ y, ofN dn 8 = y := ⟨_, rfl⟩
          have HLD8 := Lib.hid (show D8.length = 8 from by rw [← hD8, ofN_length])
          have HED8 := Lib.hid (fun W => eight_any dn W H8.out.2)
          rw [hD8] at HED8 HRT
          clear hD8
          obtain ⟨S1, hS1⟩ : ∃ y, ([66, 66, 3, 0, 0, 2, 2] : Str) ++ X1 = y := ⟨_, rfl⟩
          have LS1 : S1.length = 8 := by rw [← hS1, List.length_append, HL1.out]; try rfl
          have haS1 := fun (W : World) => run_sadd_b (P := Tryz.prog) W ([66, 66, 3, 0, 0, 2, 2] : Str) X1 (by rw [HL1.out]; decide)
          rw [hS1, bstr_eq ([66, 66, 3, 0, 0, 2, 2] : Str)] at haS1
          rw [hS1] at HRT
          obtain ⟨S2, hS2⟩ : ∃ y, S1 ++ R8 = y := ⟨_, rfl⟩
          have LS2 : S2.length = 16 := by rw [← hS2, List.length_append, HLR8.out, LS1]; try rfl
          have haS2 := fun (W : World) => run_sadd_b (P := Tryz.prog) W S1 R8 (by rw [LS1, HLR8.out]; decide)
          rw [hS2] at haS2
          rw [hS2] at HRT
          obtain ⟨S3, hS3⟩ : ∃ y, S2 ++ YHP4 = y := ⟨_, rfl⟩
          have LS3 : S3.length = 20 := by rw [← hS3, List.length_append, HLHP4.out, LS2]; try rfl
          have haS3 := fun (W : World) => run_sadd_b (P := Tryz.prog) W S2 YHP4 (by rw [LS2, HLHP4.out]; decide)
          rw [hS3] at haS3
          rw [hS3] at HRT
          obtain ⟨S4, hS4⟩ : ∃ y, S3 ++ D8 = y := ⟨_, rfl⟩
          have LS4 : S4.length = 28 := by rw [← hS4, List.length_append, HLD8.out, LS3]; try rfl
          have haS4 := fun (W : World) => run_sadd_b (P := Tryz.prog) W S3 D8 (by rw [LS3, HLD8.out]; decide)
          rw [hS4] at haS4
          rw [hS4] at HRT
          obtain ⟨S5, hS5⟩ : ∃ y, S4 ++ YHP2 = y := ⟨_, rfl⟩
          have LS5 : S5.length = 30 := by rw [← hS5, List.length_append, HLHP2.out, LS4]; try rfl
          have haS5 := fun (W : World) => run_sadd_b (P := Tryz.prog) W S4 YHP2 (by rw [LS4, HLHP2.out]; decide)
          rw [hS5] at haS5
          rw [hS5] at HRT
          obtain ⟨S6, hS6⟩ : ∃ y, S5 ++ YHPA = y := ⟨_, rfl⟩
          have LS6 : S6.length = 31 := by rw [← hS6, List.length_append, HLHPA.out, LS5]; try rfl
          have haS6 := fun (W : World) => run_sadd_b (P := Tryz.prog) W S5 YHPA (by rw [LS5, HLHPA.out]; decide)
          rw [hS6] at haS6
          rw [hS6] at HRT
          obtain ⟨S7, hS7⟩ : ∃ y, S6 ++ ([0, 20, 0, 2, 0, 15, 0, 0] : Str) = y := ⟨_, rfl⟩
          have LS7 : S7.length = 39 := by rw [← hS7, List.length_append, LS6]; try rfl
          have haS7 := fun (W : World) => run_sadd_b (P := Tryz.prog) W S6 ([0, 20, 0, 2, 0, 15, 0, 0] : Str) (by rw [LS6]; decide)
          rw [hS7, bstr_eq ([0, 20, 0, 2, 0, 15, 0, 0] : Str)] at haS7
          rw [hS7] at HRT
          clear hS1 LS1 hS2 LS2 hS3 LS3 hS4 LS4 hS5 LS5 hS6 LS6 hS7 LS7
          have HAS1 := Lib.hid haS1
          clear haS1
          have HAS2 := Lib.hid haS2
          clear haS2
          have HAS3 := Lib.hid haS3
          clear haS3
          have HAS4 := Lib.hid haS4
          clear haS4
          have HAS5 := Lib.hid haS5
          clear haS5
          have HAS6 := Lib.hid haS6
          clear haS6
          have HAS7 := Lib.hid haS7
          clear haS7
          go_upto_region 13 with (first | ((with_reducible refine (HP1.out _).mono ?_); rintro e w3 ⟨rfl, hb3⟩; have B3 := Lib.hid (HBR.out.trans (hb3.mono HBR.out.size)); have X3 := Lib.hid (HXR.out.below hb3 HXR.out.lt); obtain ⟨x1, _⟩ := X3.out.at_ 1 _ rfl; clear hb3) | ((with_reducible refine (HP4.out _).mono ?_); rintro e w4 ⟨rfl, hb4⟩; have B4 := Lib.hid (B3.out.trans (hb4.mono B3.out.size)); have X4 := Lib.hid (X3.out.below hb4 X3.out.lt); clear x1; obtain ⟨x3, _⟩ := X4.out.at_ 3 _ rfl; clear hb4) | ((with_reducible refine (HP2.out _).mono ?_); rintro e w5 ⟨rfl, hb5⟩; have B5 := Lib.hid (B4.out.trans (hb5.mono B4.out.size)); have X5 := Lib.hid (X4.out.below hb5 X4.out.lt); clear x3; obtain ⟨x4, _⟩ := X5.out.at_ 4 _ rfl; clear hb5) | ((with_reducible refine (HPA.out _).mono ?_); rintro e w6 ⟨rfl, hb6⟩; have B6 := Lib.hid (B5.out.trans (hb6.mono B5.out.size)); have X6 := Lib.hid (X5.out.below hb6 X5.out.lt); clear x4; clear hb6))
          obtain ⟨Z, hZ⟩ : ∃ W, w6.drew = W := ⟨_, rfl⟩
          have hbz : Below w6.heap.size w6 Z := by rw [← hZ]; exact Below.drew (Below.refl _ _)
          have HZ := Lib.hid hZ
          have XZ := Lib.hid (X6.out.below hbz X6.out.lt); have BZ := Lib.hid (B6.out.trans (hbz.mono B6.out.size))
          clear hZ hbz X6 B6 X5 B5 X4 B4 X3 B3 HXR HBR HP1 HP4 HP2 HPA
          have HF := Lib.hid (fun (wq : World) (h : CBox wq q0 110 #[.int .u64 (rn : Nat), .int .i64 cost, .int .u64 (dn : Nat), .int .i64 port, .int .i64 age, .bool c, .bool l, .bool f]) => And.intro (h.at_ 0 _ rfl).1 (And.intro (h.at_ 2 _ rfl).1 (And.intro HAS1.out (And.intro HAS2.out (And.intro HAS3.out (And.intro HAS4.out (And.intro HAS5.out (And.intro HAS6.out HAS7.out))))))))
          refine wp_region_held_drew (S := fun wq => CBox wq q0 110 #[.int .u64 (rn : Nat), .int .i64 cost, .int .u64 (dn : Nat), .int .i64 port, .int .i64 age, .bool c, .bool l, .bool f]) (by kernel_rfl) (by rw [HZ.out]; exact XZ.out) (fun hHeld => ?_)
          rw [HZ.out] at hHeld ⊢
          iterate 5 (first | (refine takeO 21 (v := ?_) rfl (by kernel_rfl) (fun _ _ _ => id) (Or.inl ⟨by rfl, ?_⟩) (by assumption) ?_; rotate_left; (focus (intro wq hSq; have f := HF.out wq hSq; go_simp <;> with_reducible rfl)); simp only [Act.put, List.setIfInBounds_toArray, List.set_cons_zero, List.set_cons_succ]) | (refine takeO 21 (v := undef) rfl (by kernel_rfl) (fun _ _ _ h => h) (Or.inr ⟨by rfl, rfl⟩) (by assumption) ?_; simp only [Act.put, List.setIfInBounds_toArray, List.set_cons_zero, List.set_cons_succ]))
          refine tkL 7 (v := ?_) rfl (by kernel_rfl) (fun _ _ _ => id) (Or.inl ⟨by rfl, ?_⟩) (by assumption) ?_; rotate_left; (focus (intro wq hSq; have f := HF.out wq hSq; go_simp <;> with_reducible rfl)); simp only [Act.put, pA, pB, pC]
          refine tkL 9 (v := ?_) rfl (by kernel_rfl) (fun _ _ _ => id) (Or.inl ⟨by rfl, ?_⟩) (by assumption) ?_; rotate_left; (focus (intro wq hSq; have f := HF.out wq hSq; go_simp <;> with_reducible rfl)); simp only [Act.put, pA, pB, pC]
          refine tkL 10 (v := ?_) rfl (by kernel_rfl) (fun _ _ _ => id) (Or.inl ⟨by rfl, ?_⟩) (by assumption) ?_; rotate_left; (focus (intro wq hSq; have f := HF.out wq hSq; go_simp <;> with_reducible rfl)); simp only [Act.put, pA, pB, pC]
          refine tkL 11 (v := ?_) rfl (by kernel_rfl) (fun _ _ _ => id) (Or.inl ⟨by rfl, ?_⟩) (by assumption) ?_; rotate_left; (focus (intro wq hSq; have f := HF.out wq hSq; go_simp <;> with_reducible rfl)); simp only [Act.put, pA, pB, pC]
          refine tkL 14 (v := ?_) rfl (by kernel_rfl) (fun _ _ _ => id) (Or.inl ⟨by rfl, ?_⟩) (by assumption) ?_; rotate_left; (focus (intro wq hSq; have f := HF.out wq hSq; go_simp <;> with_reducible rfl)); simp only [Act.put, pA, pB, pC]
          refine tkL 16 (v := ?_) rfl (by kernel_rfl) (fun _ _ _ => id) (Or.inl ⟨by rfl, ?_⟩) (by assumption) ?_; rotate_left; (focus (intro wq hSq; have f := HF.out wq hSq; go_simp <;> with_reducible rfl)); simp only [Act.put, pA, pB, pC]
          refine wpAnyH_ready (rs := [5]) (by kernel_rfl) (by simp) (nextL 5 rfl (fun Kr hKr => ?_) AllReadyH.nil)
          rw [if_pos (by rfl)]
          go_simp
          (with_reducible refine (HER8.out _).mono ?_)
          rintro e wa ⟨rfl, hba⟩
          have XA := Lib.hid (XZ.out.below hba XZ.out.lt); have BA := Lib.hid (BZ.out.trans (hba.mono BZ.out.size))
          refine hKr.out _ _ XA.out (fun _ => ?_)
          clear hKr hba
          refine tkL 6 (v := ?_) rfl (by kernel_rfl) (fun _ _ _ => id) (Or.inl ⟨by rfl, ?_⟩) (by assumption) ?_; rotate_left; (focus (intro wq hSq; have f := HF.out wq hSq; go_simp <;> with_reducible rfl)); simp only [Act.put, pA, pB, pC]
          refine tkL 8 (v := ?_) rfl (by kernel_rfl) (fun _ _ _ => id) (Or.inl ⟨by rfl, ?_⟩) (by assumption) ?_; rotate_left; (focus (intro wq hSq; have f := HF.out wq hSq; go_simp <;> with_reducible rfl)); simp only [Act.put, pA, pB, pC]
          refine wpAnyH_ready (rs := [12]) (by kernel_rfl) (by simp) (nextL 12 rfl (fun Kr hKr => ?_) AllReadyH.nil)
          rw [if_pos (by rfl)]
          go_simp
          (with_reducible refine (HED8.out _).mono ?_)
          rintro e wb ⟨rfl, hbb⟩
          have XB := Lib.hid (XA.out.below hbb XA.out.lt); have BB := Lib.hid (BA.out.trans (hbb.mono BA.out.size))
          refine hKr.out _ _ XB.out (fun _ => ?_)
          clear hKr hbb
          refine tkL 13 (v := ?_) rfl (by kernel_rfl) (fun _ _ _ => id) (Or.inl ⟨by rfl, ?_⟩) (by assumption) ?_; rotate_left; (focus (intro wq hSq; have f := HF.out wq hSq; go_simp <;> with_reducible rfl)); simp only [Act.put, pA, pB, pC]
          refine tkL 15 (v := ?_) rfl (by kernel_rfl) (fun _ _ _ => id) (Or.inl ⟨by rfl, ?_⟩) (by assumption) ?_; rotate_left; (focus (intro wq hSq; have f := HF.out wq hSq; go_simp <;> with_reducible rfl)); simp only [Act.put, pA, pB, pC]
          refine tkL 17 (v := ?_) rfl (by kernel_rfl) (fun _ _ _ => id) (Or.inl ⟨by rfl, ?_⟩) (by assumption) ?_; rotate_left; (focus (intro wq hSq; have f := HF.out wq hSq; go_simp <;> with_reducible rfl)); simp only [Act.put, pA, pB, pC]
          refine tkL 18 (v := ?_) rfl (by kernel_rfl) (fun _ _ _ => id) (Or.inl ⟨by rfl, ?_⟩) (by assumption) ?_; rotate_left; (focus (intro wq hSq; have f := HF.out wq hSq; go_simp <;> with_reducible rfl)); simp only [Act.put, pA, pB, pC]
          refine tkL 19 (v := ?_) rfl (by kernel_rfl) (fun _ _ _ => id) (Or.inl ⟨by rfl, ?_⟩) (by assumption) ?_; rotate_left; (focus (intro wq hSq; have f := HF.out wq hSq; go_simp <;> with_reducible rfl)); simp only [Act.put, pA, pB, pC]
          refine tkL 20 (v := ?_) rfl (by kernel_rfl) (fun _ _ _ => id) (Or.inl ⟨by rfl, ?_⟩) (by assumption) ?_; rotate_left; (focus (intro wq hSq; have f := HF.out wq hSq; go_simp <;> with_reducible rfl)); simp only [Act.put, pA, pB, pC]
          refine wpAnyH_done (by kernel_rfl) ?_ _
          go_wp2_with fail
          go_ret2
          exact ⟨by rw [HRT.out]; rfl, BB.out⟩
  · intro x v w2 cnt2 hxk hF hlf hrg2 hlt hg2 hs2 hen
    have hb2 := hg2
    have HB2 := Lib.hid (show Below w.heap.size w w2 from HBR.out.grown hg2 HBR.out.size (fun k hk => by cases hk; exact Nat.le_trans HWM.out HWS.out))
    have HX2 := Lib.hid (HXR.out.grown hg2 (fun e => by injection e with e; have := HML.out; have := HWS.out; omega))
    have HRG2 := Lib.hid hrg2
    have HM2 := Lib.hid (show w2.rangeLeft W1.heap.size W5.heap.size < wr.rangeLeft W1.heap.size W5.heap.size from by rw [hrg2.left, HRG.out.left]; exact hlt)
    clear hxk hb2 hg2 hs2 hlt hrg2
    rcases FlagV_some hF with ⟨rfl, rfl⟩ | ⟨rfl, rfl⟩ | ⟨rfl, rfl⟩
    all_goals clear hF
    all_goals replace hen : (Instr.entry (.pointer (some ⟨W5.heap.size, 0, none⟩))).run Tryz.prog w2 = .ok _ w2 := hen
    all_goals unfold KZ at hen
    all_goals dsimp only at hen
    · have HS := Lib.hid (And.intro (strike_same lf 0) (And.intro (strike_else lf 0 4 (by decide)) (strike_else lf 0 5 (by decide))))
      cases c
      · have HV := Lib.hid (show flg false l f (lf 0) (lf 4) (lf 5) = flg false l f (strikeK lf 0 0) (strikeK lf 0 4) (strikeK lf 0 5) from by
         rw [HS.out.1, HS.out.2.1, HS.out.2.2]
         unfold flg
         simp)
        clear hlf
        go_wp2
        go_roundw
        case rel => exact ⟨_, _, by rw [HV.out], HRG2.out, HB2.out, HX2.out⟩
        case measure => exact HM2.out
      · have HV := Lib.hid (show bits BinOp.or .i64 (flg true l f (lf 0) (lf 4) (lf 5)) 1 = flg true l f (strikeK lf 0 0) (strikeK lf 0 4) (strikeK lf 0 5) from by
         rw [HS.out.1, HS.out.2.1, HS.out.2.2, hlf]
         exact flg_a _ _ _ _)
        clear hlf
        go_wp2
        go_roundw
        case rel => exact ⟨_, _, by rw [← HV.out], HRG2.out, HB2.out, HX2.out⟩
        case measure => exact HM2.out
    · have HS := Lib.hid (And.intro (strike_same lf 4) (And.intro (strike_else lf 4 0 (by decide)) (strike_else lf 4 5 (by decide))))
      cases l
      · have HV := Lib.hid (show flg c false f (lf 0) (lf 4) (lf 5) = flg c false f (strikeK lf 4 0) (strikeK lf 4 4) (strikeK lf 4 5) from by
         rw [HS.out.1, HS.out.2.1, HS.out.2.2]
         unfold flg
         simp)
        clear hlf
        go_wp2
        go_roundw
        case rel => exact ⟨_, _, by rw [HV.out], HRG2.out, HB2.out, HX2.out⟩
        case measure => exact HM2.out
      · have HV := Lib.hid (show bits BinOp.or .i64 (flg c true f (lf 0) (lf 4) (lf 5)) 16 = flg c true f (strikeK lf 4 0) (strikeK lf 4 4) (strikeK lf 4 5) from by
         rw [HS.out.1, HS.out.2.1, HS.out.2.2, hlf]
         exact flg_b _ _ _ _)
        clear hlf
        go_wp2
        go_roundw
        case rel => exact ⟨_, _, by rw [← HV.out], HRG2.out, HB2.out, HX2.out⟩
        case measure => exact HM2.out
    · have HS := Lib.hid (And.intro (strike_same lf 5) (And.intro (strike_else lf 5 0 (by decide)) (strike_else lf 5 4 (by decide))))
      cases f
      · have HV := Lib.hid (show flg c l false (lf 0) (lf 4) (lf 5) = flg c l false (strikeK lf 5 0) (strikeK lf 5 4) (strikeK lf 5 5) from by
         rw [HS.out.1, HS.out.2.1, HS.out.2.2]
         unfold flg
         simp)
        clear hlf
        go_wp2
        go_roundw
        case rel => exact ⟨_, _, by rw [HV.out], HRG2.out, HB2.out, HX2.out⟩
        case measure => exact HM2.out
      · have HV := Lib.hid (show bits BinOp.or .i64 (flg c l true (lf 0) (lf 4) (lf 5)) 32 = flg c l true (strikeK lf 5 0) (strikeK lf 5 4) (strikeK lf 5 5) from by
         rw [HS.out.1, HS.out.2.1, HS.out.2.2, hlf]
         exact flg_d _ _ _ _)
        clear hlf
        go_wp2
        go_roundw
        case rel => exact ⟨_, _, by rw [← HV.out], HRG2.out, HB2.out, HX2.out⟩
        case measure => exact HM2.out
end Go.Proofs.YthcdppppppgckaaGreatDoor

namespace Go.Proofs.YthcdppppppgckaaGreatDoor
open Go.RowKit
set_option maxRecDepth 20000

theorem contains_any (v : Value) (L : List Int) (x : Int) (w : World) (h : Ints w v L) :
 Calls Tryz.prog 87 #[v, .int .i64 x] w fun e w' => e = .returned (.bool (L.contains x)) ∧ w = w' := by
 obtain ⟨ao, cap, b, off, rfl, h0, h1, h2, h3⟩ := h
 rcases h0 with rfl | rfl
 · exact (Tryz.slices_Contains_int_empty ao cap x w).mono fun e w' h => ⟨by rw [h.1]; simp, h.2.symm⟩
 · refine (Tryz.slices_Contains_int b off L.length cap L x w (Nat.le_refl _) (by omega) (fun j hj => (h3 j hj).2)).mono fun e w' h => ⟨by rw [h.1, List.take_length], h.2.symm⟩

theorem take_eq_snoc (A B : List Int) (k : Nat) (ha : k < A.length) (hb : k < B.length) (h : A.take k = B.take k) : (A.take (k + 1) = B.take (k + 1)) ↔ A[k] = B[k] := by
 rw [take_snoc A k ha, take_snoc B k hb, h, List.append_cancel_left_eq]
 simp only [List.cons.injEq, and_true]

set_option maxHeartbeats 800000 in
theorem same_any (v u : Value) (A B : List Int) (w : World) (h : Ints w v A) (h' : Ints w u B) :
 Calls Tryz.prog 21 #[v, u] w fun e w' => e = .returned (.bool (A == B)) ∧ ∃ n, w' = w.drewN n := by
 obtain ⟨b, off, hm, hlen, hidx, hc⟩ := h.facts
 obtain ⟨b', off', hm', hlen', hidx', hc'⟩ := h'.facts
 clear h h'
 by_cases hl : A.length = B.length
 · have hne : ((A.length : Int) != (B.length : Int)) = false := by rw [hl]; simp
   have HL := Lib.hid hl
   have hle : A.length ≤ B.length := by omega
   have hle' : B.length ≤ A.length := by omega
   clear hl
   go_enter Tryz.func21, Tryz.ntmps21
   go_wp2
   go_loopw [5] (fun i wr => ∃ k : Nat, k ≤ A.length ∧ i = .int .i64 k ∧ A.take k = B.take k ∧ ∃ n, wr = w.drewN n) (fun i _ => A.length - (intOf i).toNat)
   case atStart => exact ⟨0, Nat.zero_le _, rfl, by simp, 0, rfl⟩
   case round =>
    obtain ⟨k, hk, rfl, hn, n, rfl⟩ := hrel
    have HN := Lib.hid hn
    by_cases hlt : k < A.length
    · have hlt' : k < B.length := by omega
      have HS := Lib.hid (take_eq_snoc A B k hlt hlt' hn)
      have hp := hidx k hlt
      have hcell := (hc k hlt).2
      have hp' := hidx' k hlt'
      have hcell' := (hc' k hlt').2
      clear hidx hc hidx' hc' hn
      go_wp2
      go_quiet (fail)
      go_wp2
      · go_ret
        have h : (A[k] != B[k]) = true := by assumption
        refine ⟨ret_bool ?_, n + nq, by simp⟩
        symm
        rw [beq_eq_false_iff_ne]
        rintro rfl
        simp at h
      · go_roundw
        case rel =>
         have h : (A[k] != B[k]) = false := by assumption
         exact ⟨k + 1, by omega, by go_num, HS.out.2 (by simpa using h), n + nq, rfl⟩
        case measure => simp [intOf]; omega
    · have HE : Hid (A = B) := by
       rw [List.take_of_length_le (by omega), List.take_of_length_le (by omega)] at hn
       exact hn
      clear hidx hc hidx' hc' hn
      go_wp2
      go_ret
      exact ⟨ret_bool (by simp [HE.out]), n, rfl⟩
 · have hne : ((A.length : Int) != (B.length : Int)) = true := by rw [bne_iff_ne]; omega
   have HL := Lib.hid hl
   clear hl
   go_enter Tryz.func21, Tryz.ntmps21
   go_wp2
   go_ret
   refine ⟨ret_bool ?_, 0, rfl⟩
   symm
   rw [beq_eq_false_iff_ne]
   rintro rfl
   exact HL.out rfl

end Go.Proofs.YthcdppppppgckaaGreatDoor
