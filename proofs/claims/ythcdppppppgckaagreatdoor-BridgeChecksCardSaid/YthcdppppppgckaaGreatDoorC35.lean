/- Texts joined into one file: BRt, BQKey, BBr1, BBr2. -/
import Derived.Test.YthcdppppppgckaaGreatDoorC30
import Derived.Test.YthcdppppppgckaaGreatDoorC29
import Derived.Test.YthcdppppppgckaaGreatDoorC05
import Derived.Deep.DeepCutAuto
import Derived.Maps.OwnSet
import Derived.Maps.RangeWalk
import Derived.WideKeyPair
import Derived.DeepKeys4
import Derived.Test.YthcdppppppgckaaGreatDoorC20
import Derived.Test.YthcdppppppgckaaGreatDoorC27
import Derived.Test.YthcdppppppgckaaGreatDoorC33
import Derived.Test.YthcdppppppgckaaGreatDoorC34
import Derived.Test.YthcdppppppgckaaGreatDoorC32
import Derived.Test.YthcdppppppgckaaGreatDoorC09
import Derived.Test.YthcdppppppgckaaGreatDoorC25
import Derived.Test.YthcdppppppgckaaGreatDoorC26
import Derived.Test.YthcdppppppgckaaGreatDoorC11

namespace Go.Proofs.YthcdppppppgckaaGreatDoor
open Go.RowKit Go.Lib Go.Maps Go.WideMaps
set_option maxRecDepth 20000
set_option maxRecDepth 20000

theorem plArr : ArrKey Tryz.prog 183 3 2 := ⟨Tryz.underlying183, by kernel_rfl, by kernel_rfl, by kernel_rfl⟩
theorem plTypes : ∃ m, Tryz.prog.types.size = m + 1 := ⟨Tryz.prog.types.size - 1, by kernel_rfl⟩
theorem plLaw : Keyed Tryz.prog 183 := Keyed.of_law plArr.law
def plLit (x : Int × Int) : Lit := .string (keyBytes [.int .i64 x.1, .int .i64 x.2])
def plEnc (x : Int × Int) : Value := .agg #[.int .i64 x.1, .int .i64 x.2]
def plOk (x : Int × Int) : Prop := (Lit.int .i64 x.1).wf = true ∧ (Lit.int .i64 x.2).wf = true
theorem pl_reads (x : Int × Int) (h : plOk x) : keyOf Tryz.prog 183 (plEnc x) = some (plLit x) := keyOf_pair plArr Tryz.underlying3 plTypes h.1 h.2
theorem pl_lits {d : Nat} {cs : List Value} {l : List Lit} (h : Tryz.prog.keyLits d 3 cs = some l) : ∃ n, cs = [.int .i64 n] ∧ l = [.int .i64 n] ∧ (Lit.int .i64 n).wf = true := by
 cases d with
 | zero => simp [Program.keyLits] at h
 | succ d =>
   unfold Program.keyLits at h
   rw [Tryz.underlying3] at h
   split at h
   all_goals first
    | (cases h; done)
    | (simp_all; done)
    | (simp_all; exact ⟨_, ⟨h.1.1, rfl⟩, h.2.symm, h.1.1 ▸ h.1.2⟩)
theorem pl_all (key : Value) (kl : Lit) (h : keyOf Tryz.prog 183 key = some kl) : ∃ x : Int × Int, plOk x ∧ key = plEnc x := by
 obtain ⟨m, hm⟩ := plTypes
 unfold keyOf at h
 simp only [Tryz.underlying183] at h
 split at h
 · rename_i hf
   have hfm : key.formed Tryz.prog 183 = true := by simp at hf; exact hf.2
   cases key <;> simp [Value.formed, Tryz.underlying183] at hfm
   rename_i cs
   rw [plArr.size] at hfm
   obtain ⟨l⟩ := cs
   match l, hfm with
   | [c0, c1], _ =>
     rw [hm] at h
     unfold Program.keyLits at h
     simp only [Tryz.underlying183, Value.cells] at h
     rw [if_pos (by rw [plArr.size]; rfl)] at h
     simp only [Option.map_eq_some_iff] at h
     obtain ⟨ls, ⟨xs, hx, e1⟩, e2⟩ := h
     rw [show List.range 2 = [0, 1] from rfl, List.mapM_cons, List.mapM_cons, List.mapM_nil] at hx
     simp only [bind, Option.bind_eq_some_iff, pure, Option.some.injEq, plArr.one] at hx
     obtain ⟨y0, h0, _, ⟨y1, h1, _, rfl, rfl⟩, rfl⟩ := hx
     obtain ⟨a, ea, rfl, wa⟩ := pl_lits h0
     obtain ⟨b, eb, rfl, wb⟩ := pl_lits h1
     simp at ea eb
     subst ea; subst eb; subst e1; subst e2
     exact ⟨(a, b), ⟨wa, wb⟩, rfl⟩
 · cases h
theorem pl_inj (x y : Int × Int) (h : plEnc x = plEnc y) : x = y := by
 obtain ⟨a, b⟩ := x
 obtain ⟨c, d⟩ := y
 simpa [plEnc] using h
def KPl : KeyEnc Tryz.prog 183 (Int × Int) := ⟨plEnc, plOk, plLit, pl_reads, pl_all, pl_inj, plLaw⟩

structure RtQ (w : World) (p bf bh : Nat) (age : Int) : Prop where
 box : CBox w p 159 #[.int .i64 age, .map (some bf), .map (some bh)]
 fixed : VMap KPl w bf 0 (fun _ => none)
 heard : VMap KPl w bh 0 (fun _ => none)
theorem RtQ.same {w w' : World} {p bf bh : Nat} {age : Int} (h : RtQ w p bf bh age) (h1 : w'.heap[p]? = w.heap[p]?) (h2 : w'.heap[bf]? = w.heap[bf]?) (h3 : w'.heap[bh]? = w.heap[bh]?) : RtQ w' p bf bh age := ⟨h1.trans h.box, h.fixed.same h2, h.heard.same h3⟩
theorem RtQ.lt {w : World} {p bf bh : Nat} {age : Int} (h : RtQ w p bf bh age) : p < w.heap.size ∧ bf < w.heap.size ∧ bh < w.heap.size := ⟨h.box.lt, h.fixed.lt, h.heard.lt⟩
theorem RtQ.below {w w' : World} {p bf bh : Nat} {age : Int} (h : RtQ w p bf bh age) (hb : Below w.heap.size w w') : RtQ w' p bf bh age := h.same (hb.block _ h.lt.1) (hb.block _ h.lt.2.1) (hb.block _ h.lt.2.2)
def RetRNew (w : World) (age : Int) (e : Ending) (w' : World) : Prop := ∃ p bf bh, e = .returned (.tuple #[.pointer (some ⟨p, 0, none⟩), .int .i64 0]) ∧ RtQ w' p bf bh age ∧ (w.heap.size ≤ p ∧ w.heap.size ≤ bf ∧ w.heap.size ≤ bh) ∧ bf ≠ bh ∧ Below w.heap.size w w'
theorem rnew_any (age : Int) (w : World) (h : 1 ≤ age ∧ age ≤ 1000000) :
 Calls Tryz.prog 36 #[.int .i64 age] w (RetRNew w age) := by
 have d1 : decide (age < 1) = false := decide_eq_false (by omega)
 have d2 : decide ((1000000 : Int) < age) = false := decide_eq_false (by omega)
 have hmm := @run_makeMap Tryz.prog
 clear h
 go_enter Tryz.func36, Tryz.ntmps36
 go_wp2_with fail
 go_ret2
 have b1 : Below w.heap.size w (w.alloc (.map #[] 0)) := (Below.refl _ _).alloc (Nat.le_refl _) _
 have m1 := VMap.made KPl w
 have m2 := VMap.made KPl (w.alloc (.map #[] 0))
 have s1 : (w.alloc (.map #[] 0)).heap.size = w.heap.size + 1 := by simp
 rw [s1] at m2
 have b3 : Below (w.heap.size + 1 + 1) ((w.alloc (.map #[] 0)).alloc (.map #[] 0)) (((w.alloc (.map #[] 0)).alloc (.map #[] 0)).alloc (.cells #[.int .i64 age, .map (some w.heap.size), .map (some (w.heap.size + 1))] 159)) := (Below.refl _ _).alloc (by simp) _
 exact ⟨_, w.heap.size, w.heap.size + 1, rfl, ⟨CBox.new _ (by simp), (m1.below (B := w.heap.size + 1) ((Below.refl _ _).alloc (by simp) _) (by omega)).below b3 (by omega), m2.below b3 (by omega)⟩, ⟨Nat.le_succ_of_le (Nat.le_succ _), Nat.le_refl _, Nat.le_succ _⟩, Nat.ne_of_lt (Nat.lt_succ_self _), (b1.alloc (by simp) _).alloc (by rw [World.size_alloc, World.size_alloc]; exact Nat.le_succ_of_le (Nat.le_succ _)) _⟩

set_option maxHeartbeats 2000000 in
theorem rlist_none (p bf bh : Nat) (age v now : Int) (w : World) (h : RtQ w p bf bh age) :
 Calls Tryz.prog 47 #[.pointer (some ⟨p, 0, none⟩), .int .i64 v, .int .i64 now] w fun e w' => e = .returned (.slice none 0 0) ∧ Below w.heap.size w w' := by
 obtain ⟨c1, _⟩ := h.box.at_ 1 _ rfl
 have H := Lib.hid h
 clear h
 go_enter Tryz.func47, Tryz.ntmps47
 go_wp2_with (at_range; refine wpList_range_v _ rfl _ 156 4 rfl Tryz.underlying156 KPl bf 0 (fun _ => none) rfl H.out.fixed ?_; intro w1 cnt1 hrg1 hb1 hs1)
 go_frame
 have R1 := Lib.hid hrg1; have B1 := Lib.hid hb1
 clear hrg1 hb1 hs1 c1
 go_loopw [7, 8] (fun r _ wr => r = .slice none 0 0 ∧ wr = w1) (fun _ _ wr => wr.rangeLeft bf w.heap.size)
 case atStart => exact ⟨rfl, rfl⟩
 case round =>
  obtain ⟨rfl, hwr⟩ := hrel
  subst wr
  go_wp2_with (first
   | (at_next; refine wpList_next_b _ rfl _ rfl KPl bf w.heap.size 0 (fun _ => none) _ _ rfl R1.out ?_ ?_)
   | go_in)
  intro _
  have H1 := Lib.hid (H.out.below B1.out)
  obtain ⟨c2, _⟩ := H1.out.box.at_ 2 _ rfl
  go_wp2_with (at_range; refine wpList_range_v _ rfl _ 157 3 rfl Tryz.underlying157 KPl bh 0 (fun _ => none) rfl H1.out.heard ?_; intro w2 cnt2 hrg2 hb2 hs2)
  go_frame
  have R2 := Lib.hid hrg2; have B2 := Lib.hid (B1.out.trans (hb2.mono B1.out.size))
  clear hrg2 hb2 hs2 c2
  go_loopw [7, 9, 10] (fun r _ _ wr => r = .slice none 0 0 ∧ wr = w2) (fun _ _ _ wr => wr.rangeLeft bh w1.heap.size)
  case atStart => exact ⟨rfl, rfl⟩
  case round =>
   obtain ⟨rfl, hwr⟩ := hrel
   subst wr
   have HS := Lib.hid (Tryz.slices_Sort_int_none none 0 w2)
   have HC := Lib.hid (Tryz.slices_Compact_int_empty none 0 w2)
   go_wp2_with (first
    | (at_next; refine wpList_next_b _ rfl _ rfl KPl bh w1.heap.size 0 (fun _ => none) _ _ rfl R2.out (fun _ => ?_) (fun xb c w' cnt' _ hF => absurd hF (by simp)))
    | ((with_reducible refine HS.out.mono ?_); rintro e w3 ⟨rfl, hw3⟩; subst w3) | ((with_reducible refine HC.out.mono ?_); rintro e w3 ⟨rfl, hw3⟩; subst w3) | go_in)
   go_ret
   exact ⟨rfl, B2.out⟩
def RetRt (w : World) (p bf bh : Nat) (age : Int) (e : Ending) (w' : World) : Prop := (∃ i : Int, e = .returned (.int .i64 i)) ∧ RtQ w' p bf bh age ∧ Below w.heap.size w w'
set_option maxHeartbeats 2000000 in
theorem rforget_none (f : Nat) (caps : Array Value) (p bf bh : Nat) (age : Int) (w : World) (h : RtQ w p bf bh age) :
 Calls Tryz.prog 100 #[.pointer (some ⟨p, 0, none⟩), .func (.func f) #[] caps] w (RetRt w p bf bh age) := by
 obtain ⟨c2, _⟩ := h.box.at_ 2 _ rfl
 have H := Lib.hid h
 clear h
 go_enter Tryz.func100, Tryz.ntmps100
 go_wp2_with (at_range; refine wpList_range_v _ rfl _ 157 3 rfl Tryz.underlying157 KPl bh 0 (fun _ => none) rfl H.out.heard ?_; intro w1 cnt1 hrg1 hb1 hs1)
 go_frame
 have R1 := Lib.hid hrg1; have B1 := Lib.hid hb1
 clear hrg1 hb1 hs1 c2
 refine wp_loop_rounds 1 ?_
 rw [rounds_succ]
 go_wp2_with (at_next; refine wpList_next_b _ rfl _ rfl KPl bh w.heap.size 0 (fun _ => none) _ _ rfl R1.out ?_ ?_)
 · intro _
   go_wp2_with fail
   go_ret
   exact ⟨⟨_, rfl⟩, H.out.below B1.out, B1.out⟩
theorem rtexpire_none (p bf bh : Nat) (age now : Int) (w : World) (h : RtQ w p bf bh age) :
 Calls Tryz.prog 70 #[.pointer (some ⟨p, 0, none⟩), .int .i64 now] w (RetRt w p bf bh age) := by
 obtain ⟨W2, hW2⟩ : ∃ W, (w.alloc (.cells #[.pointer (some ⟨p, 0, none⟩)] 82)).alloc (.cells #[.int .i64 now] 3) = W := ⟨_, rfl⟩
 obtain ⟨q0, hq0⟩ : ∃ q, w.heap.size = q := ⟨_, rfl⟩
 have hb : Below w.heap.size w W2 := by rw [← hW2]; exact ((Below.refl _ _).alloc (Nat.le_refl _) _).alloc (by simp) _
 have x0 : CBox W2 q0 82 #[.pointer (some ⟨p, 0, none⟩)] := by rw [← hW2]; exact (CBox.new _ hq0.symm).old _
 obtain ⟨c0, _⟩ := x0.at_ 0 _ rfl
 have HC := Lib.hid (rforget_none 133 #[.pointer (some ⟨q0, 0, none⟩), .pointer (some ⟨q0 + 1, 0, none⟩)] p bf bh age W2 (h.below hb))
 have HB := Lib.hid hb; have HW2 := Lib.hid hW2; have HQ0 := Lib.hid hq0
 clear h hb hW2 hq0 x0
 go_enter Tryz.func70, Tryz.ntmps70
 go_upto_region 1 with fail
 rw [HW2.out, HQ0.out]
 go_wp2_with ((with_reducible refine HC.out.mono ?_); rintro e w' ⟨⟨i, rfl⟩, hr, hb2⟩; have HR := Lib.hid hr; have HB2 := Lib.hid (HB.out.trans (hb2.mono HB.out.size)); clear hr hb2)
 go_ret
 exact ⟨⟨i, rfl⟩, HR.out, HB2.out⟩
end Go.Proofs.YthcdppppppgckaaGreatDoor

namespace Go.Proofs.YthcdppppppgckaaGreatDoor
open Go.RowKit Go.Lib Go.Maps
set_option maxRecDepth 20000

theorem qk_wide : (match Tryz.prog.underlying 100 with | some (.array _ _) | some (.struct _) => true | _ => false) = true := by kernel_rfl
theorem qk_laid : laidOutB Tryz.prog = true := by kernel_rfl
theorem qk_row : 100 < Tryz.prog.types.size := of_decide_eq_true (by kernel_rfl)
set_option maxRecDepth 100000 in
theorem qk_law : Keyed Tryz.prog 100 := Keyed.of_law (deep_law_laid qk_laid (m := 9) (by decide) qk_row (by kernel_rfl) qk_wide)
theorem qk_is : Tryz.prog.keyType 100 = true := by kernel_rfl
theorem qk_cells : Tryz.prog.cellsOf 100 = 2 := by kernel_rfl
theorem qk_ci : Tryz.prog.cellsOf 3 = 1 := by kernel_rfl
theorem qk_size : ∃ n, Tryz.prog.types.size = n + 1 := ⟨Tryz.prog.types.size - 1, by kernel_rfl⟩

def encQK (x : Int × Int) : Value := .agg #[.int .i64 x.1, .int .i64 x.2]
def okQK (x : Int × Int) : Prop := (Lit.int .i64 x.1).wf = true ∧ (Lit.int .i64 x.2).wf = true
def litQK (x : Int × Int) : Lit := .string (keyBytes [.int .i64 x.1, .int .i64 x.2])

set_option maxRecDepth 100000 in
theorem qk_reads (x : Int × Int) (h : okQK x) : keyOf Tryz.prog 100 (encQK x) = some (litQK x) := by
 obtain ⟨n, hn⟩ := qk_size
 unfold keyOf encQK litQK
 rw [Tryz.underlying100]
 simp only [qk_is, Bool.true_and]
 have hf : Value.formed Tryz.prog 100 (.agg #[.int .i64 x.1, .int .i64 x.2]) = true := by
  simp [Value.formed, Tryz.underlying100, qk_cells]
 rw [if_pos hf, hn]
 simp [Program.keyLits, Value.cells, Tryz.underlying100, qk_cells, qk_ci, Tryz.underlying3, h.1, h.2]

set_option maxRecDepth 100000 in
theorem qk_all (v : Value) (l : Lit) (h : keyOf Tryz.prog 100 v = some l) : ∃ x, okQK x ∧ v = encQK x := by
 obtain ⟨n, hn⟩ := qk_size
 unfold keyOf at h
 rw [Tryz.underlying100] at h
 simp only [qk_is, Bool.true_and] at h
 split at h
 · rename_i hf
   cases v <;> simp [Value.formed, Tryz.underlying100, qk_cells] at hf
   rename_i cs
   obtain ⟨a, b, rfl⟩ : ∃ a b, cs = #[a, b] := by
    obtain ⟨l⟩ := cs
    match l, hf with
    | [a, b], _ => exact ⟨a, b, rfl⟩
   rw [hn] at h
   simp [Program.keyLits, Value.cells, Tryz.underlying100, qk_cells, qk_ci, Tryz.underlying3] at h
   cases a <;> simp at h
   rename_i q z
   by_cases hq : q = .i64 ∧ (Lit.int .i64 z).wf = true
   · rw [if_pos hq] at h
     obtain ⟨rfl, hz⟩ := hq
     cases b <;> simp at h
     rename_i q2 z2
     by_cases hq2 : q2 = .i64 ∧ (Lit.int .i64 z2).wf = true
     · obtain ⟨rfl, hz2⟩ := hq2
       exact ⟨(z, z2), ⟨hz, hz2⟩, rfl⟩
     · rw [if_neg hq2] at h; simp at h
   · rw [if_neg hq] at h; simp at h
 · cases h

theorem qk_inj (x y : Int × Int) (h : encQK x = encQK y) : x = y := by
 obtain ⟨a, b⟩ := x
 obtain ⟨c, d⟩ := y
 simpa [encQK] using h

def KQ : KeyEnc Tryz.prog 100 (Int × Int) := ⟨encQK, okQK, litQK, qk_reads, qk_all, qk_inj, qk_law⟩
end Go.Proofs.YthcdppppppgckaaGreatDoor

namespace Go.Proofs.YthcdppppppgckaaGreatDoor
open Go.RowKit Go.Lib Go.Maps Go.Sort
set_option maxRecDepth 20000
set_option maxRecDepth 20000

structure Cfg where
 id : Nat
 costs : List Int
 ports : List Pt
 self4 : Str
 self6 : Str
 every : Int
 robust : Int
 member : Int
 last : Int
 age : Int
 room : Int
 flood : Bool
 fast : Bool
structure BrS where
 c : Cfg
 tree : Tre
 fdb : Fdb
 F : Tst
 O : Int → Option Int
 vl : List Int
 qs : Int × Int → Qr
 changed : Int
structure Adr where
 b : Nat
 tp : Nat
 tg : Nat
 tcap : Nat
 fp : Nat
 fm : Nat
 gp : Nat
 gb : Nat
 go : Nat
 rp : Nat
 rf : Nat
 rh : Nat
 ap : Nat
 wp : Nat
 tm : Nat
 wm : Nat
 qm : Nat
 qb : Int × Int → Nat
 vcosts : Value
 vports : Value
 vvl : Value
 kind : Nat → Nat
def brcells (A : Adr) (s : BrS) : Array Value :=
 #[.int .u64 s.c.id, A.vcosts, A.vports, .string (bstr s.c.self4), .string (bstr s.c.self6), .int .i64 s.c.every, .int .i64 s.c.robust, .int .i64 s.c.member, .int .i64 s.c.last, .int .i64 s.c.age, .int .i64 s.c.room, .bool s.c.flood, .bool s.c.fast,
   .pointer (some ⟨A.tp, 0, none⟩), .pointer (some ⟨A.fp, 0, none⟩), .pointer (some ⟨A.gp, 0, none⟩), .pointer (some ⟨A.rp, 0, none⟩), .pointer (some ⟨A.ap, 0, none⟩), A.vvl, .map (some A.qm), .int .i64 s.changed]
def qdom (vl : List Int) (k : Int × Int) : Bool := vl.contains k.1 && (k.2 == 4 || k.2 == 16)
def VecW (v : Vec) : Prop := u64ok v.root ∧ u64ok v.bridge
structure TreW (t : Tre) : Prop where
 bridge : u64ok t.bridge
 best : VecW t.best
 kept : ∀ p ∈ t.ports, VecW p.kept.v
structure BrOk (s : BrS) : Prop where
 tree : TreOk s.tree
 treeW : TreW s.tree
 fdb : FdOk s.fdb
 qs : ∀ k, qdom s.vl k = true → QrOk (s.qs k)
 id : s.c.id < 18446744073709551616
 check : vCheck s.c.ports = 0
 len : s.c.ports.length = s.tree.ports.length
 room : 1 ≤ s.c.room ∧ s.c.room ≤ 1000
 age : 1 ≤ s.c.age ∧ s.c.age ≤ 10000
 every : 4 ≤ s.c.every ∧ s.c.every ≤ 1000
 changed : -1 ≤ s.changed ∧ s.changed ≤ 1099511627776
 vl : s.vl.length ≤ 20 ∧ ∀ v ∈ s.vl, 1 ≤ v ∧ v ≤ 4094
structure BrAt (w : World) (A : Adr) (s : BrS) : Prop where
 box : CBox w A.b 85 (brcells A s)
 tree : TreeAt w A.tp A.tg A.tcap s.tree
 fdb : ∃ L, KeysV (encV s.fdb) L ∧ (L.length : Int) ≤ s.c.room ∧ FdAt w A.fp A.fm L.length s.c.room s.c.age s.fdb
 tab : ∃ K m, KeysS s.F K ∧ (K.length : Int) ≤ s.c.room ∧ m ≤ 100000 ∧ Tb w A.gp A.gb A.go K.length m s.c.room s.c.member s.c.last s.F s.O
 rt : RtQ w A.rp A.rf A.rh s.c.age
 asks : AskQ w A.ap A.wp A.tm A.wm s.c.robust s.c.last
 ports : Pts (fun j => A.kind j = 8) w A.vports s.c.ports
 vlans : Ints w A.vvl s.vl
 vlansR : ∀ j, A.vvl.ownBlock = some j → A.kind j = 8
 qmap : ∃ n, VMap KQ w A.qm n (fun k => if qdom s.vl k then some (.pointer (some ⟨A.qb k, 0, none⟩)) else none)
 qs : ∀ k, qdom s.vl k = true → QrAt w (A.qb k) (s.qs k)
 k1 : A.kind A.b = 1
 k2 : A.kind A.tp = 2 ∧ A.kind A.tg = 2
 k3 : A.kind A.fp = 3 ∧ A.kind A.fm = 3
 k4 : A.kind A.gp = 4 ∧ A.kind A.gb = 4 ∧ A.kind A.go = 4
 k5 : A.kind A.rp = 5 ∧ A.kind A.rf = 5 ∧ A.kind A.rh = 5
 k6 : A.kind A.ap = 6 ∧ A.kind A.wp = 6 ∧ A.kind A.tm = 6 ∧ A.kind A.wm = 6
 k7 : A.kind A.qm = 7 ∧ ∀ k, qdom s.vl k = true → A.kind (A.qb k) = 7
 qinj : ∀ k k', qdom s.vl k = true → qdom s.vl k' = true → A.qb k = A.qb k' → k = k'
 kb : ∀ j, A.kind j ≠ 0 → j < w.heap.size
 ok : BrOk s
def bfoot (A : Adr) (j : Nat) : Prop := A.kind j ≠ 0 ∧ A.kind j ≠ 8
section
variable {F : Nat → Prop} {w w' : World}
theorem TreeAt.turn {p g cap : Nat} {t : Tre} (h : TreeAt w p g cap t) (k : Turn F w w') (h1 : ¬ F p) (h2 : ¬ F g) : TreeAt w' p g cap t := h.same (k.block _ h.lt.1 h1) (k.block _ h.lt.2 h2)
theorem FdAt.turn {p m n : Nat} {room age : Int} {D : Fdb} (h : FdAt w p m n room age D) (k : Turn F w w') (h1 : ¬ F p) (h2 : ¬ F m) : FdAt w' p m n room age D := h.same (k.block _ h.lt.1 h1) (k.block _ h.lt.2 h2)
theorem Tb.turn {p b o n m : Nat} {room M L : Int} {G : Tst} {O : Int → Option Int} (h : Tb w p b o n m room M L G O) (k : Turn F w w') (h1 : ¬ F p) (h2 : ¬ F b) (h3 : ¬ F o) : Tb w' p b o n m room M L G O := by
 obtain ⟨V, hV, hH⟩ := h.states
 obtain ⟨U, hU, hO⟩ := h.overs
 refine ⟨k.cbox h.box h1, ⟨V, hV.same (k.block _ hV.lt h2), fun x => ?_⟩, ⟨U, hU.same (k.block _ hU.lt h3), hO⟩, h.ne⟩
 have := hH x
 cases hG : G x
 · rw [hG] at this; exact this
 · rw [hG] at this
   obtain ⟨v, e, hs, hw⟩ := this
   exact ⟨v, e, Tms.turn hs k, hw⟩
theorem RtQ.turn {p bf bh : Nat} {age : Int} (h : RtQ w p bf bh age) (k : Turn F w w') (h1 : ¬ F p) (h2 : ¬ F bf) (h3 : ¬ F bh) : RtQ w' p bf bh age := h.same (k.block _ h.lt.1 h1) (k.block _ h.lt.2.1 h2) (k.block _ h.lt.2.2 h3)
theorem AskQ.turn {p wp tm wm : Nat} {c g : Int} (h : AskQ w p wp tm wm c g) (k : Turn F w w') (h1 : ¬ F p) (h2 : ¬ F wp) (h3 : ¬ F tm) (h4 : ¬ F wm) : AskQ w' p wp tm wm c g := h.same (k.block _ h.box.lt h1) (k.block _ h.wheel.lt h2) (k.block _ h.timers.lt h3) (k.block _ h.waits.lt h4)
theorem QrAt.turn {p : Nat} {q : Qr} (h : QrAt w p q) (k : Turn F w w') (h1 : ¬ F p) : QrAt w' p q := k.cbox h h1
theorem MTurn.turn {p b o n m : Nat} {room M L : Int} {G : Tst} {O : Int → Option Int} (h : Tb w p b o n m room M L G O) (k : MTurn b o w w') : Turn (fun j => j = b ∨ j = o) w w' := by
 obtain ⟨V, hV, _⟩ := h.states
 obtain ⟨U, hU, _⟩ := h.overs
 obtain ⟨es, c, e⟩ := hV.map_is
 obtain ⟨es', c', e'⟩ := hU.map_is
 have hcl : ∀ (q : Addr) y, w.cell? q = some y → w'.cell? q = some y := fun q y hq => by
  refine (World.cell?_of_block (k.block q.block (fcell_lt hq) (fun x => ?_) (fun x => ?_))).trans hq
  · unfold World.cell? at hq; rw [x, e] at hq; cases hq
  · unfold World.cell? at hq; rw [x, e'] at hq; cases hq
 exact ⟨k.os, k.tape, k.output, k.size, fun j hj hn => k.block j hj (fun q => hn (.inl q)) (fun q => hn (.inr q)), fun q s hq => hcl q _ hq, fun _ _ _ _ _ hn => hcl _ _ hn⟩
end
section
variable {w w' : World} {A : Adr} {s : BrS}
theorem BrAt.turn {F : Nat → Prop} (h : BrAt w A s) (k : Turn F w w') (hF : ∀ j, F j → A.kind j = 0) : BrAt w' A s := by
 have hn : ∀ j c, A.kind j = c → c ≠ 0 → ¬ F j := fun j c hj hc hf => hc (hj ▸ hF j hf)
 obtain ⟨L, l1, l2, l3⟩ := h.fdb
 obtain ⟨K, m, t1, t2, t3, t4⟩ := h.tab
 obtain ⟨n, hq⟩ := h.qmap
 exact ⟨k.cbox h.box (hn _ _ h.k1 (by decide)), h.tree.turn k (hn _ _ h.k2.1 (by decide)) (hn _ _ h.k2.2 (by decide)), ⟨L, l1, l2, l3.turn k (hn _ _ h.k3.1 (by decide)) (hn _ _ h.k3.2 (by decide))⟩,
  ⟨K, m, t1, t2, t3, t4.turn k (hn _ _ h.k4.1 (by decide)) (hn _ _ h.k4.2.1 (by decide)) (hn _ _ h.k4.2.2 (by decide))⟩, h.rt.turn k (hn _ _ h.k5.1 (by decide)) (hn _ _ h.k5.2.1 (by decide)) (hn _ _ h.k5.2.2 (by decide)),
  h.asks.turn k (hn _ _ h.k6.1 (by decide)) (hn _ _ h.k6.2.1 (by decide)) (hn _ _ h.k6.2.2.1 (by decide)) (hn _ _ h.k6.2.2.2 (by decide)), h.ports.turn k (fun j hj => hn _ _ hj (by decide)), h.vlans.turn k (fun j hj => hn _ _ (h.vlansR j hj) (by decide)), h.vlansR,
  ⟨n, hq.same (k.block _ hq.lt (hn _ _ h.k7.1 (by decide)))⟩, fun x hx => (h.qs x hx).turn k (hn _ _ (h.k7.2 x hx) (by decide)), h.k1, h.k2, h.k3, h.k4, h.k5, h.k6, h.k7, h.qinj, fun j hj => Nat.lt_of_lt_of_le (h.kb j hj) k.size, h.ok⟩
theorem BrAt.new (h : BrAt w A s) {j : Nat} (hj : w.heap.size ≤ j) : ¬ bfoot A j := fun hf => by have := h.kb j hf.1; omega
theorem BrAt.below (h : BrAt w A s) (hb : Below w.heap.size w w') : BrAt w' A s := h.turn (F := fun _ => False) (Turn.of_below hb) (fun _ h => h.elim)
theorem BrAt.withTree (h : BrAt w A s) (t' : Tre) (ht : TreeAt w' A.tp A.tg A.tcap t') (k : Turn (tfoot A.tp A.tg) w w') (ok : BrOk { s with tree := t' }) : BrAt w' A { s with tree := t' } := by
 have hn : ∀ j c, A.kind j = c → c ≠ 2 → ¬ tfoot A.tp A.tg j := fun j c hj hc hf => by
  rcases hf with rfl | rfl
  · exact hc (hj ▸ h.k2.1)
  · exact hc (hj ▸ h.k2.2)
 obtain ⟨L, l1, l2, l3⟩ := h.fdb
 obtain ⟨K, m, t1, t2, t3, t4⟩ := h.tab
 obtain ⟨n, hq⟩ := h.qmap
 exact ⟨k.cbox h.box (hn _ _ h.k1 (by decide)), ht, ⟨L, l1, l2, l3.turn k (hn _ _ h.k3.1 (by decide)) (hn _ _ h.k3.2 (by decide))⟩,
  ⟨K, m, t1, t2, t3, t4.turn k (hn _ _ h.k4.1 (by decide)) (hn _ _ h.k4.2.1 (by decide)) (hn _ _ h.k4.2.2 (by decide))⟩, h.rt.turn k (hn _ _ h.k5.1 (by decide)) (hn _ _ h.k5.2.1 (by decide)) (hn _ _ h.k5.2.2 (by decide)),
  h.asks.turn k (hn _ _ h.k6.1 (by decide)) (hn _ _ h.k6.2.1 (by decide)) (hn _ _ h.k6.2.2.1 (by decide)) (hn _ _ h.k6.2.2.2 (by decide)), h.ports.turn k (fun j hj => hn _ _ hj (by decide)), h.vlans.turn k (fun j hj => hn _ _ (h.vlansR j hj) (by decide)), h.vlansR,
  ⟨n, hq.same (k.block _ hq.lt (hn _ _ h.k7.1 (by decide)))⟩, fun x hx => (h.qs x hx).turn k (hn _ _ (h.k7.2 x hx) (by decide)), h.k1, h.k2, h.k3, h.k4, h.k5, h.k6, h.k7, h.qinj, fun j hj => Nat.lt_of_lt_of_le (h.kb j hj) k.size, ok⟩
theorem BrAt.withFdb (h : BrAt w A s) (f' : Fdb) (hf : ∃ L, KeysV (encV f') L ∧ (L.length : Int) ≤ s.c.room ∧ FdAt w' A.fp A.fm L.length s.c.room s.c.age f') (k : Turn (fun j => j = A.fm) w w') (ok : FdOk f') : BrAt w' A { s with fdb := f' } := by
 have hn : ∀ j c, A.kind j = c → c ≠ 3 → ¬ j = A.fm := fun j c hj hc hf => by subst hf; exact hc (hj ▸ h.k3.2)
 obtain ⟨K, m, t1, t2, t3, t4⟩ := h.tab
 obtain ⟨n, hq⟩ := h.qmap
 exact ⟨k.cbox h.box (hn _ _ h.k1 (by decide)), h.tree.turn k (hn _ _ h.k2.1 (by decide)) (hn _ _ h.k2.2 (by decide)), hf,
  ⟨K, m, t1, t2, t3, t4.turn k (hn _ _ h.k4.1 (by decide)) (hn _ _ h.k4.2.1 (by decide)) (hn _ _ h.k4.2.2 (by decide))⟩, h.rt.turn k (hn _ _ h.k5.1 (by decide)) (hn _ _ h.k5.2.1 (by decide)) (hn _ _ h.k5.2.2 (by decide)),
  h.asks.turn k (hn _ _ h.k6.1 (by decide)) (hn _ _ h.k6.2.1 (by decide)) (hn _ _ h.k6.2.2.1 (by decide)) (hn _ _ h.k6.2.2.2 (by decide)), h.ports.turn k (fun j hj => hn _ _ hj (by decide)), h.vlans.turn k (fun j hj => hn _ _ (h.vlansR j hj) (by decide)), h.vlansR,
  ⟨n, hq.same (k.block _ hq.lt (hn _ _ h.k7.1 (by decide)))⟩, fun x hx => (h.qs x hx).turn k (hn _ _ (h.k7.2 x hx) (by decide)), h.k1, h.k2, h.k3, h.k4, h.k5, h.k6, h.k7, h.qinj, fun j hj => Nat.lt_of_lt_of_le (h.kb j hj) k.size, { h.ok with fdb := ok }⟩
theorem BrAt.withTab (h : BrAt w A s) (F' : Tst) (O' : Int → Option Int) (ht : ∃ K m, KeysS F' K ∧ (K.length : Int) ≤ s.c.room ∧ m ≤ 100000 ∧ Tb w' A.gp A.gb A.go K.length m s.c.room s.c.member s.c.last F' O') (k : Turn (fun j => j = A.gb ∨ j = A.go) w w') : BrAt w' A { s with F := F', O := O' } := by
 have hn : ∀ j c, A.kind j = c → c ≠ 4 → ¬ (j = A.gb ∨ j = A.go) := fun j c hj hc hf => by
  rcases hf with rfl | rfl
  · exact hc (hj ▸ h.k4.2.1)
  · exact hc (hj ▸ h.k4.2.2)
 obtain ⟨L, l1, l2, l3⟩ := h.fdb
 obtain ⟨n, hq⟩ := h.qmap
 exact ⟨k.cbox h.box (hn _ _ h.k1 (by decide)), h.tree.turn k (hn _ _ h.k2.1 (by decide)) (hn _ _ h.k2.2 (by decide)), ⟨L, l1, l2, l3.turn k (hn _ _ h.k3.1 (by decide)) (hn _ _ h.k3.2 (by decide))⟩, ht,
  h.rt.turn k (hn _ _ h.k5.1 (by decide)) (hn _ _ h.k5.2.1 (by decide)) (hn _ _ h.k5.2.2 (by decide)),
  h.asks.turn k (hn _ _ h.k6.1 (by decide)) (hn _ _ h.k6.2.1 (by decide)) (hn _ _ h.k6.2.2.1 (by decide)) (hn _ _ h.k6.2.2.2 (by decide)), h.ports.turn k (fun j hj => hn _ _ hj (by decide)), h.vlans.turn k (fun j hj => hn _ _ (h.vlansR j hj) (by decide)), h.vlansR,
  ⟨n, hq.same (k.block _ hq.lt (hn _ _ h.k7.1 (by decide)))⟩, fun x hx => (h.qs x hx).turn k (hn _ _ (h.k7.2 x hx) (by decide)), h.k1, h.k2, h.k3, h.k4, h.k5, h.k6, h.k7, h.qinj, fun j hj => Nat.lt_of_lt_of_le (h.kb j hj) k.size, { h.ok with }⟩
theorem BrAt.withChanged (h : BrAt w A s) (n : Int) (hn' : -1 ≤ n ∧ n ≤ 1099511627776) : BrAt (w.setCell ⟨A.b, 20, none⟩ (.int .i64 n)) A { s with changed := n } ∧ Turn (fun j => j = A.b) w (w.setCell ⟨A.b, 20, none⟩ (.int .i64 n)) := by
 have k : Turn (fun j => j = A.b) w (w.setCell ⟨A.b, 20, none⟩ (.int .i64 n)) := Turn.set (F := fun j => j = A.b) (show w.heap[A.b]? = some _ from h.box) rfl (fun s' => by simp [brcells]) (fun o s' n' ho hs => by
  obtain rfl : o = 19 := by omega
  simp [brcells] at hs) _
 have hn : ∀ j c, A.kind j = c → c ≠ 1 → ¬ j = A.b := fun j c hj hc hf => by subst hf; exact hc (hj ▸ h.k1)
 obtain ⟨L, l1, l2, l3⟩ := h.fdb
 obtain ⟨K, m, t1, t2, t3, t4⟩ := h.tab
 obtain ⟨n', hq⟩ := h.qmap
 refine ⟨⟨?_, h.tree.turn k (hn _ _ h.k2.1 (by decide)) (hn _ _ h.k2.2 (by decide)), ⟨L, l1, l2, l3.turn k (hn _ _ h.k3.1 (by decide)) (hn _ _ h.k3.2 (by decide))⟩,
  ⟨K, m, t1, t2, t3, t4.turn k (hn _ _ h.k4.1 (by decide)) (hn _ _ h.k4.2.1 (by decide)) (hn _ _ h.k4.2.2 (by decide))⟩, h.rt.turn k (hn _ _ h.k5.1 (by decide)) (hn _ _ h.k5.2.1 (by decide)) (hn _ _ h.k5.2.2 (by decide)),
  h.asks.turn k (hn _ _ h.k6.1 (by decide)) (hn _ _ h.k6.2.1 (by decide)) (hn _ _ h.k6.2.2.1 (by decide)) (hn _ _ h.k6.2.2.2 (by decide)), h.ports.turn k (fun j hj => hn _ _ hj (by decide)), h.vlans.turn k (fun j hj => hn _ _ (h.vlansR j hj) (by decide)), h.vlansR,
  ⟨n', hq.same (k.block _ hq.lt (hn _ _ h.k7.1 (by decide)))⟩, fun x hx => (h.qs x hx).turn k (hn _ _ (h.k7.2 x hx) (by decide)), h.k1, h.k2, h.k3, h.k4, h.k5, h.k6, h.k7, h.qinj, fun j hj => Nat.lt_of_lt_of_le (h.kb j hj) k.size, { h.ok with changed := hn' }⟩, k⟩
 exact h.box.set 20 (.int .i64 n)
theorem BrAt.withQr (h : BrAt w A s) (x : Int × Int) (q' : Qr) (hx : qdom s.vl x = true) (hq' : QrAt w' (A.qb x) q') (k : Turn (fun j => j = A.qb x) w w') (ok : QrOk q') : BrAt w' A { s with qs := fun y => if y = x then q' else s.qs y } := by
 have hn : ∀ j c, A.kind j = c → c ≠ 7 → ¬ j = A.qb x := fun j c hj hc hf => by subst hf; exact hc (hj ▸ h.k7.2 x hx)
 obtain ⟨L, l1, l2, l3⟩ := h.fdb
 obtain ⟨K, m, t1, t2, t3, t4⟩ := h.tab
 obtain ⟨n, hq⟩ := h.qmap
 have hne : A.qm ≠ A.qb x := fun e => by
  obtain ⟨es, c, hm⟩ := hq.map_is
  have hb : w.heap[A.qb x]? = some _ := h.qs x hx
  rw [← e, hm] at hb
  cases hb
 refine ⟨k.cbox h.box (hn _ _ h.k1 (by decide)), h.tree.turn k (hn _ _ h.k2.1 (by decide)) (hn _ _ h.k2.2 (by decide)), ⟨L, l1, l2, l3.turn k (hn _ _ h.k3.1 (by decide)) (hn _ _ h.k3.2 (by decide))⟩,
  ⟨K, m, t1, t2, t3, t4.turn k (hn _ _ h.k4.1 (by decide)) (hn _ _ h.k4.2.1 (by decide)) (hn _ _ h.k4.2.2 (by decide))⟩, h.rt.turn k (hn _ _ h.k5.1 (by decide)) (hn _ _ h.k5.2.1 (by decide)) (hn _ _ h.k5.2.2 (by decide)),
  h.asks.turn k (hn _ _ h.k6.1 (by decide)) (hn _ _ h.k6.2.1 (by decide)) (hn _ _ h.k6.2.2.1 (by decide)) (hn _ _ h.k6.2.2.2 (by decide)), h.ports.turn k (fun j hj => hn _ _ hj (by decide)), h.vlans.turn k (fun j hj => hn _ _ (h.vlansR j hj) (by decide)), h.vlansR,
  ⟨n, hq.same (k.block _ hq.lt hne)⟩, fun y hy => ?_, h.k1, h.k2, h.k3, h.k4, h.k5, h.k6, h.k7, h.qinj, fun j hj => Nat.lt_of_lt_of_le (h.kb j hj) k.size, { h.ok with qs := fun y hy => ?_ }⟩
 · dsimp only
   by_cases e : y = x
   · subst e; rw [if_pos rfl]; exact hq'
   · rw [if_neg e]
     exact (h.qs y hy).turn k fun q => e (h.qinj y x hy hx q)
 · dsimp only
   by_cases e : y = x
   · subst e; rw [if_pos rfl]; exact ok
   · rw [if_neg e]; exact h.ok.qs y hy
end

theorem vown_w {b : Int} (h : u64ok b) : VecW (vown b) := ⟨h, h⟩
theorem vzero_w : VecW vzero := ⟨⟨by decide, by decide⟩, ⟨by decide, by decide⟩⟩
theorem thru_w {v : Vec} {c : Int} (h : VecW v) : VecW (thru v c).1 := by
 unfold thru
 split
 · exact ⟨h.1, h.2⟩
 · exact vzero_w
theorem bstep_w {b : Int} {s : Int × Vec} {i : Nat} {h : Hrd} (hs : VecW s.2) (hh : VecW h.v) : VecW (bstep b s i h).2 := by
 unfold bstep
 split
 · exact thru_w hh
 · exact hs
theorem pbestGo_w {b : Int} : ∀ (l : List Hrd) (i : Nat) (s : Int × Vec), VecW s.2 → (∀ h ∈ l, VecW h.v) → VecW (pbestGo b i s l).2
 | [], _, _, hs, _ => hs
 | x :: l, i, s, hs, hl => pbestGo_w l (i + 1) _ (bstep_w hs (hl x (by simp))) fun h hh => hl h (by simp [hh])
theorem settle_w {t : Tre} (h : TreW t) : TreW t.settle := by
 have hd : ∀ p ∈ t.drop.ports, VecW p.kept.v := fun p hp => by
  obtain ⟨q, hq, rfl⟩ := List.mem_map.1 (show p ∈ t.ports.map (drop1 t.now) from hp)
  exact h.kept q hq
 refine ⟨h.bridge, pbestGo_w _ _ _ (vown_w h.bridge) fun x hx => ?_, fun p hp => ?_⟩
 · obtain ⟨p, hp, rfl⟩ := List.mem_map.1 hx
   exact hd p hp
 · obtain ⟨q, hq, rfl⟩ := List.mem_map.1 (show p ∈ (t.drop.ports.zip (proles t.bridge (t.drop.ports.map hrd))).map (fun q => set1 t.now q.2 q.1) from hp)
   have := hd q.1 (List.of_mem_zip hq).1
   unfold set1
   exact this
theorem mem_modify {L : List Prt} {k : Nat} {f : Prt → Prt} {p : Prt} (h : p ∈ L.modify k f) : p ∈ L ∨ ∃ q ∈ L, p = f q := by
 obtain ⟨i, hi, rfl⟩ := List.mem_iff_getElem.1 h
 rw [List.length_modify] at hi
 rw [List.getElem_modify]
 split
 · exact .inr ⟨_, List.getElem_mem hi, rfl⟩
 · exact .inl (List.getElem_mem hi)
theorem link_w {t : Tre} {i now : Int} {up : Bool} (h : TreW t) : TreW (t.link i up now) := by
 unfold Tre.link
 split
 · refine settle_w ⟨h.bridge, h.best, fun p hp => ?_⟩
   rcases mem_modify hp with hp | ⟨q, hq, rfl⟩
   · exact h.kept p hp
   · exact h.kept q hq
 · exact h
theorem tick_w {t : Tre} {now : Int} (h : TreW t) : TreW (t.tick now).1 := by
 unfold Tre.tick
 split
 · exact settle_w ⟨h.bridge, h.best, h.kept⟩
 · exact h
theorem newTree_w {b : Int} {L : List Int} (h : u64ok b) : TreW (newTree b L) := by
 refine ⟨h, vown_w h, fun p hp => ?_⟩
 obtain ⟨c, _, rfl⟩ := List.mem_map.1 (show p ∈ L.map _ from hp)
 exact vzero_w
theorem settle_len (t : Tre) : t.settle.ports.length = t.ports.length := by
 show (settle2 t.now t.drop.ports (proles t.bridge (t.drop.ports.map hrd))).length = _
 rw [settle2_len, proles_len]
 simp [Tre.drop]
theorem link_len (t : Tre) (i now : Int) (up : Bool) : (t.link i up now).ports.length = t.ports.length := by
 unfold Tre.link
 split
 · rw [settle_len]; simp
 · rfl
theorem tick_len (t : Tre) (now : Int) : (t.tick now).1.ports.length = t.ports.length := by
 unfold Tre.tick
 split
 · exact settle_len _
 · rfl

theorem bwithin_any (n a b : Int) (w : World) :
 Calls Tryz.prog 31 #[.int .i64 n, .int .i64 a, .int .i64 b] w fun e w' => e = .returned (.bool (inBetween n a b)) ∧ w = w' := by
 unfold inBetween
 cases q1 : decide (a ≤ n)
 · go_enter Tryz.func31, Tryz.ntmps31
   go_wp2
   go_ret
   exact ⟨rfl, rfl⟩
 · cases q2 : decide (n ≤ b)
   · go_enter Tryz.func31, Tryz.ntmps31
     go_wp2
     go_ret
     exact ⟨rfl, rfl⟩
   · go_enter Tryz.func31, Tryz.ntmps31
     go_wp2
     go_ret
     exact ⟨rfl, rfl⟩
theorem goes_any (b : Nat) (now : Int) (w : World) :
 Calls Tryz.prog 48 #[.pointer (some ⟨b, 0, none⟩), .int .i64 now] w fun e w' => e = .returned (.bool (inBetween now 1 1099511627776)) ∧ w = w' := by
 have HC := Lib.hid (bwithin_any now 1 1099511627776 w)
 go_enter Tryz.func48, Tryz.ntmps48
 go_wp2_with ((with_reducible refine HC.out.mono ?_); rintro e w2 ⟨rfl, hw2⟩; subst w2)
 go_ret
 exact ⟨rfl, rfl⟩
def opensTo (t : Tre) (k : Nat) : List Int := ((List.range k).filter fun i : Nat => t.forwards (i : Int)).map Int.ofNat
def BrS.opens (s : BrS) : List Int := opensTo s.tree s.c.ports.length
theorem opensTo_succ (t : Tre) (k : Nat) : opensTo t (k + 1) = opensTo t k ++ (if t.forwards (k : Int) then [(k : Int)] else []) := by
 unfold opensTo
 rw [List.range_succ, List.filter_append, List.map_append, List.filter_cons]
 cases t.forwards (k : Int) <;> rfl
theorem opensTo_len (t : Tre) (k : Nat) : (opensTo t k).length ≤ k := by
 unfold opensTo
 rw [List.length_map]
 exact Nat.le_trans (List.length_filter_le _ _) (by simp)
theorem opensTo_wf (t : Tre) (k : Nat) (hk : k ≤ 1000000) : ∀ x ∈ opensTo t k, (Lit.int .i64 x).wf = true := fun x hx => by
 unfold opensTo at hx
 obtain ⟨i, hi, rfl⟩ := List.mem_map.1 hx
 have := List.mem_range.1 (List.mem_filter.1 hi).1
 exact WalkArith.wf_i64 (n := (i : Int)) (by omega)
set_option maxHeartbeats 2000000 in
theorem bopen_any (A : Adr) (s : BrS) (w : World) (h : BrAt w A s) :
 Calls Tryz.prog 16 #[.pointer (some ⟨A.b, 0, none⟩)] w (RetIs w s.opens) := by
 obtain ⟨i0, hi, hz0, hz1, hz2⟩ := info_parts infoIntV
 obtain ⟨b, off, hm, hlen, _, _⟩ := h.ports.facts
 have c2 := (h.box.at_ 2 A.vports rfl).1
 have c13 := (h.box.at_ 13 (.pointer (some ⟨A.tp, 0, none⟩)) rfl).1
 have hlt := h.box.lt
 have ht := h.tree
 obtain ⟨t, hT⟩ : ∃ t, s.tree = t := ⟨_, rfl⟩
 obtain ⟨n, hN⟩ : ∃ n, s.c.ports.length = n := ⟨_, rfl⟩
 obtain ⟨ab, hAb⟩ : ∃ n, A.b = n := ⟨_, rfl⟩
 obtain ⟨vp, hVp⟩ : ∃ v, A.vports = v := ⟨_, rfl⟩
 obtain ⟨tp, hTp⟩ : ∃ v, A.tp = v := ⟨_, rfl⟩
 obtain ⟨tg, hTg⟩ : ∃ v, A.tg = v := ⟨_, rfl⟩
 obtain ⟨tcap, hTc⟩ : ∃ v, A.tcap = v := ⟨_, rfl⟩
 rw [show s.opens = opensTo t n from by unfold BrS.opens; rw [hT, hN]]
 rw [hT, hTp, hTg, hTc] at ht
 rw [hAb] at c2 c13 hlt ⊢
 rw [hVp] at c2 hlen
 rw [hTp] at c13
 rw [hN] at hm hlen
 have HM := Lib.hid hm
 have HT := Lib.hid ht
 have HLT := Lib.hid hlt
 clear h hT hN hAb hVp hTp hTg hTc ht hlt
 go_enter Tryz.func16, Tryz.ntmps16
 go_wp2_with fail
 go_loopw [3, 4, 13] (fun r _ i wr => ∃ k : Nat, k ≤ n ∧ i = .int .i64 (k : Nat) ∧ wr.ownsRow w.heap.size 3 1 r (opensTo t k).length ((opensTo t k).map (Value.int .i64)) ∧ Below w.heap.size w wr) (fun _ _ i _ => n - (intOf i).toNat)
 case atStart => exact ⟨0, Nat.zero_le _, rfl, by rw [show opensTo t 0 = [] from rfl]; exact World.ownsRow_nil _ _ _ _, Below.refl _ _⟩
 case round =>
  obtain ⟨k, hk, rfl, hrow, hb⟩ := hrel
  by_cases hlt : k < n
  · have HS := Lib.hid (opensTo_succ t k)
    have HL := Lib.hid (opensTo_len t k)
    have s13 := (hb.cell (p := ⟨ab, 13, none⟩) HLT.out).trans c13
    have HC := Lib.hid (tforwards_any tp tg tcap t k wr (HT.out.below hb))
    have HB := Lib.hid hb
    have HRW := Lib.hid hrow
    obtain ⟨f, hf⟩ : ∃ f, t.forwards (k : Int) = f := ⟨_, rfl⟩
    rw [hf] at HC HS
    clear hrow hb hf hlen c2 c13
    cases f
    · have HE := Lib.hid (show opensTo t (k + 1) = opensTo t k from by rw [HS.out]; simp)
      go_wp2_with ((with_reducible refine HC.out.mono ?_); rintro e w2 ⟨rfl, hw2⟩; subst w2)
      go_roundw
      case rel => exact ⟨k + 1, by omega, by go_num, by rw [HE.out]; exact HRW.out, HB.out⟩
      case measure => simp [intOf]; omega
    · have HE := Lib.hid (show opensTo t (k + 1) = opensTo t k ++ [(k : Int)] from by rw [HS.out]; simp)
      obtain ⟨M, hM⟩ : ∃ M, opensTo t k = M := ⟨_, rfl⟩
      rw [hM] at HE HL HRW
      clear hM
      have hc3 : M.length + 1 ≤ maxLen := by have := HL.out; have := HM.out; unfold maxLen; omega
      have hc4 : (M.length + 1) * 8 ≤ 140737488355328 := by have := HL.out; have := HM.out; omega
      have HC3 := Lib.hid hc3; have HC4 := Lib.hid hc4
      clear hc3 hc4
      go_wp2_with (first | ((with_reducible refine HC.out.mono ?_); rintro e w2 ⟨rfl, hw2⟩; subst w2; have HSZ := Lib.hid HB.out.size) | (at_builtin; refine wpList_append_own _ rfl _ _ 23 rfl w.heap.size 3 i0 (.int .i64 0) 1 8 Tryz.underlying23 hi hz0 hz1 hz2 rfl (by decide) _ _ _ rfl (HRW.out.alloc _) ⟨wr.heap.size, 0, none⟩ 1 1 [.int .i64 (k : Nat)] rfl rfl (cell_one_new _ _ _) (ints_oneCell .i64 [(k : Int)]) HC3.out HC4.out (by have := HSZ.out; simp; omega) ?_; intro v' w3 hown3 hg3 _; have HO3 := Lib.hid hown3; have HB3 := Lib.hid (below_own (HB.out.alloc HSZ.out (.cells #[.int .i64 (k : Nat)] 3)) (HRW.out.alloc _) (Nat.le_refl _) (by have := HSZ.out; simp; omega) hg3); clear hown3 hg3))
      go_roundw
      case rel => exact ⟨k + 1, by omega, by go_num, by rw [HE.out, List.length_append, List.map_append]; exact HO3.out, HB3.out⟩
      case measure => simp [intOf]; omega
  · obtain rfl : k = n := by omega
    have HB := Lib.hid hb
    have HV := Lib.hid (show (opensTo t k).length ≤ 17592186044416 ∧ ∀ y ∈ opensTo t k, (Lit.int .i64 y).wf = true from
     ⟨by have := opensTo_len t k; have := HM.out; omega, opensTo_wf t k HM.out⟩)
    have HRW := Lib.hid hrow
    clear hrow hb hlen
    go_wp2_with fail
    go_ret
    exact ⟨_, rfl, Ints.own HRW.out HV.out.1 HV.out.2, fun j hj => (HRW.out.lt j hj).1, HB.out⟩
end Go.Proofs.YthcdppppppgckaaGreatDoor
