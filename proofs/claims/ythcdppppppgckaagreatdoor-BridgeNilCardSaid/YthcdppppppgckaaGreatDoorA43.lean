/- Texts joined into one file: BQry2, BRt, BQKey. -/
import Derived.Test.YthcdppppppgckaaGreatDoorA42
import Derived.Test.YthcdppppppgckaaGreatDoorA36
import Derived.Test.YthcdppppppgckaaGreatDoorA05
import Derived.Deep.DeepCutAuto
import Derived.Maps.OwnSet
import Derived.Maps.RangeWalk
import Derived.WideKeyPair
import Derived.DeepKeys4
import Derived.Test.YthcdppppppgckaaGreatDoorA25
import Derived.Test.YthcdppppppgckaaGreatDoorA33

namespace Go.Proofs.YthcdppppppgckaaGreatDoor
open Go.RowKit Go.Lib Go.Maps Go.Sort
set_option maxRecDepth 20000
set_option maxRecDepth 20000
attribute [local go_sem] bstr_size

def RetQNew (w : World) (q : Qr) (e : Ending) (w' : World) : Prop := ∃ p, e = .returned (.tuple #[.pointer (some ⟨p, 0, none⟩), .int .i64 0]) ∧ QrAt w' p q ∧ w.heap.size ≤ p ∧ Below w.heap.size w w'
set_option maxHeartbeats 2000000 in
theorem qnew_any (self : Str) (every robust now : Int) (w : World) (hs : self.length = 0 ∨ self.length = 4 ∨ self.length = 16) (he : 4 ≤ every ∧ every ≤ 100000) (hr : 1 ≤ robust ∧ robust ≤ 7) (hn : 0 ≤ now ∧ now ≤ 1099511627776) :
 Calls Tryz.prog 38 #[.string (bstr self), .int .i64 every, .int .i64 robust, .int .i64 now] w (RetQNew w ⟨self, every, robust, 0, now, 0⟩) := by
 have hb1 : Below w.heap.size w (w.alloc (.cells #[.int .i64 0, .int .i64 4, .int .i64 16] 3)) := (Below.refl _ _).alloc (Nat.le_refl _) _
 have hi : Ints (w.alloc (.cells #[.int .i64 0, .int .i64 4, .int .i64 16] 3)) (.slice (some ⟨w.heap.size, 0, none⟩) 3 3) [0, 4, 16] := by
  refine ⟨_, 3, w.heap.size, 0, rfl, .inr rfl, by decide, by decide, fun k hk => ⟨by simp, ?_⟩⟩
  have hx : CBox (w.alloc (.cells #[.int .i64 0, .int .i64 4, .int .i64 16] 3)) w.heap.size 3 #[.int .i64 0, .int .i64 4, .int .i64 16] := CBox.new _ rfl
  match k, hk with
  | 0, _ => exact (hx.at_ 0 _ rfl).1
  | 1, _ => exact (hx.at_ 1 _ rfl).1
  | 2, _ => exact (hx.at_ 2 _ rfl).1
 have hc := contains_any _ [0, 4, 16] (self.length : Int) _ hi
 rw [show List.contains [0, 4, 16] (self.length : Int) = true from by rcases hs with h | h | h <;> rw [h] <;> rfl] at hc
 have HC := Lib.hid hc
 have H1 := Lib.hid (fun W => qwithin_any every 4 100000 W)
 have H2 := Lib.hid (fun W => qwithin_any robust 1 7 W)
 have H3 := Lib.hid (fun W => qwithin_any now 0 1099511627776 W)
 rw [show inBetween every 4 100000 = true from by unfold inBetween; rw [decide_eq_true he.1, decide_eq_true he.2]; rfl] at H1
 rw [show inBetween robust 1 7 = true from by unfold inBetween; rw [decide_eq_true hr.1, decide_eq_true hr.2]; rfl] at H2
 rw [show inBetween now 0 1099511627776 = true from by unfold inBetween; rw [decide_eq_true hn.1, decide_eq_true hn.2]; rfl] at H3
 have HB := Lib.hid hb1
 clear hb1 hi hc hs he hr hn
 go_enter Tryz.func38, Tryz.ntmps38
 go_wp2_with (first | ((with_reducible refine HC.out.mono ?_); rintro e w2 ⟨rfl, hw2⟩; subst w2) | ((with_reducible refine (H1.out _).mono ?_); rintro e w2 ⟨rfl, hw2⟩; subst w2) | ((with_reducible refine (H2.out _).mono ?_); rintro e w2 ⟨rfl, hw2⟩; subst w2) | ((with_reducible refine (H3.out _).mono ?_); rintro e w2 ⟨rfl, hw2⟩; subst w2))
 go_ret2
 exact ⟨_, rfl, CBox.new _ (by simp), by simp, HB.out.alloc HB.out.size _⟩

structure AskQ (w : World) (p wp tm wm : Nat) (count gap : Int) : Prop where
 box : CBox w p 165 #[.int .i64 count, .int .i64 gap, .int .i64 0, .pointer (some ⟨wp, 0, none⟩), .map (some wm)]
 wheel : CBox w wp 256 #[.int .i64 200, .int .i64 0, .map (some tm)]
 timers : VMap KZ w tm 0 (fun _ => none)
 waits : VMap KZ w wm 0 (fun _ => none)
theorem AskQ.same {w w' : World} {p wp tm wm : Nat} {count gap : Int} (h : AskQ w p wp tm wm count gap) (h1 : w'.heap[p]? = w.heap[p]?) (h2 : w'.heap[wp]? = w.heap[wp]?) (h3 : w'.heap[tm]? = w.heap[tm]?) (h4 : w'.heap[wm]? = w.heap[wm]?) : AskQ w' p wp tm wm count gap :=
 ⟨h1.trans h.box, h2.trans h.wheel, h.timers.same h3, h.waits.same h4⟩
def RetWNew (w : World) (room : Int) (e : Ending) (w' : World) : Prop := ∃ p m, e = .returned (.tuple #[.pointer (some ⟨p, 0, none⟩), .int .i64 0]) ∧ CBox w' p 256 #[.int .i64 room, .int .i64 0, .map (some m)] ∧ VMap KZ w' m 0 (fun _ => none) ∧ w.heap.size ≤ p ∧ w.heap.size ≤ m ∧ Below w.heap.size w w'
theorem wnew_any (w : World) : Calls Tryz.prog 86 #[.int .i64 200] w (RetWNew w 200) := by
 have hmm := @run_makeMap Tryz.prog
 go_enter Tryz.func86, Tryz.ntmps86
 go_wp2_with fail
 go_ret2
 exact ⟨_, _, rfl, CBox.new _ (by simp), (VMap.made KZ w).below (B := (w.alloc (.map #[] 0)).heap.size) ((Below.refl _ _).alloc (Nat.le_refl _) _) (by simp), by simp, Nat.le_refl _, ((Below.refl _ _).alloc (Nat.le_refl _) _).alloc (by simp) _⟩
def RetANew (w : World) (count gap : Int) (e : Ending) (w' : World) : Prop := ∃ p wp tm wm, e = .returned (.tuple #[.pointer (some ⟨p, 0, none⟩), .int .i64 0]) ∧ AskQ w' p wp tm wm count gap ∧ (w.heap.size ≤ p ∧ w.heap.size ≤ wp ∧ w.heap.size ≤ tm ∧ w.heap.size ≤ wm) ∧ tm ≠ wm ∧ Below w.heap.size w w'
theorem anew_any (count gap : Int) (w : World) (hc : 1 ≤ count ∧ count ≤ 7) (hg : 1 ≤ gap ∧ gap ≤ 1000) :
 Calls Tryz.prog 37 #[.int .i64 count, .int .i64 gap] w (RetANew w count gap) := by
 have H1 := Lib.hid (fun W => qwithin_any count 1 7 W)
 have H2 := Lib.hid (fun W => qwithin_any gap 1 1000 W)
 rw [show inBetween count 1 7 = true from by unfold inBetween; rw [decide_eq_true hc.1, decide_eq_true hc.2]; rfl] at H1
 rw [show inBetween gap 1 1000 = true from by unfold inBetween; rw [decide_eq_true hg.1, decide_eq_true hg.2]; rfl] at H2
 have HW := Lib.hid (wnew_any w)
 have hmm := @run_makeMap Tryz.prog
 clear hc hg
 go_enter Tryz.func37, Tryz.ntmps37
 go_wp2_with (first | ((with_reducible refine (H1.out _).mono ?_); rintro e w2 ⟨rfl, hw2⟩; subst w2) | ((with_reducible refine (H2.out _).mono ?_); rintro e w2 ⟨rfl, hw2⟩; subst w2) | ((with_reducible refine HW.out.mono ?_); rintro e w2 ⟨wp, tm, rfl, hx, hm, hp1, hp2, hb⟩; have HX := Lib.hid hx; have HM := Lib.hid hm; have HP := Lib.hid (And.intro hp1 hp2); have HB := Lib.hid hb; clear hx hm hp1 hp2 hb))
 go_ret2
 have hb2 : Below w2.heap.size w2 ((w2.alloc (.map #[] 0)).alloc (.cells #[.int .i64 count, .int .i64 gap, .int .i64 0, .pointer (some ⟨wp, 0, none⟩), .map (some w2.heap.size)] 165)) := ((Below.refl _ _).alloc (Nat.le_refl _) _).alloc (by simp) _
 have hsz := HB.out.size
 exact ⟨_, wp, tm, w2.heap.size, rfl, ⟨CBox.new _ (by simp), HX.out.below hb2 HX.out.lt, HM.out.below hb2 HM.out.lt, (VMap.made KZ w2).below (B := (w2.alloc (.map #[] 0)).heap.size) ((Below.refl _ _).alloc (Nat.le_refl _) _) (by simp)⟩, ⟨Nat.le_trans hsz (Nat.le_succ _), HP.out.1, HP.out.2, hsz⟩, Nat.ne_of_lt HM.out.lt, HB.out.trans (hb2.mono hsz)⟩

theorem wlen_none (p tm : Nat) (v0 v1 : Value) (w : World) (hx : CBox w p 256 #[v0, v1, .map (some tm)]) (hm : VMap KZ w tm 0 (fun _ => none)) :
 Calls Tryz.prog 202 #[.pointer (some ⟨p, 0, none⟩)] w fun e w' => e = .returned (.int .i64 0) ∧ w = w' := by
 obtain ⟨L, _, hl, hlen⟩ := hm.count Tryz.underlying254
 rw [show L.length = 0 from by omega] at hlen
 obtain ⟨c2, _⟩ := hx.at_ 2 _ rfl
 replace hlen : ∀ ty, (Builtin.len_ #[254] ty #[.map (some tm)]).run Tryz.prog w = .ok (.int .i64 0) w := hlen
 clear hx hm hl
 go_enter Tryz.func202, Tryz.ntmps202
 go_wp2
 go_ret
 exact ⟨rfl, rfl⟩
theorem wnext_none (p tm : Nat) (v0 v1 : Value) (w : World) (hx : CBox w p 256 #[v0, v1, .map (some tm)]) (hm : VMap KZ w tm 0 (fun _ => none)) :
 Calls Tryz.prog 142 #[.pointer (some ⟨p, 0, none⟩)] w fun e w' => e = .returned (.tuple #[.int .i64 0, .bool false]) ∧ w = w' := by
 have HL := Lib.hid (wlen_none p tm v0 v1 w hx hm)
 clear hx hm
 go_enter Tryz.func142, Tryz.ntmps142
 go_wp2_with ((with_reducible refine HL.out.mono ?_); rintro e w2 ⟨rfl, hw2⟩; subst w2)
 go_ret2
 exact ⟨rfl, rfl⟩
theorem due_none (p wp tm wm : Nat) (count gap now : Int) (w : World) (h : AskQ w p wp tm wm count gap) :
 Calls Tryz.prog 77 #[.pointer (some ⟨p, 0, none⟩), .int .i64 now] w fun e w' => e = .returned (.slice none 0 0) ∧ w = w' := by
 have HN := Lib.hid (wnext_none wp tm _ _ w h.wheel h.timers)
 obtain ⟨c3, _⟩ := h.box.at_ 3 _ rfl
 clear h
 go_enter Tryz.func77, Tryz.ntmps77
 go_wp2_with fail
 refine wp_loop_rounds 1 ?_
 rw [rounds_succ]
 go_wp2_with ((with_reducible refine HN.out.mono ?_); rintro e w2 ⟨rfl, hw2⟩; subst w2)
 go_ret
 exact ⟨rfl, rfl⟩
end Go.Proofs.YthcdppppppgckaaGreatDoor

namespace Go.Proofs.YthcdppppppgckaaGreatDoor
open Go.RowKit Go.Lib Go.Maps Go.WideMaps
set_option maxRecDepth 20000
set_option maxRecDepth 20000

theorem plArr : ArrKey Tryz.prog 183 3 2 := ⟨Tryz.underlying183, by kernel_rfl, by kernel_rfl, by kernel_rfl⟩
theorem plTypes : ∃ m, Tryz.prog.types.size = m + 1 := ⟨Tryz.prog.types.size - 1, by kernel_rfl⟩
theorem plLaw : Keyed Tryz.prog 183 := Keyed.of_law plArr.law
def plLit (x : Int × Int) : Lit := .string (keyBytes [.int .i64 x.1, .int .i64 x.2])
def plEnc (x : Int × Int) : Value := .agg #[.int .i64 x.1, .int .i64 x.2]
def plOk (x : Int × Int) : Prop := (Lit.int .i64 x.1).wf = true ∧ (Lit.int .i64 x.2).wf = true
theorem pl_reads (x : Int × Int) (h : plOk x) : keyOf Tryz.prog 183 (plEnc x) = some (plLit x) := keyOf_pair plArr Tryz.underlying3 plTypes h.1 h.2
theorem pl_lits {d : Nat} {cs : List Value} {l : List Lit} (h : Tryz.prog.keyLits d 3 cs = some l) : ∃ n, cs = [.int .i64 n] ∧ l = [.int .i64 n] ∧ (Lit.int .i64 n).wf = true := by
 cases d with
 | zero => simp [Program.keyLits] at h
 | succ d =>
   unfold Program.keyLits at h
   rw [Tryz.underlying3] at h
   split at h
   all_goals first
    | (cases h; done)
    | (simp_all; done)
    | (simp_all; exact ⟨_, ⟨h.1.1, rfl⟩, h.2.symm, h.1.1 ▸ h.1.2⟩)
theorem pl_all (key : Value) (kl : Lit) (h : keyOf Tryz.prog 183 key = some kl) : ∃ x : Int × Int, plOk x ∧ key = plEnc x := by
 obtain ⟨m, hm⟩ := plTypes
 unfold keyOf at h
 simp only [Tryz.underlying183] at h
 split at h
 · rename_i hf
   have hfm : key.formed Tryz.prog 183 = true := by simp at hf; exact hf.2
   cases key <;> simp [Value.formed, Tryz.underlying183] at hfm
   rename_i cs
   rw [plArr.size] at hfm
   obtain ⟨l⟩ := cs
   match l, hfm with
   | [c0, c1], _ =>
     rw [hm] at h
     unfold Program.keyLits at h
     simp only [Tryz.underlying183, Value.cells] at h
     rw [if_pos (by rw [plArr.size]; rfl)] at h
     simp only [Option.map_eq_some_iff] at h
     obtain ⟨ls, ⟨xs, hx, e1⟩, e2⟩ := h
     rw [show List.range 2 = [0, 1] from rfl, List.mapM_cons, List.mapM_cons, List.mapM_nil] at hx
     simp only [bind, Option.bind_eq_some_iff, pure, Option.some.injEq, plArr.one] at hx
     obtain ⟨y0, h0, _, ⟨y1, h1, _, rfl, rfl⟩, rfl⟩ := hx
     obtain ⟨a, ea, rfl, wa⟩ := pl_lits h0
     obtain ⟨b, eb, rfl, wb⟩ := pl_lits h1
     simp at ea eb
     subst ea; subst eb; subst e1; subst e2
     exact ⟨(a, b), ⟨wa, wb⟩, rfl⟩
 · cases h
theorem pl_inj (x y : Int × Int) (h : plEnc x = plEnc y) : x = y := by
 obtain ⟨a, b⟩ := x
 obtain ⟨c, d⟩ := y
 simpa [plEnc] using h
def KPl : KeyEnc Tryz.prog 183 (Int × Int) := ⟨plEnc, plOk, plLit, pl_reads, pl_all, pl_inj, plLaw⟩

structure RtQ (w : World) (p bf bh : Nat) (age : Int) : Prop where
 box : CBox w p 159 #[.int .i64 age, .map (some bf), .map (some bh)]
 fixed : VMap KPl w bf 0 (fun _ => none)
 heard : VMap KPl w bh 0 (fun _ => none)
theorem RtQ.same {w w' : World} {p bf bh : Nat} {age : Int} (h : RtQ w p bf bh age) (h1 : w'.heap[p]? = w.heap[p]?) (h2 : w'.heap[bf]? = w.heap[bf]?) (h3 : w'.heap[bh]? = w.heap[bh]?) : RtQ w' p bf bh age := ⟨h1.trans h.box, h.fixed.same h2, h.heard.same h3⟩
theorem RtQ.lt {w : World} {p bf bh : Nat} {age : Int} (h : RtQ w p bf bh age) : p < w.heap.size ∧ bf < w.heap.size ∧ bh < w.heap.size := ⟨h.box.lt, h.fixed.lt, h.heard.lt⟩
theorem RtQ.below {w w' : World} {p bf bh : Nat} {age : Int} (h : RtQ w p bf bh age) (hb : Below w.heap.size w w') : RtQ w' p bf bh age := h.same (hb.block _ h.lt.1) (hb.block _ h.lt.2.1) (hb.block _ h.lt.2.2)
def RetRNew (w : World) (age : Int) (e : Ending) (w' : World) : Prop := ∃ p bf bh, e = .returned (.tuple #[.pointer (some ⟨p, 0, none⟩), .int .i64 0]) ∧ RtQ w' p bf bh age ∧ (w.heap.size ≤ p ∧ w.heap.size ≤ bf ∧ w.heap.size ≤ bh) ∧ bf ≠ bh ∧ Below w.heap.size w w'
theorem rnew_any (age : Int) (w : World) (h : 1 ≤ age ∧ age ≤ 1000000) :
 Calls Tryz.prog 36 #[.int .i64 age] w (RetRNew w age) := by
 have d1 : decide (age < 1) = false := decide_eq_false (by omega)
 have d2 : decide ((1000000 : Int) < age) = false := decide_eq_false (by omega)
 have hmm := @run_makeMap Tryz.prog
 clear h
 go_enter Tryz.func36, Tryz.ntmps36
 go_wp2_with fail
 go_ret2
 have b1 : Below w.heap.size w (w.alloc (.map #[] 0)) := (Below.refl _ _).alloc (Nat.le_refl _) _
 have m1 := VMap.made KPl w
 have m2 := VMap.made KPl (w.alloc (.map #[] 0))
 have s1 : (w.alloc (.map #[] 0)).heap.size = w.heap.size + 1 := by simp
 rw [s1] at m2
 have b3 : Below (w.heap.size + 1 + 1) ((w.alloc (.map #[] 0)).alloc (.map #[] 0)) (((w.alloc (.map #[] 0)).alloc (.map #[] 0)).alloc (.cells #[.int .i64 age, .map (some w.heap.size), .map (some (w.heap.size + 1))] 159)) := (Below.refl _ _).alloc (by simp) _
 exact ⟨_, w.heap.size, w.heap.size + 1, rfl, ⟨CBox.new _ (by simp), (m1.below (B := w.heap.size + 1) ((Below.refl _ _).alloc (by simp) _) (by omega)).below b3 (by omega), m2.below b3 (by omega)⟩, ⟨Nat.le_succ_of_le (Nat.le_succ _), Nat.le_refl _, Nat.le_succ _⟩, Nat.ne_of_lt (Nat.lt_succ_self _), (b1.alloc (by simp) _).alloc (by rw [World.size_alloc, World.size_alloc]; exact Nat.le_succ_of_le (Nat.le_succ _)) _⟩

set_option maxHeartbeats 2000000 in
theorem rlist_none (p bf bh : Nat) (age v now : Int) (w : World) (h : RtQ w p bf bh age) :
 Calls Tryz.prog 47 #[.pointer (some ⟨p, 0, none⟩), .int .i64 v, .int .i64 now] w fun e w' => e = .returned (.slice none 0 0) ∧ Below w.heap.size w w' := by
 obtain ⟨c1, _⟩ := h.box.at_ 1 _ rfl
 have H := Lib.hid h
 clear h
 go_enter Tryz.func47, Tryz.ntmps47
 go_wp2_with (at_range; refine wpList_range_v _ rfl _ 156 4 rfl Tryz.underlying156 KPl bf 0 (fun _ => none) rfl H.out.fixed ?_; intro w1 cnt1 hrg1 hb1 hs1)
 go_frame
 have R1 := Lib.hid hrg1; have B1 := Lib.hid hb1
 clear hrg1 hb1 hs1 c1
 go_loopw [7, 8] (fun r _ wr => r = .slice none 0 0 ∧ wr = w1) (fun _ _ wr => wr.rangeLeft bf w.heap.size)
 case atStart => exact ⟨rfl, rfl⟩
 case round =>
  obtain ⟨rfl, hwr⟩ := hrel
  subst wr
  go_wp2_with (first
   | (at_next; refine wpList_next_b _ rfl _ rfl KPl bf w.heap.size 0 (fun _ => none) _ _ rfl R1.out ?_ ?_)
   | go_in)
  intro _
  have H1 := Lib.hid (H.out.below B1.out)
  obtain ⟨c2, _⟩ := H1.out.box.at_ 2 _ rfl
  go_wp2_with (at_range; refine wpList_range_v _ rfl _ 157 3 rfl Tryz.underlying157 KPl bh 0 (fun _ => none) rfl H1.out.heard ?_; intro w2 cnt2 hrg2 hb2 hs2)
  go_frame
  have R2 := Lib.hid hrg2; have B2 := Lib.hid (B1.out.trans (hb2.mono B1.out.size))
  clear hrg2 hb2 hs2 c2
  go_loopw [7, 9, 10] (fun r _ _ wr => r = .slice none 0 0 ∧ wr = w2) (fun _ _ _ wr => wr.rangeLeft bh w1.heap.size)
  case atStart => exact ⟨rfl, rfl⟩
  case round =>
   obtain ⟨rfl, hwr⟩ := hrel
   subst wr
   have HS := Lib.hid (Tryz.slices_Sort_int_none none 0 w2)
   have HC := Lib.hid (Tryz.slices_Compact_int_empty none 0 w2)
   go_wp2_with (first
    | (at_next; refine wpList_next_b _ rfl _ rfl KPl bh w1.heap.size 0 (fun _ => none) _ _ rfl R2.out (fun _ => ?_) (fun xb c w' cnt' _ hF => absurd hF (by simp)))
    | ((with_reducible refine HS.out.mono ?_); rintro e w3 ⟨rfl, hw3⟩; subst w3) | ((with_reducible refine HC.out.mono ?_); rintro e w3 ⟨rfl, hw3⟩; subst w3) | go_in)
   go_ret
   exact ⟨rfl, B2.out⟩
def RetRt (w : World) (p bf bh : Nat) (age : Int) (e : Ending) (w' : World) : Prop := (∃ i : Int, e = .returned (.int .i64 i)) ∧ RtQ w' p bf bh age ∧ Below w.heap.size w w'
set_option maxHeartbeats 2000000 in
theorem rforget_none (f : Nat) (caps : Array Value) (p bf bh : Nat) (age : Int) (w : World) (h : RtQ w p bf bh age) :
 Calls Tryz.prog 100 #[.pointer (some ⟨p, 0, none⟩), .func (.func f) #[] caps] w (RetRt w p bf bh age) := by
 obtain ⟨c2, _⟩ := h.box.at_ 2 _ rfl
 have H := Lib.hid h
 clear h
 go_enter Tryz.func100, Tryz.ntmps100
 go_wp2_with (at_range; refine wpList_range_v _ rfl _ 157 3 rfl Tryz.underlying157 KPl bh 0 (fun _ => none) rfl H.out.heard ?_; intro w1 cnt1 hrg1 hb1 hs1)
 go_frame
 have R1 := Lib.hid hrg1; have B1 := Lib.hid hb1
 clear hrg1 hb1 hs1 c2
 refine wp_loop_rounds 1 ?_
 rw [rounds_succ]
 go_wp2_with (at_next; refine wpList_next_b _ rfl _ rfl KPl bh w.heap.size 0 (fun _ => none) _ _ rfl R1.out ?_ ?_)
 · intro _
   go_wp2_with fail
   go_ret
   exact ⟨⟨_, rfl⟩, H.out.below B1.out, B1.out⟩
theorem rtexpire_none (p bf bh : Nat) (age now : Int) (w : World) (h : RtQ w p bf bh age) :
 Calls Tryz.prog 70 #[.pointer (some ⟨p, 0, none⟩), .int .i64 now] w (RetRt w p bf bh age) := by
 obtain ⟨W2, hW2⟩ : ∃ W, (w.alloc (.cells #[.pointer (some ⟨p, 0, none⟩)] 82)).alloc (.cells #[.int .i64 now] 3) = W := ⟨_, rfl⟩
 obtain ⟨q0, hq0⟩ : ∃ q, w.heap.size = q := ⟨_, rfl⟩
 have hb : Below w.heap.size w W2 := by rw [← hW2]; exact ((Below.refl _ _).alloc (Nat.le_refl _) _).alloc (by simp) _
 have x0 : CBox W2 q0 82 #[.pointer (some ⟨p, 0, none⟩)] := by rw [← hW2]; exact (CBox.new _ hq0.symm).old _
 obtain ⟨c0, _⟩ := x0.at_ 0 _ rfl
 have HC := Lib.hid (rforget_none 133 #[.pointer (some ⟨q0, 0, none⟩), .pointer (some ⟨q0 + 1, 0, none⟩)] p bf bh age W2 (h.below hb))
 have HB := Lib.hid hb; have HW2 := Lib.hid hW2; have HQ0 := Lib.hid hq0
 clear h hb hW2 hq0 x0
 go_enter Tryz.func70, Tryz.ntmps70
 go_upto_region 1 with fail
 rw [HW2.out, HQ0.out]
 go_wp2_with ((with_reducible refine HC.out.mono ?_); rintro e w' ⟨⟨i, rfl⟩, hr, hb2⟩; have HR := Lib.hid hr; have HB2 := Lib.hid (HB.out.trans (hb2.mono HB.out.size)); clear hr hb2)
 go_ret
 exact ⟨⟨i, rfl⟩, HR.out, HB2.out⟩
end Go.Proofs.YthcdppppppgckaaGreatDoor

namespace Go.Proofs.YthcdppppppgckaaGreatDoor
open Go.RowKit Go.Lib Go.Maps
set_option maxRecDepth 20000

theorem qk_wide : (match Tryz.prog.underlying 100 with | some (.array _ _) | some (.struct _) => true | _ => false) = true := by kernel_rfl
theorem qk_laid : laidOutB Tryz.prog = true := by kernel_rfl
theorem qk_row : 100 < Tryz.prog.types.size := of_decide_eq_true (by kernel_rfl)
set_option maxRecDepth 100000 in
theorem qk_law : Keyed Tryz.prog 100 := Keyed.of_law (deep_law_laid qk_laid (m := 9) (by decide) qk_row (by kernel_rfl) qk_wide)
theorem qk_is : Tryz.prog.keyType 100 = true := by kernel_rfl
theorem qk_cells : Tryz.prog.cellsOf 100 = 2 := by kernel_rfl
theorem qk_ci : Tryz.prog.cellsOf 3 = 1 := by kernel_rfl
theorem qk_size : ∃ n, Tryz.prog.types.size = n + 1 := ⟨Tryz.prog.types.size - 1, by kernel_rfl⟩

def encQK (x : Int × Int) : Value := .agg #[.int .i64 x.1, .int .i64 x.2]
def okQK (x : Int × Int) : Prop := (Lit.int .i64 x.1).wf = true ∧ (Lit.int .i64 x.2).wf = true
def litQK (x : Int × Int) : Lit := .string (keyBytes [.int .i64 x.1, .int .i64 x.2])

set_option maxRecDepth 100000 in
theorem qk_reads (x : Int × Int) (h : okQK x) : keyOf Tryz.prog 100 (encQK x) = some (litQK x) := by
 obtain ⟨n, hn⟩ := qk_size
 unfold keyOf encQK litQK
 rw [Tryz.underlying100]
 simp only [qk_is, Bool.true_and]
 have hf : Value.formed Tryz.prog 100 (.agg #[.int .i64 x.1, .int .i64 x.2]) = true := by
  simp [Value.formed, Tryz.underlying100, qk_cells]
 rw [if_pos hf, hn]
 simp [Program.keyLits, Value.cells, Tryz.underlying100, qk_cells, qk_ci, Tryz.underlying3, h.1, h.2]

set_option maxRecDepth 100000 in
theorem qk_all (v : Value) (l : Lit) (h : keyOf Tryz.prog 100 v = some l) : ∃ x, okQK x ∧ v = encQK x := by
 obtain ⟨n, hn⟩ := qk_size
 unfold keyOf at h
 rw [Tryz.underlying100] at h
 simp only [qk_is, Bool.true_and] at h
 split at h
 · rename_i hf
   cases v <;> simp [Value.formed, Tryz.underlying100, qk_cells] at hf
   rename_i cs
   obtain ⟨a, b, rfl⟩ : ∃ a b, cs = #[a, b] := by
    obtain ⟨l⟩ := cs
    match l, hf with
    | [a, b], _ => exact ⟨a, b, rfl⟩
   rw [hn] at h
   simp [Program.keyLits, Value.cells, Tryz.underlying100, qk_cells, qk_ci, Tryz.underlying3] at h
   cases a <;> simp at h
   rename_i q z
   by_cases hq : q = .i64 ∧ (Lit.int .i64 z).wf = true
   · rw [if_pos hq] at h
     obtain ⟨rfl, hz⟩ := hq
     cases b <;> simp at h
     rename_i q2 z2
     by_cases hq2 : q2 = .i64 ∧ (Lit.int .i64 z2).wf = true
     · obtain ⟨rfl, hz2⟩ := hq2
       exact ⟨(z, z2), ⟨hz, hz2⟩, rfl⟩
     · rw [if_neg hq2] at h; simp at h
   · rw [if_neg hq] at h; simp at h
 · cases h

theorem qk_inj (x y : Int × Int) (h : encQK x = encQK y) : x = y := by
 obtain ⟨a, b⟩ := x
 obtain ⟨c, d⟩ := y
 simpa [encQK] using h

def KQ : KeyEnc Tryz.prog 100 (Int × Int) := ⟨encQK, okQK, litQK, qk_reads, qk_all, qk_inj, qk_law⟩
end Go.Proofs.YthcdppppppgckaaGreatDoor
