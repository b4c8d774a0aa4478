/- Texts joined into one file: BFd2, BFd3, BFd4, Plain. -/
import Derived.Test.YthcdppppppgckaaGreatDoorC32
import Derived.Test.YthcdppppppgckaaGreatDoorC25
import Derived.Test.YthcdppppppgckaaGreatDoorC29
import Derived.Test.YthcdppppppgckaaGreatDoorC31
import Derived.Test.YthcdppppppgckaaGreatDoorC04
import Derived.Maps.OwnSet

namespace Go.Proofs.YthcdppppppgckaaGreatDoor
open Go.RowKit Go.Lib Go.Sort
set_option maxRecDepth 20000
set_option maxRecDepth 20000

def inBetween (n a b : Int) : Bool := decide (a ≤ n) && decide (n ≤ b)
theorem fwithin_any (n a b : Int) (w : World) :
 Calls Tryz.prog 112 #[.int .i64 n, .int .i64 a, .int .i64 b] w fun e w' => e = .returned (.bool (inBetween n a b)) ∧ w = w' := by
 unfold inBetween
 cases q1 : decide (a ≤ n)
 · go_enter Tryz.func112, Tryz.ntmps112
   go_wp2
   go_ret
   exact ⟨rfl, rfl⟩
 · cases q2 : decide (n ≤ b)
   · go_enter Tryz.func112, Tryz.ntmps112
     go_wp2
     go_ret
     exact ⟨rfl, rfl⟩
   · go_enter Tryz.func112, Tryz.ntmps112
     go_wp2
     go_ret
     exact ⟨rfl, rfl⟩

theorem callFlush1 (args : Array Value) (w : World) : (callFunc 98 args).run Tryz.prog w = .ok (.enter 98 args) w := by kernel_rfl
theorem callFExpire1 (args : Array Value) (w : World) : (callFunc 131 args).run Tryz.prog w = .ok (.enter 131 args) w := by kernel_rfl
theorem flush1_any (k : Int × Str) (e : Int × Int) (port : Int) (b : Nat) (w : World) (hb : b < w.heap.size) (h : w.cell? ⟨b, 0, none⟩ = some (.int .i64 port)) :
 Calls Tryz.prog 98 #[encE k e, .pointer (some ⟨b, 0, none⟩)] w fun e' w' => e' = .returned (.bool (e.1 == port)) ∧ Below w.heap.size w w' := by
 obtain ⟨k1, k2⟩ := k
 obtain ⟨e1, e2⟩ := e
 unfold encE
 dsimp only
 have hbl : Below w.heap.size w (w.alloc (.cells #[.int .i64 k1, .string (bstr k2), .int .i64 e1, .int .i64 e2] 187)) := (Below.refl _ _).alloc (Nat.le_refl _) _
 have h' := (hbl.cell (p := ⟨b, 0, none⟩) hb).trans h
 have HB := Lib.hid hbl
 clear h hbl
 go_enter Tryz.func98, Tryz.ntmps98
 go_wp2
 go_ret
 exact ⟨rfl, HB.out⟩
structure FdOk (F : Fdb) : Prop where
 at_ : ∀ k e, F k = some e → (0 ≤ e.1 ∧ e.1 ≤ 15) ∧ (0 ≤ e.2 ∧ e.2 ≤ 1099511627776)
theorem fold_any (k : Int × Str) (e : Int × Int) (p : Nat) (v0 v2 : Value) (age now : Int) (w : World) (hx : CBox w p 151 #[v0, .int .i64 age, v2]) (he : 0 ≤ e.2 ∧ e.2 ≤ 1099511627776) (ha : 0 ≤ age ∧ age ≤ 1000000) :
 Calls Tryz.prog 132 #[.pointer (some ⟨p, 0, none⟩), encE k e, .int .i64 now] w fun e' w' => e' = .returned (.bool (decide (e.2 + age ≤ now))) ∧ Below w.heap.size w w' := by
 obtain ⟨k1, k2⟩ := k
 obtain ⟨e1, e2⟩ := e
 unfold encE
 dsimp only at he ⊢
 obtain ⟨W1, hW1⟩ : ∃ W, w.alloc (.cells #[.int .i64 k1, .string (bstr k2), .int .i64 e1, .int .i64 e2] 187) = W := ⟨_, rfl⟩
 have hb1 : Below w.heap.size w W1 := by rw [← hW1]; exact (Below.refl _ _).alloc (Nat.le_refl _) _
 obtain ⟨q0, hq0⟩ : ∃ q, w.heap.size = q := ⟨_, rfl⟩
 have hx1 : CBox W1 q0 187 #[.int .i64 k1, .string (bstr k2), .int .i64 e1, .int .i64 e2] := by rw [← hW1]; exact CBox.new _ hq0.symm
 obtain ⟨Z, hZ⟩ : ∃ W, W1.drew = W := ⟨_, rfl⟩
 have hbz : Below W1.heap.size W1 Z := by rw [← hZ]; exact Below.drew (Below.refl _ _)
 have XZ := Lib.hid (hx1.below hbz hx1.lt); have PZ := Lib.hid ((hx.below hb1 hx.lt).below hbz (hx.below hb1 hx.lt).lt); have BZ := Lib.hid (hb1.trans (hbz.mono hb1.size))
 have hsum : IntKind.i64.wrap (e2 + age) = e2 + age := by rw [IntKind.wrap_i64]; omega
 have HW1 := Lib.hid hW1; have HQ0 := Lib.hid hq0; have HZ := Lib.hid hZ
 have HF := Lib.hid (fun (wq : World) (h : CBox wq q0 187 #[.int .i64 k1, .string (bstr k2), .int .i64 e1, .int .i64 e2] ∧ CBox wq p 151 #[v0, .int .i64 age, v2]) => And.intro (h.1.at_ 3 _ rfl).1 (h.2.at_ 1 _ rfl).1)
 clear hx hx1 hb1 hbz hW1 hq0 hZ he ha
 go_enter Tryz.func132, Tryz.ntmps132
 go_upto_region 1 with fail
 rw [HW1.out, HQ0.out]
 refine wp_region_held_drew (S := fun wq => CBox wq q0 187 #[.int .i64 k1, .string (bstr k2), .int .i64 e1, .int .i64 e2] ∧ CBox wq p 151 #[v0, .int .i64 age, v2]) (by kernel_rfl) (by rw [HZ.out]; exact ⟨XZ.out, PZ.out⟩) (fun hHeld => ?_)
 rw [HZ.out] at hHeld ⊢
 iterate 10 (first | (refine takeO 10 (v := ?_) rfl (by kernel_rfl) (fun _ _ _ h => h) (Or.inl ⟨by rfl, ?_⟩) (by assumption) ?_; rotate_left; (focus (intro wq hSq; have f := HF.out wq hSq; go_simp <;> with_reducible rfl)); simp only [Act.put, List.setIfInBounds_toArray, List.set_cons_zero, List.set_cons_succ]) | (refine takeO 10 (v := undef) rfl (by kernel_rfl) (fun _ _ _ h => h) (Or.inr ⟨by rfl, rfl⟩) (by assumption) ?_; simp only [Act.put, List.setIfInBounds_toArray, List.set_cons_zero, List.set_cons_succ]))
 refine wpAnyH_done (by kernel_rfl) ?_ _
 clear hHeld HF
 go_wp2_with fail
 go_ret
 exact ⟨rfl, BZ.out⟩
theorem fexpire1_any (k : Int × Str) (e : Int × Int) (p b0 b1 : Nat) (v0 v2 : Value) (age now : Int) (w : World) (hx : CBox w p 151 #[v0, .int .i64 age, v2]) (he : 0 ≤ e.2 ∧ e.2 ≤ 1099511627776) (ha : 0 ≤ age ∧ age ≤ 1000000)
 (h0 : b0 < w.heap.size ∧ w.cell? ⟨b0, 0, none⟩ = some (.pointer (some ⟨p, 0, none⟩))) (h1 : b1 < w.heap.size ∧ w.cell? ⟨b1, 0, none⟩ = some (.int .i64 now)) :
 Calls Tryz.prog 131 #[encE k e, .pointer (some ⟨b0, 0, none⟩), .pointer (some ⟨b1, 0, none⟩)] w fun e' w' => e' = .returned (.bool (decide (e.2 + age ≤ now))) ∧ Below w.heap.size w w' := by
 obtain ⟨k1, k2⟩ := k
 obtain ⟨e1, e2⟩ := e
 have HO := Lib.hid (fun W (hW : Below w.heap.size w W) => fold_any (k1, k2) (e1, e2) p v0 v2 age now W (hx.below hW hx.lt) he ha)
 unfold encE at HO ⊢
 dsimp only at HO ⊢
 have hbl : Below w.heap.size w (w.alloc (.cells #[.int .i64 k1, .string (bstr k2), .int .i64 e1, .int .i64 e2] 187)) := (Below.refl _ _).alloc (Nat.le_refl _) _
 have g0 := (hbl.cell (p := ⟨b0, 0, none⟩) h0.1).trans h0.2
 have g1 := (hbl.cell (p := ⟨b1, 0, none⟩) h1.1).trans h1.2
 have HB := Lib.hid hbl
 clear hx he ha h0 h1 hbl
 go_enter Tryz.func131, Tryz.ntmps131
 go_wp2_with ((with_reducible refine (HO.out _ HB.out).mono ?_); rintro e' w2 ⟨rfl, hb2⟩; have HB2 := Lib.hid (HB.out.trans (hb2.mono HB.out.size)); clear hb2)
 go_ret
 exact ⟨rfl, HB2.out⟩

def flushF (F : Fdb) (port : Int) : Fdb := cutF F fun _ e => e.1 == port
def fexpF (F : Fdb) (age now : Int) : Fdb := cutF F fun _ e => decide (e.2 + age ≤ now)
theorem flush_any (p m n : Nat) (room age port : Int) (F : Fdb) (w : World) (h : FdAt w p m n room age F) :
 Calls Tryz.prog 51 #[.pointer (some ⟨p, 0, none⟩), .int .i64 port] w (RetFd w p m n room age (flushF F port)) := by
 have hb : Below w.heap.size w (w.alloc (.cells #[.int .i64 port] 3)) := (Below.refl _ _).alloc (Nat.le_refl _) _
 have hc : (w.alloc (.cells #[.int .i64 port] 3)).cell? ⟨w.heap.size, 0, none⟩ = some (.int .i64 port) := ((CBox.new #[.int .i64 port] rfl : CBox (w.alloc (.cells #[.int .i64 port] 3)) w.heap.size 3 _).at_ 0 _ rfl).1
 have hl := h.lt
 have HC := Lib.hid (ftake_any 98 #[.pointer (some ⟨w.heap.size, 0, none⟩)] (fun _ e => e.1 == port) p m n room age F _ (h.below hb) callFlush1 (fun k e W _ hW =>
  flush1_any k e port w.heap.size W (Nat.lt_of_lt_of_le (by simp) hW.size) ((World.cell?_of_block (a := ⟨w.heap.size, 0, none⟩) (hW.block w.heap.size (by simp) (by simp; omega))).trans hc)))
 have HB := Lib.hid hb
 clear h hb hc hl
 go_enter Tryz.func51, Tryz.ntmps51
 go_wp2_with ((with_reducible refine HC.out.mono ?_); rintro e w' ⟨⟨i, rfl⟩, hf, ht⟩; have HR := Lib.hid (And.intro hf ht); clear hf ht)
 go_ret
 exact ⟨⟨i, rfl⟩, HR.out.1, Turn.ahead HB.out HR.out.2⟩
theorem fexpire_any (p m n : Nat) (room age now : Int) (F : Fdb) (w : World) (h : FdAt w p m n room age F) (ok : FdOk F) (ha : 0 ≤ age ∧ age ≤ 1000000) (hn : 0 ≤ now ∧ now ≤ 1099511627776) :
 Calls Tryz.prog 69 #[.pointer (some ⟨p, 0, none⟩), .int .i64 now] w (RetFd w p m n room age (fexpF F age now)) := by
 have hb0 : Below w.heap.size w (w.alloc (.cells #[.pointer (some ⟨p, 0, none⟩)] 80)) := (Below.refl _ _).alloc (Nat.le_refl _) _
 have hb := hb0.alloc (by simp) (.cells #[.int .i64 now] 3)
 obtain ⟨W2, hW2⟩ : ∃ W, (w.alloc (.cells #[.pointer (some ⟨p, 0, none⟩)] 80)).alloc (.cells #[.int .i64 now] 3) = W := ⟨_, rfl⟩
 obtain ⟨q0, hq0⟩ : ∃ q, w.heap.size = q := ⟨_, rfl⟩
 have x0 : CBox W2 q0 80 #[.pointer (some ⟨p, 0, none⟩)] := by rw [← hW2]; exact (CBox.new _ hq0.symm).old _
 have x1 : CBox W2 (q0 + 1) 3 #[.int .i64 now] := by rw [← hW2]; exact CBox.new _ (by rw [World.size_alloc, hq0])
 rw [hW2] at hb
 have hl := h.lt
 have h2 := h.below hb
 have HWI := Lib.hid (fwithin_any now 0 1099511627776 W2)
 rw [show inBetween now 0 1099511627776 = true from by unfold inBetween; rw [decide_eq_true hn.1, decide_eq_true hn.2]; rfl] at HWI
 have hkeep : ∀ (W : World), W2.grownBy W (some m) → CBox W q0 80 #[.pointer (some ⟨p, 0, none⟩)] ∧ CBox W (q0 + 1) 3 #[.int .i64 now] := fun W hW => ⟨x0.grown hW (by simp; omega), x1.grown hW (by simp; omega)⟩
 have HC := Lib.hid (ftake_any 131 #[.pointer (some ⟨q0, 0, none⟩), .pointer (some ⟨q0 + 1, 0, none⟩)] (fun _ e => decide (e.2 + age ≤ now)) p m n room age F W2 h2 callFExpire1 (fun k e W hk hW =>
  fexpire1_any k e p q0 (q0 + 1) _ _ age now W (h2.box.grown hW (by have := h2.ne; simpa using this)) (ok.at_ k e hk).2 ha ⟨(hkeep W hW).1.lt, ((hkeep W hW).1.at_ 0 _ rfl).1⟩ ⟨(hkeep W hW).2.lt, ((hkeep W hW).2.at_ 0 _ rfl).1⟩))
 have HB := Lib.hid hb; have HW2 := Lib.hid hW2; have HQ0 := Lib.hid hq0
 obtain ⟨c0, _⟩ := x0.at_ 0 _ rfl
 obtain ⟨c1, _⟩ := x1.at_ 0 _ rfl
 clear h hb0 hb hl h2 hkeep hW2 hq0 x0 x1 hn ha
 go_enter Tryz.func69, Tryz.ntmps69
 go_upto_region 1 with fail
 rw [HW2.out, HQ0.out]
 go_wp2_with (first | ((with_reducible refine HWI.out.mono ?_); rintro e w3 ⟨rfl, hw3⟩; subst w3) | ((with_reducible refine HC.out.mono ?_); rintro e w' ⟨⟨i, rfl⟩, hf, ht⟩; have HR := Lib.hid (And.intro hf ht); clear hf ht))
 go_ret
 exact ⟨⟨i, rfl⟩, HR.out.1, Turn.ahead HB.out HR.out.2⟩
end Go.Proofs.YthcdppppppgckaaGreatDoor

namespace Go.Proofs.YthcdppppppgckaaGreatDoor
open Go.RowKit Go.Lib Go.Maps Go.Sort
set_option maxRecDepth 20000
set_option maxRecDepth 20000

def fdbMay (room age : Int) : Bool := inBetween room 1 1024 && inBetween age 1 1000000
def RetFdNew (w : World) (room age : Int) (e : Ending) (w' : World) : Prop := ∃ p m, e = .returned (.tuple #[.pointer (some ⟨p, 0, none⟩), .int .i64 0]) ∧ FdAt w' p m 0 room age (fun _ => none) ∧ w.heap.size ≤ p ∧ w.heap.size ≤ m ∧ Below w.heap.size w w'
theorem fdnew_any (room age : Int) (w : World) (h : fdbMay room age = true) :
 Calls Tryz.prog 34 #[.int .i64 room, .int .i64 age] w (RetFdNew w room age) := by
 unfold fdbMay inBetween at h
 simp only [Bool.and_eq_true, decide_eq_true_eq] at h
 have d1 : decide (room < 1) = false := decide_eq_false (by omega)
 have d2 : decide ((1024 : Int) < room) = false := decide_eq_false (by omega)
 have d3 : decide (age < 1) = false := decide_eq_false (by omega)
 have d4 : decide ((1000000 : Int) < age) = false := decide_eq_false (by omega)
 clear h
 have hmm := @run_makeMap Tryz.prog
 go_enter Tryz.func34, Tryz.ntmps34
 go_wp2_with fail
 go_ret2
 refine ⟨_, _, rfl, ⟨CBox.new _ (by simp), ?_⟩, by simp, Nat.le_refl _, ((Below.refl _ _).alloc (Nat.le_refl _) _).alloc (by simp) _⟩
 have hv := VMap.made KF w
 exact hv.below (B := (w.alloc (.map #[] 0)).heap.size) ((Below.refl _ _).alloc (Nat.le_refl _) _) (by simp)

section
variable {P : Program} {T : TypeId} {κ : Type} {K : KeyEnc P T κ} {w : World} {b n : Nat} {F : κ → Option Value}
end
theorem zeroEntry (w : World) : (zeroValue 187).run Tryz.prog w = .ok (.agg #[.int .i64 0, .string ⟨#[]⟩, .int .i64 0, .int .i64 0]) w := by kernel_rfl
theorem FdAt.get {w : World} {p m n : Nat} {room age : Int} {F : Fdb} (h : FdAt w p m n room age F) (v : Int) (mc : Str) (hk : okFK (v, mc)) :
 (Instr.lookup 149 (.map (some m)) (.agg #[.int .i64 v, .string (bstr mc)]) true).run Tryz.prog w = .ok (.tuple #[match F (v, mc) with | some e => encE (v, mc) e | none => .agg #[.int .i64 0, .string ⟨#[]⟩, .int .i64 0, .int .i64 0], .bool (F (v, mc)).isSome]) w := by
 have := h.map.getOk Tryz.underlying149 (zeroEntry w) (v, mc) hk
 unfold encV at this
 refine Eq.trans this ?_
 cases F (v, mc) <;> rfl

def flook (F : Fdb) (age v : Int) (mc : Str) (now : Int) : Int × Bool := match F (v, mc) with | some e => if e.2 + age ≤ now then (0, false) else (e.1, true) | none => (0, false)
def RetLook (w : World) (r : Int × Bool) (e : Ending) (w' : World) : Prop := e = .returned (.tuple #[.int .i64 r.1, .bool r.2]) ∧ Below w.heap.size w w'
set_option maxHeartbeats 4000000 in
theorem flook_any (p m n : Nat) (room age v now : Int) (mc : Str) (F : Fdb) (w : World) (h : FdAt w p m n room age F) (ok : FdOk F) (hk : okFK (v, mc)) (ha : 0 ≤ age ∧ age ≤ 1000000) (hn : 0 ≤ now ∧ now ≤ 1099511627776) :
 Calls Tryz.prog 129 #[.pointer (some ⟨p, 0, none⟩), .int .i64 v, .string (bstr mc), .int .i64 now] w (RetLook w (flook F age v mc now)) := by
 have hwi := fwithin_any now 0 1099511627776 w
 rw [show inBetween now 0 1099511627776 = true from by unfold inBetween; rw [decide_eq_true hn.1, decide_eq_true hn.2]; rfl] at hwi
 have HWI := Lib.hid hwi
 have hlk := h.get v mc hk
 obtain ⟨c2, _⟩ := h.box.at_ 2 _ rfl
 obtain ⟨r, hr⟩ : ∃ r, flook F age v mc now = r := ⟨_, rfl⟩
 have HR := Lib.hid (show r = match F (v, mc) with | some e => if e.2 + age ≤ now then (0, false) else (e.1, true) | none => (0, false) from hr.symm)
 rw [hr]
 have HX := Lib.hid h.box
 have HOK := Lib.hid ok
 cases hF : F (v, mc) with
 | none =>
   rw [hF] at hlk
   dsimp only at hlk
   have HR0 := Lib.hid (show r = (0, false) from by rw [HR.out, hF])
   clear hF hr hwi h ok hk ha hn
   replace hlk : (Instr.lookup 149 (.map (some m)) (.agg #[.int .i64 v, .string (bstr mc)]) true).run Tryz.prog w = .ok (.tuple #[.agg #[.int .i64 0, .string ⟨#[]⟩, .int .i64 0, .int .i64 0], .bool false]) w := hlk
   go_enter Tryz.func129, Tryz.ntmps129
   go_wp2_with ((with_reducible refine HWI.out.mono ?_); rintro e w2 ⟨rfl, hw2⟩; subst w2)
   go_ret2
   exact ⟨by rw [HR0.out]; rfl, (Below.refl _ _).alloc (Nat.le_refl _) _⟩
 | some e =>
   obtain ⟨e1, e2⟩ := e
   rw [hF] at hlk
   have hb := ok.at_ _ _ hF
   replace hlk : (Instr.lookup 149 (.map (some m)) (.agg #[.int .i64 v, .string (bstr mc)]) true).run Tryz.prog w = .ok (.tuple #[.agg #[.int .i64 v, .string (bstr mc), .int .i64 e1, .int .i64 e2], .bool true]) w := hlk
   obtain ⟨W1, hW1⟩ : ∃ W, w.alloc (.cells #[.int .i64 v, .string (bstr mc), .int .i64 e1, .int .i64 e2] 187) = W := ⟨_, rfl⟩
   have hb1 : Below w.heap.size w W1 := by rw [← hW1]; exact (Below.refl _ _).alloc (Nat.le_refl _) _
   obtain ⟨q0, hq0⟩ : ∃ q, w.heap.size = q := ⟨_, rfl⟩
   have hx1 : CBox W1 q0 187 #[.int .i64 v, .string (bstr mc), .int .i64 e1, .int .i64 e2] := by rw [← hW1]; exact CBox.new _ hq0.symm
   have HO := Lib.hid (show Calls Tryz.prog 132 #[.pointer (some ⟨p, 0, none⟩), .agg #[.int .i64 v, .string (bstr mc), .int .i64 e1, .int .i64 e2], .int .i64 now] W1 _ from fold_any (v, mc) (e1, e2) p _ _ age now W1 (h.box.below hb1 h.box.lt) hb.2 ha)
   have HB1 := Lib.hid hb1; have HX1 := Lib.hid hx1; have HW1 := Lib.hid hW1; have HQ0 := Lib.hid hq0
   obtain ⟨y0, yf0⟩ := CBox.at_ hx1 0 _ rfl
   obtain ⟨y1, yf1⟩ := CBox.at_ hx1 1 _ rfl
   obtain ⟨y2, yf2⟩ := CBox.at_ hx1 2 _ rfl
   obtain ⟨y3, yf3⟩ := CBox.at_ hx1 3 _ rfl
   have HRE := Lib.hid (show r = if e2 + age ≤ now then (0, false) else (e1, true) from by rw [HR.out, hF])
   clear hF hr hwi h ok hk ha hn hb hx1 hb1 hW1 hq0
   dsimp only at HO
   cases q : decide (e2 + age ≤ now)
   · rw [q] at HO
     have HR0 := Lib.hid (show r = (e1, true) from by rw [HRE.out, if_neg (of_decide_eq_false q)])
     clear q
     go_enter Tryz.func129, Tryz.ntmps129
     go_upto_region 4 with ((with_reducible refine HWI.out.mono ?_); rintro e w2 ⟨rfl, hw2⟩; subst w2)
     rw [HW1.out, HQ0.out]
     go_wp2_with ((with_reducible refine HO.out.mono ?_); rintro e w2 ⟨rfl, hb2⟩; have HB2 := Lib.hid (HB1.out.trans (hb2.mono HB1.out.size)); have HX2 := Lib.hid (HX1.out.below hb2 HX1.out.lt); clear hb2 y0 yf0 y1 yf1 y2 yf2 y3 yf3; obtain ⟨y0, yf0⟩ := CBox.at_ HX2.out 0 _ rfl; obtain ⟨y1, yf1⟩ := CBox.at_ HX2.out 1 _ rfl; obtain ⟨y2, yf2⟩ := CBox.at_ HX2.out 2 _ rfl; obtain ⟨y3, yf3⟩ := CBox.at_ HX2.out 3 _ rfl)
     go_ret2
     exact ⟨by rw [HR0.out]; rfl, HB2.out⟩
   · rw [q] at HO
     have HR0 := Lib.hid (show r = (0, false) from by rw [HRE.out, if_pos (of_decide_eq_true q)])
     clear q
     go_enter Tryz.func129, Tryz.ntmps129
     go_upto_region 4 with ((with_reducible refine HWI.out.mono ?_); rintro e w2 ⟨rfl, hw2⟩; subst w2)
     rw [HW1.out, HQ0.out]
     go_wp2_with ((with_reducible refine HO.out.mono ?_); rintro e w2 ⟨rfl, hb2⟩; have HB2 := Lib.hid (HB1.out.trans (hb2.mono HB1.out.size)); clear hb2)
     go_ret2
     exact ⟨by rw [HR0.out]; rfl, HB2.out⟩

attribute [local go_sem] bstr_size

theorem FdAt.getv (p m n : Nat) (room age : Int) (F : Fdb) (v : Int) (mc : Str) (hk : okFK (v, mc)) : ∃ (z0 : Int) (z1 : Str) (z2 z3 : Int), ∀ W, FdAt W p m n room age F →
 (Instr.lookup 149 (.map (some m)) (.agg #[.int .i64 v, .string (bstr mc)]) true).run Tryz.prog W = .ok (.tuple #[.agg #[.int .i64 z0, .string (bstr z1), .int .i64 z2, .int .i64 z3], .bool (F (v, mc)).isSome]) W := by
 cases hF : F (v, mc) with
 | none => exact ⟨0, [], 0, 0, fun W h => by have := h.get v mc hk; rw [hF] at this; rw [bstr_nil]; exact this⟩
 | some e => exact ⟨v, mc, e.1, e.2, fun W h => by have := h.get v mc hk; rw [hF] at this; exact this⟩
def learnB (v : Int) (mc : Str) (port now : Int) : Bool := decide (mc.length = 6) && !isMany mc && inBetween v 1 4094 && inBetween port 0 15 && inBetween now 0 1099511627776
def updE (F : Fdb) (k : Int × Str) (e : Int × Int) : Fdb := fun x => if x = k then some e else F x
theorem updE_enc (F : Fdb) (k : Int × Str) (e : Int × Int) : updV (encV F) k (encE k e) = encV (updE F k e) := by
 funext x
 unfold updV encV updE
 by_cases h : x = k
 · subst h; simp
 · simp [h]
def RetLearn (w : World) (p m n : Nat) (room age : Int) (F : Fdb) (e : Ending) (w' : World) : Prop := e = .returned (.bool true) ∧ FdAt w' p m n room age F ∧ Turn (fun k => k = m) w w'

set_option maxHeartbeats 4000000 in
theorem flearn_no (p : Nat) (v port now : Int) (mc : Str) (w : World) (h : learnB v mc port now = false) :
 Calls Tryz.prog 63 #[.pointer (some ⟨p, 0, none⟩), .int .i64 v, .string (bstr mc), .int .i64 port, .int .i64 now] w fun e w' => e = .returned (.bool false) ∧ w = w' := by
 have HM := Lib.hid (many_any mc w)
 have H1 := Lib.hid (fwithin_any v 1 4094 w)
 have H2 := Lib.hid (fwithin_any port 0 15 w)
 have H3 := Lib.hid (fwithin_any now 0 1099511627776 w)
 unfold learnB at h
 have hd : ∀ q, (((mc.length : Nat) : Int) != 6) = q → decide (mc.length = 6) = !q := fun q h => by
  rw [← h, Bool.eq_iff_iff]
  simp only [bne, Bool.not_not, decide_eq_true_eq, beq_iff_eq]
  omega
 generalize isMany mc = a1 at h HM
 generalize inBetween v 1 4094 = a2 at h H1
 generalize inBetween port 0 15 = a3 at h H2
 generalize inBetween now 0 1099511627776 = a4 at h H3
 cases q0 : (((mc.length : Nat) : Int) != 6)
 · rw [hd _ q0] at h
   clear hd
   cases a1
   · cases a2
     · clear h
       go_enter Tryz.func63, Tryz.ntmps63
       go_wp2_with (first | ((with_reducible refine HM.out.mono ?_); rintro e w2 ⟨rfl, hw2⟩; subst w2) | ((with_reducible refine H1.out.mono ?_); rintro e w2 ⟨rfl, hw2⟩; subst w2) | ((with_reducible refine H2.out.mono ?_); rintro e w2 ⟨rfl, hw2⟩; subst w2) | ((with_reducible refine H3.out.mono ?_); rintro e w2 ⟨rfl, hw2⟩; subst w2))
       go_ret
       exact ⟨rfl, rfl⟩
     · cases a3
       · clear h
         go_enter Tryz.func63, Tryz.ntmps63
         go_wp2_with (first | ((with_reducible refine HM.out.mono ?_); rintro e w2 ⟨rfl, hw2⟩; subst w2) | ((with_reducible refine H1.out.mono ?_); rintro e w2 ⟨rfl, hw2⟩; subst w2) | ((with_reducible refine H2.out.mono ?_); rintro e w2 ⟨rfl, hw2⟩; subst w2) | ((with_reducible refine H3.out.mono ?_); rintro e w2 ⟨rfl, hw2⟩; subst w2))
         go_ret
         exact ⟨rfl, rfl⟩
       · cases a4
         · clear h
           go_enter Tryz.func63, Tryz.ntmps63
           go_wp2_with (first | ((with_reducible refine HM.out.mono ?_); rintro e w2 ⟨rfl, hw2⟩; subst w2) | ((with_reducible refine H1.out.mono ?_); rintro e w2 ⟨rfl, hw2⟩; subst w2) | ((with_reducible refine H2.out.mono ?_); rintro e w2 ⟨rfl, hw2⟩; subst w2) | ((with_reducible refine H3.out.mono ?_); rintro e w2 ⟨rfl, hw2⟩; subst w2))
           go_ret
           exact ⟨rfl, rfl⟩
         · cases h
   · clear h
     go_enter Tryz.func63, Tryz.ntmps63
     go_wp2_with (first | ((with_reducible refine HM.out.mono ?_); rintro e w2 ⟨rfl, hw2⟩; subst w2) | ((with_reducible refine H1.out.mono ?_); rintro e w2 ⟨rfl, hw2⟩; subst w2) | ((with_reducible refine H2.out.mono ?_); rintro e w2 ⟨rfl, hw2⟩; subst w2) | ((with_reducible refine H3.out.mono ?_); rintro e w2 ⟨rfl, hw2⟩; subst w2))
     go_ret
     exact ⟨rfl, rfl⟩
 · clear h hd
   go_enter Tryz.func63, Tryz.ntmps63
   go_wp2_with (first | ((with_reducible refine HM.out.mono ?_); rintro e w2 ⟨rfl, hw2⟩; subst w2) | ((with_reducible refine H1.out.mono ?_); rintro e w2 ⟨rfl, hw2⟩; subst w2) | ((with_reducible refine H2.out.mono ?_); rintro e w2 ⟨rfl, hw2⟩; subst w2) | ((with_reducible refine H3.out.mono ?_); rintro e w2 ⟨rfl, hw2⟩; subst w2))
   go_ret
   exact ⟨rfl, rfl⟩

set_option maxHeartbeats 4000000 in
theorem flearn_yes (p m n : Nat) (room age v port now : Int) (mc : Str) (F : Fdb) (L : List (Int × Str)) (w : World) (h : FdAt w p m n room age F) (hok : learnB v mc port now = true) (hL : KeysV (encV F) L) (hr : F (v, mc) ≠ none ∨ (L.length : Int) < room) (hn : n ≤ 1000000) :
 Calls Tryz.prog 63 #[.pointer (some ⟨p, 0, none⟩), .int .i64 v, .string (bstr mc), .int .i64 port, .int .i64 now] w (RetLearn w p m (n + 1) room age (updE F (v, mc) (port, now))) := by
 unfold learnB at hok
 simp only [Bool.and_eq_true, Bool.not_eq_true', decide_eq_true_eq] at hok
 obtain ⟨⟨⟨⟨g0, g1⟩, g2⟩, g3⟩, g4⟩ := hok
 have HM := Lib.hid (many_any mc w)
 have H1 := Lib.hid (fwithin_any v 1 4094 w)
 have H2 := Lib.hid (fwithin_any port 0 15 w)
 have H3 := Lib.hid (fwithin_any now 0 1099511627776 w)
 rw [g1] at HM
 rw [g2] at H1
 rw [g3] at H2
 rw [g4] at H3
 have q0 : (((mc.length : Nat) : Int) != 6) = false := by rw [g0]; rfl
 have hk : okFK (v, mc) := by
  refine ⟨?_, by show mc.length ≤ maxLen; rw [g0]; decide⟩
  unfold inBetween at g2
  simp only [Bool.and_eq_true, decide_eq_true_eq] at g2
  exact WalkArith.wf_i64 (n := v) (by omega)
 obtain ⟨W1, hW1⟩ : ∃ W, w.alloc (.cells #[.int .i64 v, .string (bstr mc)] 202) = W := ⟨_, rfl⟩
 obtain ⟨q0', hq0⟩ : ∃ q, w.heap.size = q := ⟨_, rfl⟩
 have hb1 : Below w.heap.size w W1 := by rw [← hW1]; exact (Below.refl _ _).alloc (Nat.le_refl _) _
 have hx1 : CBox W1 q0' 202 #[.int .i64 v, .string (bstr mc)] := by rw [← hW1]; exact CBox.new _ hq0.symm
 obtain ⟨Z, hZ⟩ : ∃ W, W1.drew = W := ⟨_, rfl⟩
 have hbz : Below W1.heap.size W1 Z := by rw [← hZ]; exact Below.drew (Below.refl _ _)
 have XZ := Lib.hid (hx1.below hbz hx1.lt); have BZ := Lib.hid (hb1.trans (hbz.mono hb1.size)); have FZ := Lib.hid ((h.below hb1).below hbz)
 have HW1 := Lib.hid hW1; have HQ0 := Lib.hid hq0; have HZ := Lib.hid hZ; have HK := Lib.hid hk; have HL := Lib.hid hL; have HR := Lib.hid hr; have HN := Lib.hid hn
 have HFM := Lib.hid h.isMap
 clear g0 g1 g2 g3 g4 h hL hr hn hk hW1 hq0 hb1 hx1 hZ hbz
 go_enter Tryz.func63, Tryz.ntmps63
 go_upto_region 4 with (first | ((with_reducible refine HM.out.mono ?_); rintro e w2 ⟨rfl, hw2⟩; subst w2) | ((with_reducible refine H1.out.mono ?_); rintro e w2 ⟨rfl, hw2⟩; subst w2) | ((with_reducible refine H2.out.mono ?_); rintro e w2 ⟨rfl, hw2⟩; subst w2) | ((with_reducible refine H3.out.mono ?_); rintro e w2 ⟨rfl, hw2⟩; subst w2))
 rw [HW1.out, HQ0.out]
 clear q0 HM H1 H2 H3 HW1
 obtain ⟨z0, z1, z2, z3, hget⟩ := FdAt.getv p m n room age F v mc HK.out
 obtain ⟨fv, hfv⟩ : ∃ x, (F (v, mc)).isSome = x := ⟨_, rfl⟩
 rw [hfv] at hget
 have HFV := Lib.hid hfv
 have HF := Lib.hid (fun (wq : World) (hS : Below Z.heap.size Z wq) => And.intro ((FZ.out.below hS).box.at_ 2 _ rfl).1 (And.intro ((XZ.out.below hS XZ.out.lt).at_ 0 _ rfl).1 (And.intro ((XZ.out.below hS XZ.out.lt).at_ 1 _ rfl).1 (hget wq (FZ.out.below hS)))))
 clear hfv hget
 refine wp_region_held_drew (S := fun wq => Below Z.heap.size Z wq) (by kernel_rfl) (by rw [HZ.out]; exact Below.refl _ _) (fun hHeld => ?_)
 rw [HZ.out] at hHeld ⊢
 iterate 9 (first | (refine takeO 12 (v := ?_) rfl (by kernel_rfl) (fun _ _ _ h => h) (Or.inl ⟨by rfl, ?_⟩) (by assumption) ?_; rotate_left; (focus (intro wq hSq; have f := HF.out wq hSq; go_simp <;> with_reducible rfl)); simp only [Act.put, List.setIfInBounds_toArray, List.set_cons_zero, List.set_cons_succ]) | (refine takeO 12 (v := undef) rfl (by kernel_rfl) (fun _ _ _ h => h) (Or.inr ⟨by rfl, rfl⟩) (by assumption) ?_; simp only [Act.put, List.setIfInBounds_toArray, List.set_cons_zero, List.set_cons_succ]))
 refine wpAnyH_ready (rs := [9]) (by kernel_rfl) (by simp) (nextL 9 rfl (fun Kr hKr => ?_) AllReadyH.nil)
 rw [if_pos (by rfl)]
 go_simp
 obtain ⟨V, hV⟩ : ∃ W, Z.alloc (.cells #[.int .i64 0, .string ⟨#[]⟩, .int .i64 0, .int .i64 0] 187) = W := ⟨_, rfl⟩
 obtain ⟨qe, hqe⟩ : ∃ q, Z.heap.size = q := ⟨_, rfl⟩
 have hbv : Below Z.heap.size Z V := by rw [← hV]; exact (Below.refl _ _).alloc (Nat.le_refl _) _
 have XE := Lib.hid (show CBox V qe 187 #[.int .i64 0, .string ⟨#[]⟩, .int .i64 0, .int .i64 0] from by rw [← hV]; exact CBox.new _ hqe.symm)
 have HQE := Lib.hid (Nat.le_of_eq hqe)
 have BV := Lib.hid hbv
 rw [hV, hqe]
 refine hKr.out _ _ hbv (fun _ => ?_)
 clear hKr hV hqe hbv
 obtain ⟨y0, yf0⟩ := CBox.at_ XE.out 0 _ rfl
 obtain ⟨y1, yf1⟩ := CBox.at_ XE.out 1 _ rfl
 obtain ⟨y2, yf2⟩ := CBox.at_ XE.out 2 _ rfl
 obtain ⟨y3, yf3⟩ := CBox.at_ XE.out 3 _ rfl
 refine wpAnyH_ready (rs := [10]) (by kernel_rfl) (by simp) (nextL 10 rfl (fun Kr hKr => ?_) AllReadyH.nil)
 rw [if_pos (by rfl)]
 go_simp
 have hb5 := setsL_below (b := qe) HQE.out [.int .i64 z0, .string (bstr z1), .int .i64 z2, .int .i64 z3] 0 BV.out
 dsimp only [setsL] at hb5
 refine hKr.out _ _ hb5 (fun _ => ?_)
 have B5 := Lib.hid hb5
 generalize (((V.setCell ⟨qe, 0, none⟩ (.int .i64 z0)).setCell ⟨qe, 1, none⟩ (.string (bstr z1))).setCell ⟨qe, 2, none⟩ (.int .i64 z2)).setCell ⟨qe, 3, none⟩ (.int .i64 z3) = W5 at B5 ⊢
 have hHeld := B5.out
 clear hKr hb5 y0 yf0 y1 yf1 y2 yf2 y3 yf3
 iterate 1 (first | (refine takeO 12 (v := ?_) rfl (by kernel_rfl) (fun _ _ _ h => h) (Or.inl ⟨by rfl, ?_⟩) (by assumption) ?_; rotate_left; (focus (intro wq hSq; go_simp <;> with_reducible rfl)); simp only [Act.put, List.setIfInBounds_toArray, List.set_cons_zero, List.set_cons_succ]) | (refine takeO 12 (v := undef) rfl (by kernel_rfl) (fun _ _ _ h => h) (Or.inr ⟨by rfl, rfl⟩) (by assumption) ?_; simp only [Act.put, List.setIfInBounds_toArray, List.set_cons_zero, List.set_cons_succ]))
 refine wpAnyH_done (by kernel_rfl) ?_ _
 have F5 := Lib.hid (FZ.out.below B5.out); have X5 := Lib.hid (XZ.out.below B5.out XZ.out.lt); have C5 := Lib.hid (BZ.out.trans (B5.out.mono BZ.out.size))
 clear HF hHeld FZ XZ BZ HZ XE HQE BV B5
 go_upto_region 5 with fail
 obtain ⟨V5, hV5⟩ : ∃ W, W5.drew = W := ⟨_, rfl⟩
 have hb6 : Below W5.heap.size W5 V5 := by rw [← hV5]; exact Below.drew (Below.refl _ _)
 have HV5 := Lib.hid hV5
 have F6 := Lib.hid (F5.out.below hb6); have X6 := Lib.hid (X5.out.below hb6 X5.out.lt); have C6 := Lib.hid (C5.out.trans (hb6.mono C5.out.size))
 clear hV5 hb6 F5 X5 C5
 cases fv
 · have hlt : (L.length : Int) < room := by
    rcases HR.out with h | h
    · have := HFV.out
      cases q : F (v, mc)
      · exact absurd q h
      · rw [q] at this; cases this
    · exact h
   obtain ⟨L', hL', _, hlen⟩ := F6.out.map.count Tryz.underlying149
   have hll : L'.length = L.length := hL'.len HL.out
   rw [hll] at hlen
   have hd : decide (room ≤ (L.length : Int)) = false := decide_eq_false (by omega)
   have c2 := (F6.out.box.at_ 2 _ rfl).1
   have c0 := (F6.out.box.at_ 0 _ rfl).1
   obtain ⟨ln, hln⟩ : ∃ x, L.length = x := ⟨_, rfl⟩
   rw [hln] at hlen hd
   have HF := Lib.hid (fun (wq : World) (_ : wq = V5) => show V5.cell? ⟨p, 2, none⟩ = some (.map (some m)) ∧ V5.cell? ⟨p, 0, none⟩ = some (.int .i64 room) ∧ (∀ ty, (Builtin.len_ #[149] ty #[.map (some m)]).run Tryz.prog V5 = .ok (.int .i64 ln) V5) from ⟨c2, c0, hlen⟩)
   clear hlt hL' hll hlen c2 c0 hln
   refine wp_region_held_drew (S := fun wq => wq = V5) (by kernel_rfl) (by rw [HV5.out]) (fun hHeld => ?_)
   rw [HV5.out] at hHeld ⊢
   have hHeld : V5 = V5 := rfl
   iterate 14 (first | (refine takeO 14 (v := ?_) rfl (by kernel_rfl) (fun _ _ _ h => h) (Or.inl ⟨by rfl, ?_⟩) (by assumption) ?_; rotate_left; (focus (intro wq hSq; have f := HF.out wq hSq; go_simp <;> with_reducible rfl)); simp only [Act.put, List.setIfInBounds_toArray, List.set_cons_zero, List.set_cons_succ]) | (refine takeO 14 (v := undef) rfl (by kernel_rfl) (fun _ _ _ h => h) (Or.inr ⟨by rfl, rfl⟩) (by assumption) ?_; simp only [Act.put, List.setIfInBounds_toArray, List.set_cons_zero, List.set_cons_succ]))
   refine wpAnyH_done (by kernel_rfl) ?_ _
   clear hHeld HF hd
   go_upto_region 7 with fail
   obtain ⟨Y, hY⟩ : ∃ W, V5.drew = W := ⟨_, rfl⟩
   have hby : Below V5.heap.size V5 Y := by rw [← hY]; exact Below.drew (Below.refl _ _)
   have HY := Lib.hid hY
   have FY := Lib.hid (F6.out.below hby); have XY := Lib.hid (X6.out.below hby X6.out.lt); have BY := Lib.hid (C6.out.trans (hby.mono C6.out.size))
   obtain ⟨w7, hrun, hm7, hg7⟩ := FY.out.map.put Tryz.underlying149 (v, mc) HK.out (encE (v, mc) (port, now)) (by have := HN.out; unfold maxLen; omega)
   replace hrun : (Instr.mapUpdate 149 (.map (some m)) (.agg #[.int .i64 v, .string (bstr mc)]) (.agg #[.int .i64 v, .string (bstr mc), .int .i64 port, .int .i64 now])).run Tryz.prog Y = .ok () w7 := hrun
   rw [updE_enc] at hm7
   have HQM := Lib.hid (show q0' ≠ m from fun q => by
    obtain ⟨es, c, hm⟩ := FY.out.isMap
    have hk : Y.heap[q0']? = some _ := XY.out
    rw [q, hm] at hk
    cases hk)
   have P7 := Lib.hid (show CBox w7 p 151 #[.int .i64 room, .int .i64 age, .map (some m)] from FY.out.box.grown hg7.grown (by have := FY.out.ne; simpa using this))
   have X7 := Lib.hid (XY.out.grown hg7.grown (by have := HQM.out; simpa using this))
   have M7 := Lib.hid hm7
   have T7 := Lib.hid (show Turn (fun k => k = m) w w7 from Turn.ahead BY.out (fd_turn FY.out.isMap hg7.grown))
   clear hby hY hm7 hg7
   have HF := Lib.hid (fun (wq : World) (h : CBox wq p 151 #[.int .i64 room, .int .i64 age, .map (some m)] ∧ CBox wq q0' 202 #[.int .i64 v, .string (bstr mc)]) => And.intro (h.1.at_ 2 _ rfl).1 (And.intro (h.2.at_ 0 _ rfl).1 (h.2.at_ 1 _ rfl).1))
   refine wp_region_held_drew (S := fun wq => CBox wq p 151 #[.int .i64 room, .int .i64 age, .map (some m)] ∧ CBox wq q0' 202 #[.int .i64 v, .string (bstr mc)]) (by kernel_rfl) (by rw [HY.out]; exact ⟨FY.out.box, XY.out⟩) (fun hHeld => ?_)
   rw [HY.out] at hHeld ⊢
   have hrunH := Lib.hid hrun
   clear hrun
   iterate 10 (first | (refine takeO 11 (v := ?_) rfl (by kernel_rfl) (fun _ _ _ h => h) (Or.inl ⟨by rfl, ?_⟩) (by assumption) ?_; rotate_left; (focus (intro wq hSq; have f := HF.out wq hSq; go_simp <;> with_reducible rfl)); simp only [Act.put, List.setIfInBounds_toArray, List.set_cons_zero, List.set_cons_succ]) | (refine takeO 11 (v := undef) rfl (by kernel_rfl) (fun _ _ _ h => h) (Or.inr ⟨by rfl, rfl⟩) (by assumption) ?_; simp only [Act.put, List.setIfInBounds_toArray, List.set_cons_zero, List.set_cons_succ]))
   have hrun := hrunH.out
   refine wpAnyH_ready (rs := [10]) (by kernel_rfl) (by simp) (nextL 10 rfl (fun Kr hKr => ?_) AllReadyH.nil)
   rw [if_pos (by rfl)]
   go_simp
   refine hKr.out _ _ ⟨P7.out, X7.out⟩ (fun _ => ?_)
   clear hKr hrun
   refine wpAnyH_done (by kernel_rfl) ?_ _
   clear hHeld
   go_wp2_with fail
   go_ret
   exact ⟨rfl, ⟨P7.out, M7.out⟩, T7.out⟩
 · refine wp_region_held_drew (S := fun wq => wq = V5) (by kernel_rfl) (by rw [HV5.out]) (fun hHeld => ?_)
   rw [HV5.out] at hHeld ⊢
   have hHeld : V5 = V5 := rfl
   iterate 14 (first | (refine takeO 14 (v := ?_) rfl (by kernel_rfl) (fun _ _ _ h => h) (Or.inl ⟨by rfl, ?_⟩) (by assumption) ?_; rotate_left; (focus (intro wq hSq; go_simp <;> with_reducible rfl)); simp only [Act.put, List.setIfInBounds_toArray, List.set_cons_zero, List.set_cons_succ]) | (refine takeO 14 (v := undef) rfl (by kernel_rfl) (fun _ _ _ h => h) (Or.inr ⟨by rfl, rfl⟩) (by assumption) ?_; simp only [Act.put, List.setIfInBounds_toArray, List.set_cons_zero, List.set_cons_succ]))
   refine wpAnyH_done (by kernel_rfl) ?_ _
   clear hHeld
   go_upto_region 7 with fail
   obtain ⟨Y, hY⟩ : ∃ W, V5.drew = W := ⟨_, rfl⟩
   have hby : Below V5.heap.size V5 Y := by rw [← hY]; exact Below.drew (Below.refl _ _)
   have HY := Lib.hid hY
   have FY := Lib.hid (F6.out.below hby); have XY := Lib.hid (X6.out.below hby X6.out.lt); have BY := Lib.hid (C6.out.trans (hby.mono C6.out.size))
   obtain ⟨w7, hrun, hm7, hg7⟩ := FY.out.map.put Tryz.underlying149 (v, mc) HK.out (encE (v, mc) (port, now)) (by have := HN.out; unfold maxLen; omega)
   replace hrun : (Instr.mapUpdate 149 (.map (some m)) (.agg #[.int .i64 v, .string (bstr mc)]) (.agg #[.int .i64 v, .string (bstr mc), .int .i64 port, .int .i64 now])).run Tryz.prog Y = .ok () w7 := hrun
   rw [updE_enc] at hm7
   have HQM := Lib.hid (show q0' ≠ m from fun q => by
    obtain ⟨es, c, hm⟩ := FY.out.isMap
    have hk : Y.heap[q0']? = some _ := XY.out
    rw [q, hm] at hk
    cases hk)
   have P7 := Lib.hid (show CBox w7 p 151 #[.int .i64 room, .int .i64 age, .map (some m)] from FY.out.box.grown hg7.grown (by have := FY.out.ne; simpa using this))
   have X7 := Lib.hid (XY.out.grown hg7.grown (by have := HQM.out; simpa using this))
   have M7 := Lib.hid hm7
   have T7 := Lib.hid (show Turn (fun k => k = m) w w7 from Turn.ahead BY.out (fd_turn FY.out.isMap hg7.grown))
   clear hby hY hm7 hg7
   have HF := Lib.hid (fun (wq : World) (h : CBox wq p 151 #[.int .i64 room, .int .i64 age, .map (some m)] ∧ CBox wq q0' 202 #[.int .i64 v, .string (bstr mc)]) => And.intro (h.1.at_ 2 _ rfl).1 (And.intro (h.2.at_ 0 _ rfl).1 (h.2.at_ 1 _ rfl).1))
   refine wp_region_held_drew (S := fun wq => CBox wq p 151 #[.int .i64 room, .int .i64 age, .map (some m)] ∧ CBox wq q0' 202 #[.int .i64 v, .string (bstr mc)]) (by kernel_rfl) (by rw [HY.out]; exact ⟨FY.out.box, XY.out⟩) (fun hHeld => ?_)
   rw [HY.out] at hHeld ⊢
   have hrunH := Lib.hid hrun
   clear hrun
   iterate 10 (first | (refine takeO 11 (v := ?_) rfl (by kernel_rfl) (fun _ _ _ h => h) (Or.inl ⟨by rfl, ?_⟩) (by assumption) ?_; rotate_left; (focus (intro wq hSq; have f := HF.out wq hSq; go_simp <;> with_reducible rfl)); simp only [Act.put, List.setIfInBounds_toArray, List.set_cons_zero, List.set_cons_succ]) | (refine takeO 11 (v := undef) rfl (by kernel_rfl) (fun _ _ _ h => h) (Or.inr ⟨by rfl, rfl⟩) (by assumption) ?_; simp only [Act.put, List.setIfInBounds_toArray, List.set_cons_zero, List.set_cons_succ]))
   have hrun := hrunH.out
   refine wpAnyH_ready (rs := [10]) (by kernel_rfl) (by simp) (nextL 10 rfl (fun Kr hKr => ?_) AllReadyH.nil)
   rw [if_pos (by rfl)]
   go_simp
   refine hKr.out _ _ ⟨P7.out, X7.out⟩ (fun _ => ?_)
   clear hKr hrun
   refine wpAnyH_done (by kernel_rfl) ?_ _
   clear hHeld
   go_wp2_with fail
   go_ret
   exact ⟨rfl, ⟨P7.out, M7.out⟩, T7.out⟩
end Go.Proofs.YthcdppppppgckaaGreatDoor

namespace Go.Proofs.YthcdppppppgckaaGreatDoor
open Go.RowKit
set_option maxRecDepth 20000

theorem rev_ind {α : Type} {M : List α → Prop} (h0 : M []) (h1 : ∀ l x, M l → M (l ++ [x])) (l : List α) : M l := by
 rw [← List.reverse_reverse l]
 induction l.reverse with
 | nil => exact h0
 | cons x r ih => rw [List.reverse_cons]; exact h1 _ _ ih

def gather (p : Int → Bool) (l : List Int) : List Int := l.foldl (fun a x => if !a.contains x && p x then a ++ [x] else a) []

theorem gather_snoc (p : Int → Bool) (l : List Int) (x : Int) : gather p (l ++ [x]) = if !(gather p l).contains x && p x then gather p l ++ [x] else gather p l := by
 simp [gather, List.foldl_append]

theorem gather_mem (p : Int → Bool) (l : List Int) (y : Int) : y ∈ gather p l ↔ y ∈ l ∧ p y = true := by
 refine rev_ind (M := fun l => y ∈ gather p l ↔ y ∈ l ∧ p y = true) (by simp [gather]) (fun l x ih => ?_) l
 · 
  rw [gather_snoc]
  by_cases h : (!(gather p l).contains x && p x) = true
  · rw [if_pos h, List.mem_append, ih, List.mem_append, List.mem_singleton]
    simp only [Bool.and_eq_true] at h
    constructor
    · rintro (⟨a, b⟩ | rfl)
      · exact ⟨.inl a, b⟩
      · exact ⟨.inr rfl, h.2⟩
    · rintro ⟨a | rfl, b⟩
      · exact .inl ⟨a, b⟩
      · exact .inr rfl
  · rw [if_neg h, ih, List.mem_append, List.mem_singleton]
    constructor
    · rintro ⟨a, b⟩; exact ⟨.inl a, b⟩
    · rintro ⟨a | rfl, b⟩
      · exact ⟨a, b⟩
      · simp only [b, Bool.and_true, Bool.not_eq_true', Bool.not_eq_false, List.contains_iff_mem] at h
        exact ih.1 h

theorem gather_nodup (p : Int → Bool) (l : List Int) : (gather p l).Nodup := by
 refine rev_ind (M := fun l => (gather p l).Nodup) (by simp [gather]) (fun l x ih => ?_) l
 · 
  rw [gather_snoc]
  by_cases h : (!(gather p l).contains x && p x) = true
  · rw [if_pos h, List.nodup_append]
    simp only [Bool.and_eq_true, Bool.not_eq_true', List.contains_eq_mem, decide_eq_false_iff_not] at h
    refine ⟨ih, by simp, ?_⟩
    intro a ha b hb e
    rw [List.mem_singleton] at hb
    subst hb; subst e
    exact h.1 ha
  · rw [if_neg h]; exact ih

theorem gather_length (p : Int → Bool) (l : List Int) : (gather p l).length ≤ l.length := by
 refine rev_ind (M := fun l => (gather p l).length ≤ l.length) (by simp [gather]) (fun l x ih => ?_) l
 · 
  rw [gather_snoc]
  split <;> simp <;> omega

def canon (p : Int → Bool) (l : List Int) : List Int := (gather p l).mergeSort fun x y => decide (x ≤ y)

theorem canon_mem (p : Int → Bool) (l : List Int) (y : Int) : y ∈ canon p l ↔ y ∈ l ∧ p y = true := by
 rw [canon, List.mem_mergeSort, gather_mem]

theorem canon_length (p : Int → Bool) (l : List Int) : (canon p l).length ≤ l.length := by
 rw [canon, List.length_mergeSort]
 exact gather_length p l

theorem canon_rising (p : Int → Bool) (l : List Int) : (canon p l).Pairwise (· < ·) := by
 have h1 : (canon p l).Pairwise (fun x y => decide (x ≤ y) = true) :=
  List.pairwise_mergeSort (fun a b c h h' => by simp at *; omega) (fun a b => by simp; omega) _
 have h2 : (canon p l).Nodup := (List.mergeSort_perm _ _).nodup_iff.2 (gather_nodup p l)
 have h3 := h1.and h2
 exact h3.imp (fun ⟨h, h'⟩ => by simp at h; omega)

def IntSet (w : World) (b n : Nat) (S : List Int) : Prop :=
 ∃ D : DataW Unit, w.ownsMap Tryz.prog 3 (plainElem Tryz.prog 4) b n D ∧ ∀ x, (Lit.int .i64 x).wf = true → D.atKey (.int .i64 x) (.lit (.bool false)) = .lit (.bool (S.contains x))

theorem plainElem_bool_inv {H : Type} {P : Program} {e : TypeId} (he : P.underlying e = some .bool) {v : Value} {z : DataW H × List MemPlace} (h : plainElem P e v = some z) : ∃ x, v = .bool x ∧ z = (.lit (.bool x), []) := by
 unfold plainElem at h
 rw [he] at h
 cases v <;> simp at h
 exact ⟨_, rfl, h.symm⟩

theorem lawI : Maps.Keyed Tryz.prog 3 := Maps.int_keyed Tryz.underlying3

theorem IntSet.look {w : World} {b n : Nat} {S : List Int} (h : IntSet w b n S) {x : Int} (hx : (Lit.int .i64 x).wf = true) :
 (Instr.lookup 231 (.map (some b)) (.int .i64 x) false).run Tryz.prog w = .ok (.bool (S.contains x)) w := by
 obtain ⟨D, hown, hS⟩ := h
 have hz : (zeroValue 4).run Tryz.prog w = .ok (.bool false) w := by kernel_rfl
 obtain ⟨v, ps, hrun, hv⟩ := hown.lookup lawI Tryz.underlying231 hz (plainElem_bool Tryz.underlying4 false) (Maps.keyOf_int_mk Tryz.underlying3 hx)
 obtain ⟨c, rfl, hc⟩ := plainElem_bool_inv Tryz.underlying4 hv
 rw [hS x hx] at hc
 simp only [Prod.mk.injEq, DataW.lit.injEq, Lit.bool.injEq] at hc
 rw [hrun, hc.1]

theorem IntSet.made (w : World) : IntSet (w.alloc (.map #[] 0)) w.heap.size 0 [] :=
 ⟨.map [], World.ownsMap_made _ _ _ _, fun x _ => by simp [DataW.atKey]⟩

theorem IntSet.kept {w w' : World} {b n : Nat} {S : List Int} {row : Option Nat} (h : IntSet w b n S) (hg : w.grownBy w' row) (hne : some b ≠ row) : IntSet w' b n S := by
 obtain ⟨D, h1, h2⟩ := h
 exact ⟨D, h1.kept hg hne, h2⟩

theorem IntSet.mono {w : World} {b n n' : Nat} {S : List Int} (h : IntSet w b n S) (hn : n ≤ n') : IntSet w b n' S := by
 obtain ⟨D, h1, h2⟩ := h
 exact ⟨D, h1.mono hn, h2⟩

end Go.Proofs.YthcdppppppgckaaGreatDoor
