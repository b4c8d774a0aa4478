/- Texts joined into one file: Ints, Compact, BVl1, BVl2. -/
import Derived.Test.YthcdppppppgckaaGreatDoorC04
import Derived.Test.YthcdppppppgckaaGreatDoorC02
import Derived.Sort.OwnSortedInts
import Derived.Test.YthcdppppppgckaaGreatDoorC28
import Derived.Deep.DeepCutAuto
import Derived.Test.YthcdppppppgckaaGreatDoorC05
import Derived.Deep.MidRow

namespace Go.Proofs.YthcdppppppgckaaGreatDoor
open Go.RowKit
set_option maxRecDepth 20000

theorem contains_snoc (L : List Int) (x : Int) (k : Nat) (h : k < L.length) : (L.take (k + 1)).contains x = ((L.take k).contains x || L[k] == x) := by
 rw [take_snoc L k h, Bool.eq_iff_iff, List.contains_iff_mem, List.mem_append, Bool.or_eq_true, List.contains_iff_mem, List.mem_singleton, beq_iff_eq, eq_comm (a := x)]

set_option maxHeartbeats 400000 in
theorem has_any (v : Value) (L : List Int) (x : Int) (w : World) (h : Ints w v L) :
 Calls Tryz.prog 18 #[v, .int .i64 x] w fun e w' => e = .returned (.bool (L.contains x)) ∧ w = w' := by
 obtain ⟨b, off, hm, hlen, hidx, hc⟩ := h.facts
 clear h
 go_enter Tryz.func18, Tryz.ntmps18
 go_wp2
 go_loop [5] (fun i => ∃ k : Nat, k ≤ L.length ∧ i = .int .i64 k ∧ (L.take k).contains x = false) (fun i => L.length - (intOf i).toNat)
 case atStart => exact ⟨0, Nat.zero_le _, rfl, by simp⟩
 case round =>
  obtain ⟨k, hk, rfl, hn⟩ := hrel
  by_cases hlt : k < L.length
  · have HN : Hid ((L.take (k + 1)).contains x = (L[k] == x)) := by rw [contains_snoc L x k hlt, hn]; rfl
    have HF : Hid ((L[k] == x) = true → L.contains x = true) := by
     intro h
     have : L[k] = x := by simpa using h
     simp [← this]
    have hp := hidx k hlt
    have hcell := (hc k hlt).2
    clear hidx hc hn
    go_wp2
    · go_ret
      have h : (L[k] == x) = true := by assumption
      exact ⟨by simpa using HF.out h, rfl⟩
    · go_round
      case rel => 
       have h : (L[k] == x) = false := by assumption
       exact ⟨k + 1, by omega, by go_num, HN.out.trans h⟩
      case measure => simp [intOf]; omega
  · have HN : Hid (L.contains x = false) := by rw [List.take_of_length_le (by omega)] at hn; exact hn
    clear hidx hc hn
    go_wp2
    go_ret
    exact ⟨by simpa using HN.out, rfl⟩

theorem contains_any (v : Value) (L : List Int) (x : Int) (w : World) (h : Ints w v L) :
 Calls Tryz.prog 87 #[v, .int .i64 x] w fun e w' => e = .returned (.bool (L.contains x)) ∧ w = w' := by
 obtain ⟨ao, cap, b, off, rfl, h0, h1, h2, h3⟩ := h
 rcases h0 with rfl | rfl
 · exact (Tryz.slices_Contains_int_empty ao cap x w).mono fun e w' h => ⟨by rw [h.1]; simp, h.2.symm⟩
 · refine (Tryz.slices_Contains_int b off L.length cap L x w (Nat.le_refl _) (by omega) (fun j hj => (h3 j hj).2)).mono fun e w' h => ⟨by rw [h.1, List.take_length], h.2.symm⟩

theorem take_eq_snoc (A B : List Int) (k : Nat) (ha : k < A.length) (hb : k < B.length) (h : A.take k = B.take k) : (A.take (k + 1) = B.take (k + 1)) ↔ A[k] = B[k] := by
 rw [take_snoc A k ha, take_snoc B k hb, h, List.append_cancel_left_eq]
 simp only [List.cons.injEq, and_true]

set_option maxHeartbeats 800000 in
theorem same_any (v u : Value) (A B : List Int) (w : World) (h : Ints w v A) (h' : Ints w u B) :
 Calls Tryz.prog 21 #[v, u] w fun e w' => e = .returned (.bool (A == B)) ∧ ∃ n, w' = w.drewN n := by
 obtain ⟨b, off, hm, hlen, hidx, hc⟩ := h.facts
 obtain ⟨b', off', hm', hlen', hidx', hc'⟩ := h'.facts
 clear h h'
 by_cases hl : A.length = B.length
 · have hne : ((A.length : Int) != (B.length : Int)) = false := by rw [hl]; simp
   have HL := Lib.hid hl
   have hle : A.length ≤ B.length := by omega
   have hle' : B.length ≤ A.length := by omega
   clear hl
   go_enter Tryz.func21, Tryz.ntmps21
   go_wp2
   go_loopw [5] (fun i wr => ∃ k : Nat, k ≤ A.length ∧ i = .int .i64 k ∧ A.take k = B.take k ∧ ∃ n, wr = w.drewN n) (fun i _ => A.length - (intOf i).toNat)
   case atStart => exact ⟨0, Nat.zero_le _, rfl, by simp, 0, rfl⟩
   case round =>
    obtain ⟨k, hk, rfl, hn, n, rfl⟩ := hrel
    have HN := Lib.hid hn
    by_cases hlt : k < A.length
    · have hlt' : k < B.length := by omega
      have HS := Lib.hid (take_eq_snoc A B k hlt hlt' hn)
      have hp := hidx k hlt
      have hcell := (hc k hlt).2
      have hp' := hidx' k hlt'
      have hcell' := (hc' k hlt').2
      clear hidx hc hidx' hc' hn
      go_wp2
      go_quiet (fail)
      go_wp2
      · go_ret
        have h : (A[k] != B[k]) = true := by assumption
        refine ⟨ret_bool ?_, n + nq, by simp⟩
        symm
        rw [beq_eq_false_iff_ne]
        rintro rfl
        simp at h
      · go_roundw
        case rel =>
         have h : (A[k] != B[k]) = false := by assumption
         exact ⟨k + 1, by omega, by go_num, HS.out.2 (by simpa using h), n + nq, rfl⟩
        case measure => simp [intOf]; omega
    · have HE : Hid (A = B) := by
       rw [List.take_of_length_le (by omega), List.take_of_length_le (by omega)] at hn
       exact hn
      clear hidx hc hidx' hc' hn
      go_wp2
      go_ret
      exact ⟨ret_bool (by simp [HE.out]), n, rfl⟩
 · have hne : ((A.length : Int) != (B.length : Int)) = true := by rw [bne_iff_ne]; omega
   have HL := Lib.hid hl
   clear hl
   go_enter Tryz.func21, Tryz.ntmps21
   go_wp2
   go_ret
   refine ⟨ret_bool ?_, 0, rfl⟩
   symm
   rw [beq_eq_false_iff_ne]
   rintro rfl
   exact HL.out rfl

end Go.Proofs.YthcdppppppgckaaGreatDoor

namespace Go.Proofs.YthcdppppppgckaaGreatDoor
open Go.RowKit Go.Lib Go.Sort
set_option maxRecDepth 20000

theorem compactUpTo_mem (d : Array Int) : ∀ m x, x ∈ compactUpTo d m ↔ ∃ j, j < m ∧ x = d[j]!
 | 0, x => by simp [compactUpTo]
 | m + 1, x => by
   rw [compactUpTo_succ, List.mem_append, compactUpTo_mem d m x]
   by_cases hk : keeps d m
   · rw [if_pos hk, List.mem_singleton]
     constructor
     · rintro (⟨j, hj, e⟩ | e)
       · exact ⟨j, by omega, e⟩
       · exact ⟨m, by omega, e⟩
     · rintro ⟨j, hj, e⟩
       by_cases hjm : j = m
       · subst hjm; exact .inr e
       · exact .inl ⟨j, by omega, e⟩
   · rw [if_neg hk]
     have hk' : ¬ (m = 0 ∨ d[m]! ≠ d[m - 1]!) := by simpa [keeps] using hk
     constructor
     · rintro (⟨j, hj, e⟩ | e)
       · exact ⟨j, by omega, e⟩
       · cases e
     · rintro ⟨j, hj, e⟩
       refine .inl ?_
       by_cases hjm : j = m
       · subst hjm
         refine ⟨j - 1, by omega, ?_⟩
         rw [e]
         by_cases h0 : d[j]! = d[j - 1]!
         · exact h0
         · exact absurd (.inr h0) hk'
       · exact ⟨j, by omega, e⟩

theorem compactUpTo_rises (d : Array Int) (hs : ∀ i j, i ≤ j → j < d.size → d[i]! ≤ d[j]!) : ∀ m, m ≤ d.size → (compactUpTo d m).Pairwise (· < ·)
 | 0, _ => by simp [compactUpTo]
 | m + 1, hm => by
   rw [compactUpTo_succ]
   refine List.pairwise_append.2 ⟨compactUpTo_rises d hs m (by omega), ?_, ?_⟩
   · split <;> simp
   · intro x hx y hy
     by_cases hk : keeps d m
     · rw [if_pos hk, List.mem_singleton] at hy
       subst hy
       obtain ⟨j, hj, rfl⟩ := (compactUpTo_mem d m x).1 hx
       have hk' : m = 0 ∨ d[m]! ≠ d[m - 1]! := by simpa [keeps] using hk
       have h1 := hs j (m - 1) (by omega) (by omega)
       have h2 := hs (m - 1) m (by omega) (by omega)
       rcases hk' with h | h
       · omega
       · omega
     · rw [if_neg hk] at hy; cases hy

theorem compact_mem (zs : List Int) (x : Int) : x ∈ compact zs ↔ x ∈ zs := by
 unfold compact
 rw [compactUpTo_mem]
 constructor
 · rintro ⟨j, hj, rfl⟩
   simp [hj]
 · intro h
   obtain ⟨j, hj, e⟩ := List.getElem_of_mem h
   exact ⟨j, hj, by simp [hj, e]⟩

theorem compact_rises (zs : List Int) (h : zs.Pairwise (· ≤ ·)) : (compact zs).Pairwise (· < ·) := by
 refine compactUpTo_rises _ (fun i j hij hj => ?_) _ (by simp)
 have hj' : j < zs.length := by simpa using hj
 by_cases e : i = j
 · subst e; exact Int.le_refl _
 · simp [hj', show i < zs.length by omega]
   exact List.pairwise_iff_getElem.1 h i j (by omega) hj' (by omega)

theorem sorted_le (zs : List Int) : (zs.mergeSort fun x y => decide (x ≤ y)).Pairwise (· ≤ ·) := by
 have := List.pairwise_mergeSort (le := fun (x y : Int) => decide (x ≤ y)) (fun a b c h1 h2 => by simp at *; omega) (fun a b => by simp; omega) zs
 simpa using this

theorem Ints.cutTo {w : World} {a : Addr} {cap : Nat} {L : List Int} (n : Nat) (hn : n ≤ L.length) (h : Ints w (.slice (some a) L.length cap) L) : Ints w (.slice (some a) n cap) (L.take n) := by
 obtain ⟨ao, cap', b, off, e, h0, h1, h2, h3⟩ := h
 have hl : (L.take n).length = n := by rw [List.length_take]; omega
 by_cases hz : n = 0
 · subst hz
   exact ⟨some a, cap, b, off, by simp, .inl (by simp), by simp, by simp, fun k hk => by simp at hk⟩
 · rcases h0 with h0 | h0
   · subst h0; simp at hn; omega
   · subst h0
     simp at e
     obtain ⟨rfl, rfl⟩ := e
     refine ⟨_, cap, b, off, by rw [hl], .inr rfl, by omega, fun x hx => h2 x (List.mem_of_mem_take hx), fun k hk => ?_⟩
     rw [hl] at hk
     obtain ⟨h4, h5⟩ := h3 k (by omega)
     refine ⟨h4, ?_⟩
     rw [h5]
     simp [List.getD_eq_getElem?_getD, hk]

end Go.Proofs.YthcdppppppgckaaGreatDoor

namespace Go.Proofs.YthcdppppppgckaaGreatDoor
open Go.RowKit Go.Lib Go.Sort
set_option maxRecDepth 20000
set_option maxRecDepth 20000

theorem Ints.shape {w : World} {v : Value} {L : List Int} (h : Ints w v L) : ∃ a n c, v = .slice a n c := by
 obtain ⟨ao, cap, b, off, rfl, _⟩ := h
 exact ⟨_, _, _, rfl⟩

theorem member_any (p : Pt) (vt vp : Value) (x : Int) (w : World) (ht : Ints w vt p.tagged) (hp : Ints w vp p.plain) :
 Calls Tryz.prog 110 #[.agg #[.int .i64 p.default_, vt, vp], .int .i64 x] w fun e w' => e = .returned (.bool (p.member x)) ∧ Below w.heap.size w w' := by
 obtain ⟨W1, hW1⟩ : ∃ W, w.alloc (.cells #[.int .i64 p.default_, vt, vp] 56) = W := ⟨_, rfl⟩
 have hb : Below w.heap.size w W1 := by rw [← hW1]; exact (Below.refl _ _).alloc (Nat.le_refl _) _
 have hx : CBox W1 w.heap.size 56 #[.int .i64 p.default_, vt, vp] := by rw [← hW1]; exact CBox.new _ rfl
 have H1 := Lib.hid (contains_any vt p.tagged x W1 (ht.mono hb))
 have H2 := Lib.hid (contains_any vp p.plain x W1 (hp.mono hb))
 have HB := Lib.hid hb; have HW := Lib.hid hW1
 obtain ⟨ao, an, ac, rfl⟩ := ht.shape
 obtain ⟨bo, bn, bc, rfl⟩ := hp.shape
 obtain ⟨c0, cf0⟩ := CBox.at_ hx 0 _ rfl
 obtain ⟨c1, cf1⟩ := CBox.at_ hx 1 _ rfl
 obtain ⟨c2, cf2⟩ := CBox.at_ hx 2 _ rfl
 clear hx hb hW1 ht hp
 unfold Pt.member
 cases q1 : p.tagged.contains x
 · rw [q1] at H1
   obtain ⟨r, hr⟩ : ∃ r, p.plain.contains x = r := ⟨_, rfl⟩
   rw [hr] at H2
   rw [Bool.false_or, hr]
   clear hr q1
   go_enter Tryz.func110, Tryz.ntmps110
   go_upto_region 1 with fail
   rw [HW.out]
   go_wp2_with (first | ((with_reducible refine H1.out.mono ?_); rintro e w2 ⟨rfl, hw2⟩; subst w2) | ((with_reducible refine H2.out.mono ?_); rintro e w2 ⟨rfl, hw2⟩; subst w2))
   go_ret
   exact ⟨rfl, HB.out⟩
 · rw [q1] at H1
   rw [Bool.true_or]
   clear q1 H2
   go_enter Tryz.func110, Tryz.ntmps110
   go_upto_region 1 with fail
   rw [HW.out]
   go_wp2_with ((with_reducible refine H1.out.mono ?_); rintro e w2 ⟨rfl, hw2⟩; subst w2)
   go_ret
   exact ⟨rfl, HB.out⟩

def lastD : Int → List Int → Int
 | a, [] => a
 | _, v :: l => lastD v l
theorem lastD_snoc : ∀ (l : List Int) (a v : Int), lastD a (l ++ [v]) = v
 | [], _, _ => rfl
 | x :: l, _, v => lastD_snoc l x v
theorem risesGo_snoc : ∀ (l : List Int) (a v : Int), risesGo a (l ++ [v]) = (risesGo a l && (decide (lastD a l < v) && decide (v ≤ 4094)))
 | [], a, v => by
   show (decide (a < v) && decide (v ≤ 4094) && true) = (true && (decide (a < v) && decide (v ≤ 4094)))
   rw [Bool.and_true, Bool.true_and]
 | x :: l, a, v => by
   show (decide (a < x) && decide (x ≤ 4094) && risesGo x (l ++ [v])) = _
   rw [risesGo_snoc l x v]
   show _ = (decide (a < x) && decide (x ≤ 4094) && risesGo x l && (decide (lastD x l < v) && decide (v ≤ 4094)))
   rw [Bool.and_assoc (decide (a < x) && decide (x ≤ 4094))]
theorem risesGo_left : ∀ (l r : List Int) (a : Int), risesGo a l = false → risesGo a (l ++ r) = false
 | [], _, _, h => by cases h
 | x :: l, r, a, h => by
   show (decide (a < x) && decide (x ≤ 4094) && risesGo x (l ++ r)) = false
   have h' : (decide (a < x) && decide (x ≤ 4094) && risesGo x l) = false := h
   cases q : (decide (a < x) && decide (x ≤ 4094))
   · rfl
   · rw [q, Bool.true_and] at h'
     rw [risesGo_left l r x h', Bool.and_false]
theorem risesGo_bad {L : List Int} {k : Nat} (hk : k < L.length) (h : (decide (lastD 0 (L.take k) < L[k]) && decide (L[k] ≤ 4094)) = false) : risesV L = false := by
 have e : L = L.take (k + 1) ++ L.drop (k + 1) := (List.take_append_drop _ _).symm
 unfold risesV
 rw [e]
 refine risesGo_left _ _ _ ?_
 rw [take_snoc L k hk, risesGo_snoc, h, Bool.and_false]

set_option maxHeartbeats 1000000 in
theorem rises_any (v : Value) (L : List Int) (w : World) (h : Ints w v L) :
 Calls Tryz.prog 146 #[v] w fun e w' => e = .returned (.bool (risesV L)) ∧ w = w' := by
 obtain ⟨b, off, hm, hlen, hidx, hc⟩ := h.facts
 clear h
 go_enter Tryz.func146, Tryz.ntmps146
 go_wp2_with fail
 go_loop [3, 5, 8] (fun a _ i => ∃ k : Nat, k ≤ L.length ∧ i = .int .i64 k ∧ a = .int .i64 (lastD 0 (L.take k)) ∧ risesV (L.take k) = true) (fun _ _ i => L.length - (intOf i).toNat)
 case atStart => exact ⟨0, Nat.zero_le _, rfl, rfl, rfl⟩
 case round =>
  obtain ⟨k, hk, rfl, rfl, hn⟩ := hrel
  by_cases hlt : k < L.length
  · have HBD := Lib.hid (fun h => risesGo_bad hlt h)
    have HS := Lib.hid (show risesV (L.take (k + 1)) = (decide (lastD 0 (L.take k) < L[k]) && decide (L[k] ≤ 4094)) from by unfold risesV at hn ⊢; rw [take_snoc L k hlt, risesGo_snoc, hn, Bool.true_and])
    have HL := Lib.hid (show lastD 0 (L.take (k + 1)) = L[k] from by rw [take_snoc L k hlt, lastD_snoc])
    have hp := hidx k hlt
    have hcell := (hc k hlt).2
    rw [show L.getD k 0 = L[k] from by simp [List.getD_eq_getElem?_getD, hlt]] at hcell
    obtain ⟨x, hx⟩ : ∃ x, L[k] = x := ⟨_, rfl⟩
    obtain ⟨a, ha⟩ : ∃ a, lastD 0 (L.take k) = a := ⟨_, rfl⟩
    rw [hx] at hcell HBD HS HL
    rw [ha] at HBD HS ⊢
    clear hidx hc hn hx ha
    cases q1 : decide (x ≤ a)
    · have e1 : decide (a < x) = true := by have := of_decide_eq_false q1; exact decide_eq_true (by omega)
      cases q2 : decide (4094 < x)
      · have e2 : decide (x ≤ 4094) = true := by have := of_decide_eq_false q2; exact decide_eq_true (by omega)
        rw [e1, e2] at HS
        clear HBD e1 e2
        go_wp2_with fail
        go_round
        case rel => exact ⟨k + 1, by omega, by go_num, by rw [HL.out], HS.out⟩
        case measure => simp [intOf]; omega
      · have e2 : decide (x ≤ 4094) = false := by have := of_decide_eq_true q2; exact decide_eq_false (by omega)
        have HR := Lib.hid (HBD.out (by rw [e2, Bool.and_false]))
        clear HBD e1 e2 HS
        go_wp2_with fail
        go_ret
        exact ⟨by rw [HR.out]; rfl, rfl⟩
    · have e1 : decide (a < x) = false := by have := of_decide_eq_true q1; exact decide_eq_false (by omega)
      have HR := Lib.hid (HBD.out (by rw [e1, Bool.false_and]))
      clear HBD e1 HS
      go_wp2_with fail
      go_ret
      exact ⟨by rw [HR.out]; rfl, rfl⟩
  · have HR : Hid (risesV L = true) := by rw [List.take_of_length_le (by omega)] at hn; exact hn
    clear hidx hc hn
    go_wp2
    go_ret
    exact ⟨by rw [HR.out]; rfl, rfl⟩


theorem any_take {pr : Int → Bool} {L : List Int} {k : Nat} (hk : k < L.length) (h : (L.take k).any pr = false) : (L.take (k + 1)).any pr = pr L[k] := by
 rw [take_snoc L k hk, List.any_append, h]
 simp
def firstAt (pr : Int → Bool) (L : List Int) (n : Int) : Prop := (n = -1 ∧ L.any pr = false) ∨ (0 ≤ n ∧ L.any pr = true)
def RetFirst (w : World) (pr : Int → Bool) (L : List Int) (e : Ending) (w' : World) : Prop := ∃ n, firstAt pr L n ∧ e = .returned (.int .i64 n) ∧ Below w.heap.size w w'
set_option maxHeartbeats 2000000 in
theorem indexFunc_any (v : Value) (L : List Int) (f : Nat) (caps : Array Value) (pr : Int → Bool) (w : World) (h : Ints w v L) (hcf : ∀ args w', (callFunc f args).run Tryz.prog w' = .ok (.enter f args) w')
 (hf : ∀ x W, Below w.heap.size w W → Calls Tryz.prog f (#[.int .i64 x] ++ caps) W fun e w' => e = .returned (.bool (pr x)) ∧ Below W.heap.size W w') :
 Calls Tryz.prog 209 #[v, .func (.func f) #[] caps] w (RetFirst w pr L) := by
 obtain ⟨b, off, hm, hlen, hidx, hc⟩ := h.facts
 have HH := Lib.hid h
 have HF := Lib.hid hf
 clear h hf
 go_enter Tryz.func209, Tryz.ntmps209
 go_wp2_with fail
 go_loopw [5, 8] (fun _ i wr => ∃ k : Nat, k ≤ L.length ∧ i = .int .i64 (k : Nat) ∧ (L.take k).any pr = false ∧ Below w.heap.size w wr) (fun _ i _ => L.length - (intOf i).toNat)
 case atStart => exact ⟨0, Nat.zero_le _, rfl, rfl, Below.refl _ _⟩
 case round =>
  obtain ⟨k, hk, rfl, hn, hb⟩ := hrel
  by_cases hlt : k < L.length
  · have HS := Lib.hid (any_take hlt hn)
    have HB := Lib.hid hb
    have hp := hidx k hlt
    have hcell := (HB.out.cell (p := ⟨b, off + k, none⟩) (hc k hlt).1).trans (hc k hlt).2
    rw [show L.getD k 0 = L[k] from by simp [List.getD_eq_getElem?_getD, hlt]] at hcell
    have HM := Lib.hid (show pr L[k] = true → L.any pr = true from fun q => List.any_eq_true.2 ⟨_, List.getElem_mem hlt, q⟩)
    obtain ⟨x, hx⟩ : ∃ x, L[k] = x := ⟨_, rfl⟩
    rw [hx] at hcell HS HM
    have HC := Lib.hid (HF.out x wr hb)
    clear hidx hc hn hx hb
    cases q : pr x
    · rw [q] at HC HS
      clear HM
      go_wp2_with ((with_reducible refine HC.out.mono ?_); rintro e w2 ⟨rfl, hb2⟩; have HB2 := Lib.hid (HB.out.trans (hb2.mono HB.out.size)); clear hb2)
      go_roundw
      case rel => exact ⟨k + 1, by omega, by go_num, HS.out, HB2.out⟩
      case measure => simp [intOf]; omega
    · rw [q] at HC
      have HR := Lib.hid (HM.out q)
      clear HS HM q
      go_wp2_with ((with_reducible refine HC.out.mono ?_); rintro e w2 ⟨rfl, hb2⟩; have HB2 := Lib.hid (HB.out.trans (hb2.mono HB.out.size)); clear hb2)
      go_ret
      exact ⟨k, .inr ⟨by omega, HR.out⟩, rfl, HB2.out⟩
  · have HR : Hid (L.any pr = false) := by rw [List.take_of_length_le (by omega)] at hn; exact hn
    have HB := Lib.hid hb
    clear hidx hc hn hb
    go_wp2_with fail
    go_ret
    exact ⟨-1, .inl ⟨rfl, HR.out⟩, rfl, HB.out⟩
theorem containsFunc_any (v : Value) (L : List Int) (f : Nat) (caps : Array Value) (pr : Int → Bool) (w : World) (h : Ints w v L) (hcf : ∀ args w', (callFunc f args).run Tryz.prog w' = .ok (.enter f args) w')
 (hf : ∀ x W, Below w.heap.size w W → Calls Tryz.prog f (#[.int .i64 x] ++ caps) W fun e w' => e = .returned (.bool (pr x)) ∧ Below W.heap.size W w') :
 Calls Tryz.prog 147 #[v, .func (.func f) #[] caps] w fun e w' => e = .returned (.bool (L.any pr)) ∧ Below w.heap.size w w' := by
 have HC := Lib.hid (indexFunc_any v L f caps pr w h hcf hf)
 obtain ⟨r, hr⟩ : ∃ r, L.any pr = r := ⟨_, rfl⟩
 have HR := Lib.hid hr
 rw [hr]
 clear hr h hcf hf
 go_enter Tryz.func147, Tryz.ntmps147
 go_wp2_with ((with_reducible refine HC.out.mono ?_); rintro e w2 ⟨n, hn, rfl, hb2⟩; have HB2 := Lib.hid hb2; have HN := Lib.hid hn; clear hb2 hn)
 go_ret
 refine ⟨?_, HB2.out⟩
 rcases HN.out with ⟨rfl, h⟩ | ⟨h0, h⟩
 · rw [h] at HR; rw [← HR.out]; rfl
 · rw [h] at HR; rw [← HR.out]; simp [h0]
end Go.Proofs.YthcdppppppgckaaGreatDoor
