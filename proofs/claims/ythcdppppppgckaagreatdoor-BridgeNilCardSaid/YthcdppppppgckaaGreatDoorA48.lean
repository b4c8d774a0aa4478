/- Texts joined into one file: BZe, BCk, BMk. -/
import Derived.Test.YthcdppppppgckaaGreatDoorA03
import Derived.Test.YthcdppppppgckaaGreatDoorA46
import Derived.Test.YthcdppppppgckaaGreatDoorA47
import Derived.Test.YthcdppppppgckaaGreatDoorA09
import Derived.Test.YthcdppppppgckaaGreatDoorA38
import Derived.Test.YthcdppppppgckaaGreatDoorA44
import Derived.Test.YthcdppppppgckaaGreatDoorA32

namespace Go.Proofs.YthcdppppppgckaaGreatDoor
open Go.RowKit Go.Lib Go.Maps Go.Sort
set_option maxRecDepth 20000
set_option maxRecDepth 20000
attribute [local go_sem] bstr_size bstr_toList

def zerosB (s : Str) : Bool := s.all (· == 0)
theorem dropWhile_nil {l : Str} : l.dropWhile (· == 0) = [] ↔ ∀ x ∈ l, x = 0 := by
 induction l with
 | nil => simp
 | cons a l ih =>
   rw [List.dropWhile_cons]
   cases h : a == 0
   · simp only [Bool.false_eq_true, if_false]
     refine ⟨fun q => (by cases q), fun q => ?_⟩
     have := q a (by simp)
     rw [this] at h
     simp at h
   · simp only [if_true]
     rw [ih]
     have := eq_of_beq h
     simp [this]
theorem trimB_zeros (s : Str) : (trimB s 0).isEmpty = zerosB s := by
 have h : trimB s 0 = [] ↔ ∀ x ∈ s, x = 0 := by
  unfold trimB trimLeftB trimRightB
  rw [dropWhile_nil]
  refine ⟨fun q => ?_, fun q => ?_⟩
  · by_cases hd : s.reverse.dropWhile (· == 0) = []
    · rw [dropWhile_nil] at hd
      exact fun x hx => hd x (List.mem_reverse.2 hx)
    · exfalso
      obtain ⟨a, l, e⟩ := List.exists_cons_of_ne_nil hd
      have ha := q a (by rw [e]; simp)
      have := List.head_dropWhile_not (p := fun x : UInt8 => x == 0) (l := s.reverse) (by rw [e]; simp)
      simp only [e, List.head_cons, ha] at this
      simp at this
  · have hd : s.reverse.dropWhile (· == 0) = [] := dropWhile_nil.2 fun x hx => q x (List.mem_reverse.1 hx)
    rw [hd]
    simp
 unfold zerosB
 cases hz : s.all (· == 0)
 · rw [List.isEmpty_eq_false_iff]
   intro hn
   have := h.1 hn
   rw [List.all_eq_false] at hz
   obtain ⟨x, hx, hne⟩ := hz
   exact hne (by simp [this x hx])
 · rw [List.isEmpty_iff, h]
   intro x hx
   have := List.all_eq_true.1 hz x hx
   exact eq_of_beq this
theorem zeros_any (s : Str) (w : World) (hs : s.length ≤ maxLen) :
 Calls Tryz.prog 83 #[.string (bstr s)] w fun e w' => e = .returned (.bool (zerosB s)) ∧ Below w.heap.size w w' := by
 have hT := Tryz.strings_Trim_one (bstr s) 0 (by decide) w (by rw [bstr_size]; unfold maxLen at hs; omega)
 have HT := Lib.hid (show Calls Tryz.prog 150 #[.string (bstr s), .string ⟨#[0]⟩] w fun e w' => e = .returned (.string (bstr (trimB s 0))) ∧ Below w.heap.size w w' from by
  refine hT.mono ?_
  rintro e w' ⟨rfl, hw⟩
  refine ⟨?_, ?_⟩
  · rw [show (bstr s).data.toList = s from bstr_data s, bstr_eq]
  · rcases hw with rfl | rfl
    · exact Below.refl _ _
    · exact Below.drew (Below.refl _ _))
 have HZ := Lib.hid (trimB_zeros s)
 obtain ⟨t, ht⟩ : ∃ t, trimB s 0 = t := ⟨_, rfl⟩
 rw [ht] at HT HZ
 obtain ⟨z, hz⟩ : ∃ z, zerosB s = z := ⟨_, rfl⟩
 rw [hz] at HZ ⊢
 clear hT hs ht hz
 go_enter Tryz.func83, Tryz.ntmps83
 go_wp2_with ((with_reducible refine HT.out.mono ?_); rintro e w2 ⟨rfl, hb2⟩; have HB2 := Lib.hid hb2; clear hb2)
 go_ret
 exact ⟨by rw [← HZ.out]; rfl, HB2.out⟩
def selfB (s : Str) (n : Nat) : Bool := s.isEmpty || (decide (s.length = n) && !zerosB s)
theorem isself_any (s : Str) (n : Nat) (hn : n ≤ 1000) (w : World) : Calls Tryz.prog 30 #[.string (bstr s), .int .i64 (n : Nat)] w fun e w' => e = .returned (.bool (selfB s n)) ∧ Below w.heap.size w w' := by
 cases s with
 | nil =>
   rw [bstr_nil]
   go_enter Tryz.func30, Tryz.ntmps30
   go_wp2
   go_ret
   exact ⟨rfl, Below.refl _ _⟩
 | cons c r =>
   have e1 : (c :: r).isEmpty = false := rfl
   have e2 : ((bstr (c :: r)).toList == ([] : Str)) = false := by rw [bstr_toList]; rfl
   cases hl : ((c :: r).length == n)
   · have hz : selfB (c :: r) n = false := by
      unfold selfB
      rw [e1, decide_eq_false (by simpa using hl)]
      rfl
     have hl2 : (((c :: r).length : Int) == (n : Int)) = false := by
      rw [beq_eq_false_iff_ne] at hl ⊢
      omega
     rw [hz]
     clear hz hl
     obtain ⟨m, hm⟩ : ∃ m, (c :: r).length = m := ⟨_, rfl⟩
     have hsz : (bstr (c :: r)).size = m := by rw [bstr_size, hm]
     rw [hm] at hl2
     clear hm
     go_enter Tryz.func30, Tryz.ntmps30
     go_wp2
     go_ret
     exact ⟨rfl, Below.refl _ _⟩
   · have hl' : (c :: r).length = n := by simpa using hl
     have HZ := Lib.hid (zeros_any (c :: r) w (by unfold maxLen; omega))
     have hz : selfB (c :: r) n = !zerosB (c :: r) := by
      unfold selfB
      rw [e1, decide_eq_true hl']
      rfl
     rw [hz]
     obtain ⟨z, hzz⟩ : ∃ z, zerosB (c :: r) = z := ⟨_, rfl⟩
     rw [hzz] at HZ ⊢
     have hl2 : (((c :: r).length : Int) == (n : Int)) = true := by rw [hl']; simp
     clear hz hl hl' hzz
     obtain ⟨m, hm⟩ : ∃ m, (c :: r).length = m := ⟨_, rfl⟩
     have hsz : (bstr (c :: r)).size = m := by rw [bstr_size, hm]
     rw [hm] at hl2
     clear hm
     go_enter Tryz.func30, Tryz.ntmps30
     go_wp2_with ((with_reducible refine HZ.out.mono ?_); rintro e w2 ⟨rfl, hb2⟩; have HB2 := Lib.hid hb2; clear hb2)
     go_ret
     exact ⟨rfl, HB2.out⟩
theorem isself_4 (s : Str) (w : World) : Calls Tryz.prog 30 #[.string (bstr s), .int .i64 4] w fun e w' => e = .returned (.bool (selfB s 4)) ∧ Below w.heap.size w w' := isself_any s 4 (by decide) w
theorem isself_16 (s : Str) (w : World) : Calls Tryz.prog 30 #[.string (bstr s), .int .i64 16] w fun e w' => e = .returned (.bool (selfB s 16)) ∧ Below w.heap.size w w' := isself_any s 16 (by decide) w

def ccells (c : Cfg) (vc vp : Value) : Array Value := #[.int .u64 c.id, vc, vp, .string (bstr c.self4), .string (bstr c.self6), .int .i64 c.every, .int .i64 c.robust, .int .i64 c.member, .int .i64 c.last, .int .i64 c.age, .int .i64 c.room, .bool c.flood, .bool c.fast]
def encC (c : Cfg) (vc vp : Value) : Value := .agg (ccells c vc vp)
structure CfgIn (w : World) (R : Nat → Prop) (c : Cfg) (vc vp : Value) : Prop where
 costs : Ints w vc c.costs
 ports : Pts R w vp c.ports
theorem CfgIn.mono {w w' : World} {R : Nat → Prop} {c : Cfg} {vc vp : Value} (h : CfgIn w R c vc vp) (hb : Below w.heap.size w w') : CfgIn w' R c vc vp := ⟨h.costs.mono hb, h.ports.mono hb⟩
def VlOk (l : List Pt) : Prop := ∀ R : List Int, R.Pairwise (· < ·) → (∀ x, x ∈ R ↔ x ∈ allV l) → R.length ≤ 20
structure CfgOk (c : Cfg) : Prop where
 costs : costsOk c.costs = true
 check : vCheck c.ports = 0
 len : c.costs.length = c.ports.length
 vl : VlOk c.ports
 self4 : selfB c.self4 4 = true
 self6 : selfB c.self6 16 = true
 every : inBetween c.every 4 1000 = true
 robust : inBetween c.robust 1 7 = true
 member : inBetween c.member 1 1000 = true
 last : inBetween c.last 1 1000 = true
 age : inBetween c.age 1 10000 = true
 room : inBetween c.room 1 1000 = true
theorem fine_len {l : List Pt} (h : vCheck l = 0) : l.length ≤ 16 := by
 unfold vCheck at h
 split at h
 · rename_i q; exact q.2.1
 · cases h
theorem rises_len : ∀ (l : List Int) (a : Int), risesGo a l = true → a + l.length ≤ max a 4094
 | [], a, _ => by simp; omega
 | v :: l, a, h => by
   unfold risesGo at h
   simp only [Bool.and_eq_true, decide_eq_true_eq] at h
   have := rises_len l v h.2
   rw [List.length_cons]
   omega
theorem fine_lens {l : List Pt} (h : vCheck l = 0) : ∀ p ∈ l, p.tagged.length ≤ 1000000 ∧ p.plain.length ≤ 1000000 := fun p hp => by
 unfold vCheck at h
 split at h
 · rename_i q
   have hf := List.all_eq_true.1 q.2.2 p hp
   unfold Pt.fine risesV at hf
   simp only [Bool.and_eq_true] at hf
   have h1 := rises_len _ _ hf.1.1.1
   have h2 := rises_len _ _ hf.1.1.2
   omega
 · cases h
theorem rises_uniq : ∀ {R S : List Int}, R.Pairwise (· < ·) → S.Pairwise (· < ·) → (∀ x, x ∈ R ↔ x ∈ S) → R = S
 | [], [], _, _, _ => rfl
 | [], b :: S, _, _, h => absurd ((h b).2 (by simp)) (by simp)
 | a :: R, [], _, _, h => absurd ((h a).1 (by simp)) (by simp)
 | a :: R, b :: S, h1, h2, h => by
   obtain ⟨p1, q1⟩ := List.pairwise_cons.1 h1
   obtain ⟨p2, q2⟩ := List.pairwise_cons.1 h2
   have e : a = b := by
    rcases List.mem_cons.1 ((h a).1 (by simp)) with e | e
    · exact e
    · rcases List.mem_cons.1 ((h b).2 (by simp)) with e' | e'
      · exact e'.symm
      · have := p1 b e'; have := p2 a e; omega
   subst e
   rw [rises_uniq q1 q2 fun x => ?_]
   refine ⟨fun hx => ?_, fun hx => ?_⟩
   · rcases List.mem_cons.1 ((h x).1 (by simp [hx])) with e | e
     · subst e; have := p1 x hx; omega
     · exact e
   · rcases List.mem_cons.1 ((h x).2 (by simp [hx])) with e | e
     · subst e; have := p2 x hx; omega
     · exact e
def RetNm (n : Int) (w : World) (e : Ending) (w' : World) : Prop := e = .returned (.int .i64 n) ∧ Below w.heap.size w w'

set_option maxHeartbeats 8000000 in
theorem check_bad0 (R : Nat → Prop) (c : Cfg) (vc vp : Value) (w : World) (h : CfgIn w R c vc vp) (h_costs : costsOk c.costs = false) :
 Calls Tryz.prog 10 #[encC c vc vp] w (RetNm 3 w) := by
 obtain ⟨W1, hW1⟩ : ∃ W, w.alloc (.cells (ccells c vc vp) 32) = W := ⟨_, rfl⟩
 obtain ⟨q0, hq0⟩ : ∃ q, w.heap.size = q := ⟨_, rfl⟩
 have hb1 : Below w.heap.size w W1 := by rw [← hW1]; exact (Below.refl _ _).alloc (Nat.le_refl _) _
 have hx1 : CBox W1 q0 32 (ccells c vc vp) := by rw [← hW1]; exact CBox.new _ hq0.symm
 have HT := Lib.hid (tnewt_any c.id vc c.costs W1 (h.costs.mono hb1))
 have HC := Lib.hid h_costs
 obtain ⟨ao, an, ac, rfl⟩ := h.costs.shape
 obtain ⟨bo, bc, rfl⟩ := h.ports.shape
 obtain ⟨n, hn⟩ : ∃ n, c.ports.length = n := ⟨_, rfl⟩
 have X1 := Lib.hid hx1; have B1 := Lib.hid hb1; have HW1 := Lib.hid hW1; have HQ0 := Lib.hid hq0
 obtain ⟨id, costs, ports, s4, s6, ev, rb, me, la, ag, ro, fl, fa⟩ := c
 unfold encC
 unfold ccells at HW1 X1 ⊢
 dsimp only at HT HC hn HW1 X1 ⊢
 rw [hn] at X1 HW1 ⊢
 clear h hW1 hq0 hb1 hx1 hn h_costs
 go_enter Tryz.func10, Tryz.ntmps10
 go_upto_region 1 with fail
 rw [HW1.out, HQ0.out]
 obtain ⟨c0, cf0⟩ := CBox.at_ X1.out 0 _ rfl
 obtain ⟨c1, cf1⟩ := CBox.at_ X1.out 1 _ rfl
 obtain ⟨c2, cf2⟩ := CBox.at_ X1.out 2 _ rfl
 obtain ⟨c3, cf3⟩ := CBox.at_ X1.out 3 _ rfl
 obtain ⟨c4, cf4⟩ := CBox.at_ X1.out 4 _ rfl
 obtain ⟨c5, cf5⟩ := CBox.at_ X1.out 5 _ rfl
 obtain ⟨c6, cf6⟩ := CBox.at_ X1.out 6 _ rfl
 obtain ⟨c7, cf7⟩ := CBox.at_ X1.out 7 _ rfl
 obtain ⟨c8, cf8⟩ := CBox.at_ X1.out 8 _ rfl
 obtain ⟨c9, cf9⟩ := CBox.at_ X1.out 9 _ rfl
 obtain ⟨c10, cf10⟩ := CBox.at_ X1.out 10 _ rfl
 obtain ⟨c11, cf11⟩ := CBox.at_ X1.out 11 _ rfl
 obtain ⟨c12, cf12⟩ := CBox.at_ X1.out 12 _ rfl
 go_wp2_with ((with_reducible refine HT.out.mono ?_); rintro e w2 ⟨hb2, ⟨_, rfl⟩ | ⟨hk, _⟩⟩; rotate_left; (rw [HC.out] at hk; cases hk); have B2 := Lib.hid (B1.out.trans (hb2.mono B1.out.size)); clear hb2)
 go_ret
 exact ⟨rfl, B2.out⟩
set_option maxHeartbeats 8000000 in
theorem check_good0 (R : Nat → Prop) (c : Cfg) (vc vp : Value) (w : World) (h : CfgIn w R c vc vp) (h_costs : costsOk c.costs = true) (h_check : vCheck c.ports = 0) (h_len : c.costs.length = c.ports.length) (h_vl : VlOk c.ports) (h_self4 : selfB c.self4 4 = true) (h_self6 : selfB c.self6 16 = true) (h_every : inBetween c.every 4 1000 = true) (h_robust : inBetween c.robust 1 7 = true) (h_member : inBetween c.member 1 1000 = true) (h_last : inBetween c.last 1 1000 = true) (h_age : inBetween c.age 1 10000 = true) (h_room : inBetween c.room 1 1000 = true) :
 Calls Tryz.prog 10 #[encC c vc vp] w (RetNm 0 w) := by
 obtain ⟨W1, hW1⟩ : ∃ W, w.alloc (.cells (ccells c vc vp) 32) = W := ⟨_, rfl⟩
 obtain ⟨q0, hq0⟩ : ∃ q, w.heap.size = q := ⟨_, rfl⟩
 have hb1 : Below w.heap.size w W1 := by rw [← hW1]; exact (Below.refl _ _).alloc (Nat.le_refl _) _
 have hx1 : CBox W1 q0 32 (ccells c vc vp) := by rw [← hW1]; exact CBox.new _ hq0.symm
 have HT := Lib.hid (tnewt_any c.id vc c.costs W1 (h.costs.mono hb1))
 have HC := Lib.hid h_costs
 have HV := Lib.hid (fun W (hW : Below W1.heap.size W1 W) => vcheck_any R vp c.ports W ((h.ports.mono hb1).mono hW))
 rw [h_check] at HV
 obtain ⟨_, _, _, lc, _, _⟩ := h.costs.facts
 obtain ⟨_, _, _, lp, _, _⟩ := h.ports.facts
 rw [h_len] at lc
 have HVL := Lib.hid (fun W (hW : Below W1.heap.size W1 W) => vlans_any R vp c.ports W ((h.ports.mono hb1).mono hW) (by have := fine_len h_check; omega) (fine_lens h_check))
 have HVM := Lib.hid h_vl
 have HS4 := Lib.hid (fun W => isself_4 c.self4 W)
 rw [h_self4] at HS4
 have HS6 := Lib.hid (fun W => isself_16 c.self6 W)
 rw [h_self6] at HS6
 have H6 := Lib.hid (fun W => bwithin_any c.every 4 1000 W)
 rw [h_every] at H6
 have H7 := Lib.hid (fun W => bwithin_any c.robust 1 7 W)
 rw [h_robust] at H7
 have H8 := Lib.hid (fun W => bwithin_any c.member 1 1000 W)
 rw [h_member] at H8
 have H9 := Lib.hid (fun W => bwithin_any c.last 1 1000 W)
 rw [h_last] at H9
 have H10 := Lib.hid (fun W => bwithin_any c.age 1 10000 W)
 rw [h_age] at H10
 have H11 := Lib.hid (fun W => bwithin_any c.room 1 1000 W)
 rw [h_room] at H11
 obtain ⟨ao, an, ac, rfl⟩ := h.costs.shape
 obtain ⟨bo, bc, rfl⟩ := h.ports.shape
 obtain ⟨n, hn⟩ : ∃ n, c.ports.length = n := ⟨_, rfl⟩
 rw [hn] at lc lp
 have X1 := Lib.hid hx1; have B1 := Lib.hid hb1; have HW1 := Lib.hid hW1; have HQ0 := Lib.hid hq0
 obtain ⟨id, costs, ports, s4, s6, ev, rb, me, la, ag, ro, fl, fa⟩ := c
 unfold encC
 unfold ccells at HW1 X1 ⊢
 dsimp only at HT HC HV HVL HVM HS4 HS6 H6 H7 H8 H9 H10 H11 hn HW1 X1 ⊢
 rw [hn] at HV HVL X1 HW1 ⊢
 clear h hW1 hq0 hb1 hx1 hn h_costs h_check h_len h_vl h_self4 h_self6 h_every h_robust h_member h_last h_age h_room
 go_enter Tryz.func10, Tryz.ntmps10
 go_upto_region 1 with fail
 rw [HW1.out, HQ0.out]
 obtain ⟨c0, cf0⟩ := CBox.at_ X1.out 0 _ rfl
 obtain ⟨c1, cf1⟩ := CBox.at_ X1.out 1 _ rfl
 obtain ⟨c2, cf2⟩ := CBox.at_ X1.out 2 _ rfl
 obtain ⟨c3, cf3⟩ := CBox.at_ X1.out 3 _ rfl
 obtain ⟨c4, cf4⟩ := CBox.at_ X1.out 4 _ rfl
 obtain ⟨c5, cf5⟩ := CBox.at_ X1.out 5 _ rfl
 obtain ⟨c6, cf6⟩ := CBox.at_ X1.out 6 _ rfl
 obtain ⟨c7, cf7⟩ := CBox.at_ X1.out 7 _ rfl
 obtain ⟨c8, cf8⟩ := CBox.at_ X1.out 8 _ rfl
 obtain ⟨c9, cf9⟩ := CBox.at_ X1.out 9 _ rfl
 obtain ⟨c10, cf10⟩ := CBox.at_ X1.out 10 _ rfl
 obtain ⟨c11, cf11⟩ := CBox.at_ X1.out 11 _ rfl
 obtain ⟨c12, cf12⟩ := CBox.at_ X1.out 12 _ rfl
 go_upto_region 3 with ((with_reducible refine HT.out.mono ?_); rintro e w2 ⟨hb2, ⟨hk, _⟩ | ⟨_, p, g, cap, rfl, _⟩⟩; (rw [HC.out] at hk; cases hk); have B2 := Lib.hid hb2; have X2 := Lib.hid (X1.out.below hb2 X1.out.lt); clear hb2)
 clear c0 cf0 c1 cf1 c2 cf2 c3 cf3 c4 cf4 c5 cf5 c6 cf6 c7 cf7 c8 cf8 c9 cf9 c10 cf10 c11 cf11 c12 cf12
 obtain ⟨c0, cf0⟩ := CBox.at_ X2.out 0 _ rfl
 obtain ⟨c1, cf1⟩ := CBox.at_ X2.out 1 _ rfl
 obtain ⟨c2, cf2⟩ := CBox.at_ X2.out 2 _ rfl
 obtain ⟨c3, cf3⟩ := CBox.at_ X2.out 3 _ rfl
 obtain ⟨c4, cf4⟩ := CBox.at_ X2.out 4 _ rfl
 obtain ⟨c5, cf5⟩ := CBox.at_ X2.out 5 _ rfl
 obtain ⟨c6, cf6⟩ := CBox.at_ X2.out 6 _ rfl
 obtain ⟨c7, cf7⟩ := CBox.at_ X2.out 7 _ rfl
 obtain ⟨c8, cf8⟩ := CBox.at_ X2.out 8 _ rfl
 obtain ⟨c9, cf9⟩ := CBox.at_ X2.out 9 _ rfl
 obtain ⟨c10, cf10⟩ := CBox.at_ X2.out 10 _ rfl
 obtain ⟨c11, cf11⟩ := CBox.at_ X2.out 11 _ rfl
 obtain ⟨c12, cf12⟩ := CBox.at_ X2.out 12 _ rfl
 go_upto_region 4 with (first | ((with_reducible refine (HV.out w2 B2.out).mono ?_); rintro e w3 ⟨rfl, hb3⟩; have B3 := Lib.hid (B2.out.trans (hb3.mono B2.out.size)); have X3 := Lib.hid (X2.out.below hb3 X2.out.lt); clear hb3 c0 cf0 c1 cf1 c2 cf2 c3 cf3 c4 cf4 c5 cf5 c6 cf6 c7 cf7 c8 cf8 c9 cf9 c10 cf10 c11 cf11 c12 cf12; obtain ⟨c0, cf0⟩ := CBox.at_ X3.out 0 _ rfl; obtain ⟨c1, cf1⟩ := CBox.at_ X3.out 1 _ rfl; obtain ⟨c2, cf2⟩ := CBox.at_ X3.out 2 _ rfl; obtain ⟨c3, cf3⟩ := CBox.at_ X3.out 3 _ rfl; obtain ⟨c4, cf4⟩ := CBox.at_ X3.out 4 _ rfl; obtain ⟨c5, cf5⟩ := CBox.at_ X3.out 5 _ rfl; obtain ⟨c6, cf6⟩ := CBox.at_ X3.out 6 _ rfl; obtain ⟨c7, cf7⟩ := CBox.at_ X3.out 7 _ rfl; obtain ⟨c8, cf8⟩ := CBox.at_ X3.out 8 _ rfl; obtain ⟨c9, cf9⟩ := CBox.at_ X3.out 9 _ rfl; obtain ⟨c10, cf10⟩ := CBox.at_ X3.out 10 _ rfl; obtain ⟨c11, cf11⟩ := CBox.at_ X3.out 11 _ rfl; obtain ⟨c12, cf12⟩ := CBox.at_ X3.out 12 _ rfl) | ((with_reducible refine (HVL.out w3 B3.out).mono ?_); rintro e w4 ⟨v4, R4, rfl, hi4, hr4, hm4, _, hb4⟩; have B4 := Lib.hid (B3.out.trans (hb4.mono B3.out.size)); have X4 := Lib.hid (X3.out.below hb4 X3.out.lt); have hl4 := HVM.out R4 hr4 hm4; have hd4 : decide ((20 : Int) < (R4.length : Int)) = false := decide_eq_false (by omega); clear hl4; obtain ⟨_, _, _, lr, _, _⟩ := hi4.facts; clear hb4 hi4 hr4 hm4 c0 cf0 c1 cf1 c2 cf2 c3 cf3 c4 cf4 c5 cf5 c6 cf6 c7 cf7 c8 cf8 c9 cf9 c10 cf10 c11 cf11 c12 cf12; obtain ⟨c0, cf0⟩ := CBox.at_ X4.out 0 _ rfl; obtain ⟨c1, cf1⟩ := CBox.at_ X4.out 1 _ rfl; obtain ⟨c2, cf2⟩ := CBox.at_ X4.out 2 _ rfl; obtain ⟨c3, cf3⟩ := CBox.at_ X4.out 3 _ rfl; obtain ⟨c4, cf4⟩ := CBox.at_ X4.out 4 _ rfl; obtain ⟨c5, cf5⟩ := CBox.at_ X4.out 5 _ rfl; obtain ⟨c6, cf6⟩ := CBox.at_ X4.out 6 _ rfl; obtain ⟨c7, cf7⟩ := CBox.at_ X4.out 7 _ rfl; obtain ⟨c8, cf8⟩ := CBox.at_ X4.out 8 _ rfl; obtain ⟨c9, cf9⟩ := CBox.at_ X4.out 9 _ rfl; obtain ⟨c10, cf10⟩ := CBox.at_ X4.out 10 _ rfl; obtain ⟨c11, cf11⟩ := CBox.at_ X4.out 11 _ rfl; obtain ⟨c12, cf12⟩ := CBox.at_ X4.out 12 _ rfl))
 go_wp2_with (first | ((with_reducible refine (HS4.out _).mono ?_); rintro e w5 ⟨rfl, hb5⟩; have B5 := Lib.hid (B4.out.trans (hb5.mono B4.out.size)); have X5 := Lib.hid (X4.out.below hb5 X4.out.lt); clear hb5 c0 cf0 c1 cf1 c2 cf2 c3 cf3 c4 cf4 c5 cf5 c6 cf6 c7 cf7 c8 cf8 c9 cf9 c10 cf10 c11 cf11 c12 cf12; obtain ⟨c0, cf0⟩ := CBox.at_ X5.out 0 _ rfl; obtain ⟨c1, cf1⟩ := CBox.at_ X5.out 1 _ rfl; obtain ⟨c2, cf2⟩ := CBox.at_ X5.out 2 _ rfl; obtain ⟨c3, cf3⟩ := CBox.at_ X5.out 3 _ rfl; obtain ⟨c4, cf4⟩ := CBox.at_ X5.out 4 _ rfl; obtain ⟨c5, cf5⟩ := CBox.at_ X5.out 5 _ rfl; obtain ⟨c6, cf6⟩ := CBox.at_ X5.out 6 _ rfl; obtain ⟨c7, cf7⟩ := CBox.at_ X5.out 7 _ rfl; obtain ⟨c8, cf8⟩ := CBox.at_ X5.out 8 _ rfl; obtain ⟨c9, cf9⟩ := CBox.at_ X5.out 9 _ rfl; obtain ⟨c10, cf10⟩ := CBox.at_ X5.out 10 _ rfl; obtain ⟨c11, cf11⟩ := CBox.at_ X5.out 11 _ rfl; obtain ⟨c12, cf12⟩ := CBox.at_ X5.out 12 _ rfl) | ((with_reducible refine (HS6.out _).mono ?_); rintro e w6 ⟨rfl, hb6⟩; have B6 := Lib.hid (B5.out.trans (hb6.mono B5.out.size)); have X6 := Lib.hid (X5.out.below hb6 X5.out.lt); clear hb6 c0 cf0 c1 cf1 c2 cf2 c3 cf3 c4 cf4 c5 cf5 c6 cf6 c7 cf7 c8 cf8 c9 cf9 c10 cf10 c11 cf11 c12 cf12; obtain ⟨c0, cf0⟩ := CBox.at_ X6.out 0 _ rfl; obtain ⟨c1, cf1⟩ := CBox.at_ X6.out 1 _ rfl; obtain ⟨c2, cf2⟩ := CBox.at_ X6.out 2 _ rfl; obtain ⟨c3, cf3⟩ := CBox.at_ X6.out 3 _ rfl; obtain ⟨c4, cf4⟩ := CBox.at_ X6.out 4 _ rfl; obtain ⟨c5, cf5⟩ := CBox.at_ X6.out 5 _ rfl; obtain ⟨c6, cf6⟩ := CBox.at_ X6.out 6 _ rfl; obtain ⟨c7, cf7⟩ := CBox.at_ X6.out 7 _ rfl; obtain ⟨c8, cf8⟩ := CBox.at_ X6.out 8 _ rfl; obtain ⟨c9, cf9⟩ := CBox.at_ X6.out 9 _ rfl; obtain ⟨c10, cf10⟩ := CBox.at_ X6.out 10 _ rfl; obtain ⟨c11, cf11⟩ := CBox.at_ X6.out 11 _ rfl; obtain ⟨c12, cf12⟩ := CBox.at_ X6.out 12 _ rfl) | ((with_reducible refine (H6.out _).mono ?_); rintro e w7 ⟨rfl, hw7⟩; subst w7) | ((with_reducible refine (H7.out _).mono ?_); rintro e w7 ⟨rfl, hw7⟩; subst w7) | ((with_reducible refine (H8.out _).mono ?_); rintro e w7 ⟨rfl, hw7⟩; subst w7) | ((with_reducible refine (H9.out _).mono ?_); rintro e w7 ⟨rfl, hw7⟩; subst w7) | ((with_reducible refine (H10.out _).mono ?_); rintro e w7 ⟨rfl, hw7⟩; subst w7) | ((with_reducible refine (H11.out _).mono ?_); rintro e w7 ⟨rfl, hw7⟩; subst w7))
 go_ret
 exact ⟨rfl, B1.out.trans (B6.out.mono B1.out.size)⟩
theorem check_good (R : Nat → Prop) (c : Cfg) (vc vp : Value) (w : World) (h : CfgIn w R c vc vp) (ok : CfgOk c) :
 Calls Tryz.prog 10 #[encC c vc vp] w (RetNm 0 w) :=
 check_good0 R c vc vp w h ok.costs ok.check ok.len ok.vl ok.self4 ok.self6 ok.every ok.robust ok.member ok.last ok.age ok.room

def newS (c : Cfg) (vl : List Int) (now : Int) : BrS :=
 ⟨c, newTree c.id c.costs, fun _ => none, fun _ => none, fun _ => none, vl, fun k => ⟨if k.2 = 4 then c.self4 else c.self6, c.every, c.robust, 0, now, 0⟩, -1⟩
theorem rises_in : ∀ (l : List Int) (a : Int), 0 ≤ a → risesGo a l = true → ∀ x ∈ l, 1 ≤ x ∧ x ≤ 4094
 | [], _, _, _, x, hx => by cases hx
 | v :: l, a, ha, h, x, hx => by
   unfold risesGo at h
   simp only [Bool.and_eq_true, decide_eq_true_eq] at h
   rcases List.mem_cons.1 hx with rfl | hx
   · omega
   · exact rises_in l v (by omega) h.2 x hx
theorem allV_in {l : List Pt} (h : vCheck l = 0) : ∀ x ∈ allV l, 1 ≤ x ∧ x ≤ 4094 := fun x hx => by
 obtain ⟨p, hp, hx⟩ := List.mem_flatMap.1 (show x ∈ l.flatMap _ from hx)
 unfold vCheck at h
 split at h
 · rename_i q
   have hf := List.all_eq_true.1 q.2.2 p hp
   unfold Pt.fine risesV at hf
   simp only [Bool.and_eq_true] at hf
   rcases List.mem_append.1 hx with hx | hx
   · exact rises_in _ _ (Int.le_refl _) hf.1.1.1 x hx
   · exact rises_in _ _ (Int.le_refl _) hf.1.1.2 x hx
 · cases h
theorem between_is {n a b : Int} (h : inBetween n a b = true) : a ≤ n ∧ n ≤ b := by
 unfold inBetween at h
 simpa using h
theorem newS_ok {c : Cfg} {vl : List Int} {now : Int} (ok : CfgOk c) (hid : c.id < 18446744073709551616) (h1 : vl.Pairwise (· < ·)) (h2 : ∀ x, x ∈ vl ↔ x ∈ allV c.ports) : BrOk (newS c vl now) := by
 have he := between_is ok.every; have hr := between_is ok.robust; have ha := between_is ok.age; have ho := between_is ok.room
 refine ⟨newTree_ok ok.costs, newTree_w ⟨Int.natCast_nonneg _, by omega⟩, ⟨fun k e he => by cases he⟩, fun k _ => ⟨⟨he.1, ?_⟩, hr, ⟨Int.le_refl _, (by decide : (0 : Int) ≤ 1099512627776)⟩⟩, hid, ok.check, ?_, ho, ha, he, ⟨(by decide : (-1 : Int) ≤ -1), (by decide : (-1 : Int) ≤ 1099511627776)⟩, ok.vl vl h1 h2, fun v hv => allV_in ok.check v ((h2 v).1 hv)⟩
 · show c.every ≤ 100000
   omega
 · show c.ports.length = (newTree c.id c.costs).ports.length
   unfold newTree
   rw [List.length_map, ok.len]
def kindT (n8 e8 s1 s2 s3 s4 s5 s6 s7 qm j : Nat) : Nat :=
 if j < n8 then 0 else if j < e8 then (if j = qm then 7 else 8) else if j < s1 then 1 else if j < s2 then 2 else if j < s3 then 3 else if j < s4 then 4 else if j < s5 then 5 else if j < s6 then 6 else if j < s7 then 7 else 0
section
variable {n8 e8 s1 s2 s3 s4 s5 s6 s7 qm j : Nat}
theorem kindT_0 (h : kindT n8 e8 s1 s2 s3 s4 s5 s6 s7 qm j ≠ 0) (h1 : e8 ≤ s1) (h2 : s1 ≤ s2) (h3 : s2 ≤ s3) (h4 : s3 ≤ s4) (h5 : s4 ≤ s5) (h6 : s5 ≤ s6) (h7 : s6 ≤ s7) : n8 ≤ j ∧ j < s7 := by
 unfold kindT at h
 repeat' split at h
 all_goals first | omega | exact absurd rfl h
theorem kindT_8 (h1 : n8 ≤ j) (h2 : j < e8) (h3 : j ≠ qm) : kindT n8 e8 s1 s2 s3 s4 s5 s6 s7 qm j = 8 := by
 unfold kindT
 rw [if_neg (by omega), if_pos h2, if_neg h3]
theorem kindT_q (h1 : n8 ≤ qm) (h2 : qm < e8) : kindT n8 e8 s1 s2 s3 s4 s5 s6 s7 qm qm = 7 := by
 unfold kindT
 rw [if_neg (by omega), if_pos h2, if_pos rfl]
theorem kindT_1 (h0 : n8 ≤ e8) (h1 : e8 ≤ j) (h2 : j < s1) : kindT n8 e8 s1 s2 s3 s4 s5 s6 s7 qm j = 1 := by
 unfold kindT
 rw [if_neg (by omega), if_neg (by omega), if_pos h2]
theorem kindT_2 (h0 : n8 ≤ e8) (h1 : e8 ≤ s1) (k1 : s1 ≤ j) (k2 : j < s2) : kindT n8 e8 s1 s2 s3 s4 s5 s6 s7 qm j = 2 := by
 unfold kindT
 rw [if_neg (by omega), if_neg (by omega), if_neg (by omega), if_pos k2]
theorem kindT_3 (h0 : n8 ≤ e8) (h1 : e8 ≤ s1) (h2 : s1 ≤ s2) (k1 : s2 ≤ j) (k2 : j < s3) : kindT n8 e8 s1 s2 s3 s4 s5 s6 s7 qm j = 3 := by
 unfold kindT
 rw [if_neg (by omega), if_neg (by omega), if_neg (by omega), if_neg (by omega), if_pos k2]
theorem kindT_4 (h0 : n8 ≤ e8) (h1 : e8 ≤ s1) (h2 : s1 ≤ s2) (h3 : s2 ≤ s3) (k1 : s3 ≤ j) (k2 : j < s4) : kindT n8 e8 s1 s2 s3 s4 s5 s6 s7 qm j = 4 := by
 unfold kindT
 rw [if_neg (by omega), if_neg (by omega), if_neg (by omega), if_neg (by omega), if_neg (by omega), if_pos k2]
theorem kindT_5 (h0 : n8 ≤ e8) (h1 : e8 ≤ s1) (h2 : s1 ≤ s2) (h3 : s2 ≤ s3) (h4 : s3 ≤ s4) (k1 : s4 ≤ j) (k2 : j < s5) : kindT n8 e8 s1 s2 s3 s4 s5 s6 s7 qm j = 5 := by
 unfold kindT
 rw [if_neg (by omega), if_neg (by omega), if_neg (by omega), if_neg (by omega), if_neg (by omega), if_neg (by omega), if_pos k2]
theorem kindT_6 (h0 : n8 ≤ e8) (h1 : e8 ≤ s1) (h2 : s1 ≤ s2) (h3 : s2 ≤ s3) (h4 : s3 ≤ s4) (h5 : s4 ≤ s5) (k1 : s5 ≤ j) (k2 : j < s6) : kindT n8 e8 s1 s2 s3 s4 s5 s6 s7 qm j = 6 := by
 unfold kindT
 rw [if_neg (by omega), if_neg (by omega), if_neg (by omega), if_neg (by omega), if_neg (by omega), if_neg (by omega), if_neg (by omega), if_pos k2]
theorem kindT_7 (h0 : n8 ≤ e8) (h1 : e8 ≤ s1) (h2 : s1 ≤ s2) (h3 : s2 ≤ s3) (h4 : s3 ≤ s4) (h5 : s4 ≤ s5) (h6 : s5 ≤ s6) (k1 : s6 ≤ j) (k2 : j < s7) : kindT n8 e8 s1 s2 s3 s4 s5 s6 s7 qm j = 7 := by
 unfold kindT
 rw [if_neg (by omega), if_neg (by omega), if_neg (by omega), if_neg (by omega), if_neg (by omega), if_neg (by omega), if_neg (by omega), if_neg (by omega), if_pos k2]
end
def qfun (vl : List Int) (qb : Int × Int → Nat) : Int × Int → Option Value := fun k => if qdom vl k then some (.pointer (some ⟨qb k, 0, none⟩)) else none
def qadd (qb : Int × Int → Nat) (v : Int) (p1 p2 : Nat) : Int × Int → Nat := fun k => if k = (v, 4) then p1 else if k = (v, 16) then p2 else qb k
theorem qdom_snoc (l : List Int) (v : Int) (k : Int × Int) : qdom (l ++ [v]) k = (qdom l k || decide (k = (v, 4)) || decide (k = (v, 16))) := by
 obtain ⟨a, b⟩ := k
 unfold qdom
 have e : (l ++ [v]).contains a = (l.contains a || decide (a = v)) := by
  rw [Bool.eq_iff_iff]
  simp
 simp only [e, Prod.mk.injEq, Bool.decide_and]
 have e4 : (b == 4) = decide (b = 4) := rfl
 have e16 : (b == 16) = decide (b = 16) := rfl
 rw [e4, e16]
 cases l.contains a <;> cases decide (a = v) <;> cases decide (b = 4) <;> cases decide (b = 16) <;> rfl
theorem qdom_no {l : List Int} {v s : Int} (h : v ∉ l) : qdom l (v, s) = false := by
 unfold qdom
 have : l.contains v = false := by rw [Bool.eq_false_iff]; simpa using h
 rw [this]
 rfl
theorem qfun_nil (qb : Int × Int → Nat) : qfun [] qb = fun _ => none := by
 funext k
 unfold qfun qdom
 simp
theorem qfun_add (l : List Int) (v : Int) (qb : Int × Int → Nat) (p1 p2 : Nat) : updV (updV (qfun l qb) (v, 4) (.pointer (some ⟨p1, 0, none⟩))) (v, 16) (.pointer (some ⟨p2, 0, none⟩)) = qfun (l ++ [v]) (qadd qb v p1 p2) := by
 funext k
 unfold updV qfun qadd
 rw [qdom_snoc]
 by_cases h16 : k = (v, 16)
 · subst h16
   simp
 · by_cases h4 : k = (v, 4)
   · subst h4
     simp
   · simp [h16, h4]
def qOf (c : Cfg) (now : Int) (k : Int × Int) : Qr := ⟨if k.2 = 4 then c.self4 else c.self6, c.every, c.robust, 0, now, 0⟩
def QsAt (w : World) (s6 : Nat) (c : Cfg) (now : Int) (l : List Int) (qb : Int × Int → Nat) : Prop := ∀ x, qdom l x = true → QrAt w (qb x) (qOf c now x) ∧ s6 ≤ qb x ∧ qb x < w.heap.size
theorem QsAt.nil (w : World) (s6 : Nat) (c : Cfg) (now : Int) (qb : Int × Int → Nat) : QsAt w s6 c now [] qb := fun x hx => by simp [qdom] at hx
theorem QsAt.turn {w w' : World} {F : Nat → Prop} {s6 : Nat} {c : Cfg} {now : Int} {l : List Int} {qb : Int × Int → Nat} (h : QsAt w s6 c now l qb) (k : Turn F w w') (hF : ∀ j, F j → j < s6) : QsAt w' s6 c now l qb := fun x hx =>
 have q := h x hx
 ⟨QrAt.turn q.1 k fun hf => absurd (hF _ hf) (Nat.not_lt.2 q.2.1), q.2.1, Nat.lt_of_lt_of_le q.2.2 k.size⟩
theorem qdom_add {l : List Int} {v : Int} {x : Int × Int} (h : qdom (l ++ [v]) x = true) : qdom l x = true ∨ x = (v, 4) ∨ x = (v, 16) := by
 rw [qdom_snoc] at h
 simp only [Bool.or_eq_true, decide_eq_true_eq] at h
 rcases h with (h | h) | h
 · exact .inl h
 · exact .inr (.inl h)
 · exact .inr (.inr h)
theorem qadd_old {l : List Int} {v : Int} {x : Int × Int} {qb : Int × Int → Nat} {p1 p2 : Nat} (hv : v ∉ l) (hx : qdom l x = true) : qadd qb v p1 p2 x = qb x := by
 have h4 : x ≠ (v, 4) := fun e => by rw [e, qdom_no hv] at hx; cases hx
 have h16 : x ≠ (v, 16) := fun e => by rw [e, qdom_no hv] at hx; cases hx
 unfold qadd
 rw [if_neg h4, if_neg h16]
theorem qadd_4 (qb : Int × Int → Nat) (v : Int) (p1 p2 : Nat) : qadd qb v p1 p2 (v, 4) = p1 := by unfold qadd; rw [if_pos rfl]
theorem qadd_16 (qb : Int × Int → Nat) (v : Int) (p1 p2 : Nat) : qadd qb v p1 p2 (v, 16) = p2 := by unfold qadd; rw [if_neg (by simp), if_pos rfl]
theorem QsAt.add {w : World} {s6 : Nat} {c : Cfg} {now : Int} {l : List Int} {v : Int} {qb : Int × Int → Nat} {p1 p2 : Nat} (h : QsAt w s6 c now l qb) (hv : v ∉ l) (h1 : QrAt w p1 (qOf c now (v, 4))) (h2 : QrAt w p2 (qOf c now (v, 16))) (b1 : s6 ≤ p1) (b2 : s6 ≤ p2) : QsAt w s6 c now (l ++ [v]) (qadd qb v p1 p2) := fun x hx => by
 rcases qdom_add hx with hx | rfl | rfl
 · rw [qadd_old hv hx]; exact h x hx
 · rw [qadd_4]; exact ⟨h1, b1, CBox.lt h1⟩
 · rw [qadd_16]; exact ⟨h2, b2, CBox.lt h2⟩
def QInj (l : List Int) (qb : Int × Int → Nat) : Prop := ∀ k k', qdom l k = true → qdom l k' = true → qb k = qb k' → k = k'
theorem QInj.nil (qb : Int × Int → Nat) : QInj [] qb := fun k k' hk => by simp [qdom] at hk
theorem QInj.add {l : List Int} {v : Int} {qb : Int × Int → Nat} {p1 p2 : Nat} (h : QInj l qb) (hv : v ∉ l) (hp : p1 < p2) (hb : ∀ x, qdom l x = true → qb x < p1) : QInj (l ++ [v]) (qadd qb v p1 p2) := fun k k' hk hk' e => by
 rcases qdom_add hk with hk | rfl | rfl
 · rw [qadd_old hv hk] at e
   have := hb _ hk
   rcases qdom_add hk' with hk' | rfl | rfl
   · rw [qadd_old hv hk'] at e; exact h k k' hk hk' e
   · rw [qadd_4] at e; omega
   · rw [qadd_16] at e; omega
 · rw [qadd_4] at e
   rcases qdom_add hk' with hk' | rfl | rfl
   · rw [qadd_old hv hk'] at e; have := hb _ hk'; omega
   · rfl
   · rw [qadd_16] at e; omega
 · rw [qadd_16] at e
   rcases qdom_add hk' with hk' | rfl | rfl
   · rw [qadd_old hv hk'] at e; have := hb _ hk'; omega
   · rw [qadd_4] at e; omega
   · rfl
theorem selfB_len {s : Str} {n : Nat} (h : selfB s n = true) : s.length = 0 ∨ s.length = n := by
 unfold selfB at h
 cases s with
 | nil => exact .inl rfl
 | cons a l =>
   simp only [List.isEmpty_cons, Bool.false_or, Bool.and_eq_true, decide_eq_true_eq] at h
   exact .inr h.1
def bbcells (c : Cfg) (vc vp p1 p2 p3 p4 p5 vv : Value) (qm : Nat) : Array Value :=
 #[.int .u64 c.id, vc, vp, .string (bstr c.self4), .string (bstr c.self6), .int .i64 c.every, .int .i64 c.robust, .int .i64 c.member, .int .i64 c.last, .int .i64 c.age, .int .i64 c.room, .bool c.flood, .bool c.fast, p1, p2, p3, p4, p5, vv, .map (some qm), .int .i64 (-1)]
structure Made13 (w W : World) (n8 q0 bb qm : Nat) (c : Cfg) (vc vp vv : Value) (R : List Int) : Prop where
 conf : CBox W q0 32 (ccells c vc vp)
 box : CBox W bb 85 (bbcells c vc vp (.pointer none) (.pointer none) (.pointer none) (.pointer none) (.pointer none) vv qm)
 map : VMap KQ W qm 0 (fun _ => none)
 ports : Pts (fun j => n8 ≤ j ∧ j < bb ∧ j ≠ qm) W vp c.ports
 costs : Ints W vc c.costs
 vl : Ints W vv R
 vlR : ∀ j, vv.ownBlock = some j → n8 ≤ j ∧ j < bb ∧ j ≠ qm
 rise : R.Pairwise (· < ·)
 mem : ∀ x, x ∈ R ↔ x ∈ allV c.ports
 num : q0 < n8 ∧ n8 ≤ qm ∧ qm < bb ∧ bb < W.heap.size ∧ w.heap.size ≤ q0
 below : Below w.heap.size w W
theorem keysS_none : KeysS (fun _ => none : Tst) [] := ⟨List.Pairwise.nil, fun x => by simp⟩
theorem keysV_none : KeysV (encV (fun _ => none)) [] := ⟨List.nodup_nil, fun x => by simp [encV]⟩
theorem br_made {w : World} {c : Cfg} {vl : List Int} {now : Int} {A : Adr} {n8 e8 s1 s2 s3 s4 s5 s6 s7 : Nat} (hA : A.kind = kindT n8 e8 s1 s2 s3 s4 s5 s6 s7 A.qm)
 (h0 : n8 ≤ e8) (h1 : e8 ≤ s1) (h2 : s1 ≤ s2) (h3 : s2 ≤ s3) (h4 : s3 ≤ s4) (h5 : s4 ≤ s5) (h6 : s5 ≤ s6) (h7 : s6 ≤ s7) (hs : s7 ≤ w.heap.size)
 (box : CBox w A.b 85 (brcells A (newS c vl now)))
 (tree : TreeAt w A.tp A.tg A.tcap (newTree c.id c.costs)) (fdb : FdAt w A.fp A.fm 0 c.room c.age (fun _ => none)) (tab : Tb w A.gp A.gb A.go 0 0 c.room c.member c.last (fun _ => none) (fun _ => none))
 (rt : RtQ w A.rp A.rf A.rh c.age) (asks : AskQ w A.ap A.wp A.tm A.wm c.robust c.last)
 (ports : Pts (fun j => n8 ≤ j ∧ j < e8 ∧ j ≠ A.qm) w A.vports c.ports) (vlans : Ints w A.vvl vl) (vlansR : ∀ j, A.vvl.ownBlock = some j → n8 ≤ j ∧ j < e8 ∧ j ≠ A.qm)
 (qmap : ∃ n, VMap KQ w A.qm n (fun k => if qdom vl k then some (.pointer (some ⟨A.qb k, 0, none⟩)) else none))
 (qs : ∀ k, qdom vl k = true → QrAt w (A.qb k) ((newS c vl now).qs k) ∧ s6 ≤ A.qb k ∧ A.qb k < s7)
 (qinj : ∀ k k', qdom vl k = true → qdom vl k' = true → A.qb k = A.qb k' → k = k')
 (b1 : e8 ≤ A.b ∧ A.b < s1) (b2 : (s1 ≤ A.tp ∧ A.tp < s2) ∧ (s1 ≤ A.tg ∧ A.tg < s2)) (b3 : (s2 ≤ A.fp ∧ A.fp < s3) ∧ (s2 ≤ A.fm ∧ A.fm < s3))
 (b4 : (s3 ≤ A.gp ∧ A.gp < s4) ∧ (s3 ≤ A.gb ∧ A.gb < s4) ∧ (s3 ≤ A.go ∧ A.go < s4)) (b5 : (s4 ≤ A.rp ∧ A.rp < s5) ∧ (s4 ≤ A.rf ∧ A.rf < s5) ∧ (s4 ≤ A.rh ∧ A.rh < s5))
 (b6 : (s5 ≤ A.ap ∧ A.ap < s6) ∧ (s5 ≤ A.wp ∧ A.wp < s6) ∧ (s5 ≤ A.tm ∧ A.tm < s6) ∧ (s5 ≤ A.wm ∧ A.wm < s6)) (bq : n8 ≤ A.qm ∧ A.qm < e8) (ok : BrOk (newS c vl now)) : BrAt w A (newS c vl now) := by
 have k8 : ∀ j, n8 ≤ j ∧ j < e8 ∧ j ≠ A.qm → A.kind j = 8 := fun j hj => by rw [hA]; exact kindT_8 hj.1 hj.2.1 hj.2.2
 have room : 1 ≤ c.room := ok.room.1
 refine ⟨box, tree, ⟨[], keysV_none, ?_, fdb⟩, ⟨[], 0, keysS_none, ?_, by decide, tab⟩, rt, asks, ports.wide k8, vlans, fun j hj => k8 j (vlansR j hj), qmap, fun k hk => (qs k hk).1, ?_, ⟨?_, ?_⟩, ⟨?_, ?_⟩, ⟨?_, ?_, ?_⟩, ⟨?_, ?_, ?_⟩, ⟨?_, ?_, ?_, ?_⟩, ⟨?_, fun k hk => ?_⟩, qinj, fun j hj => ?_, ok⟩
 · show ((0 : Nat) : Int) ≤ c.room
   omega
 · show ((0 : Nat) : Int) ≤ c.room
   omega
 · rw [hA]; exact kindT_1 h0 b1.1 b1.2
 · rw [hA]; exact kindT_2 h0 h1 b2.1.1 b2.1.2
 · rw [hA]; exact kindT_2 h0 h1 b2.2.1 b2.2.2
 · rw [hA]; exact kindT_3 h0 h1 h2 b3.1.1 b3.1.2
 · rw [hA]; exact kindT_3 h0 h1 h2 b3.2.1 b3.2.2
 · rw [hA]; exact kindT_4 h0 h1 h2 h3 b4.1.1 b4.1.2
 · rw [hA]; exact kindT_4 h0 h1 h2 h3 b4.2.1.1 b4.2.1.2
 · rw [hA]; exact kindT_4 h0 h1 h2 h3 b4.2.2.1 b4.2.2.2
 · rw [hA]; exact kindT_5 h0 h1 h2 h3 h4 b5.1.1 b5.1.2
 · rw [hA]; exact kindT_5 h0 h1 h2 h3 h4 b5.2.1.1 b5.2.1.2
 · rw [hA]; exact kindT_5 h0 h1 h2 h3 h4 b5.2.2.1 b5.2.2.2
 · rw [hA]; exact kindT_6 h0 h1 h2 h3 h4 h5 b6.1.1 b6.1.2
 · rw [hA]; exact kindT_6 h0 h1 h2 h3 h4 h5 b6.2.1.1 b6.2.1.2
 · rw [hA]; exact kindT_6 h0 h1 h2 h3 h4 h5 b6.2.2.1.1 b6.2.2.1.2
 · rw [hA]; exact kindT_6 h0 h1 h2 h3 h4 h5 b6.2.2.2.1 b6.2.2.2.2
 · rw [hA]; exact kindT_q bq.1 bq.2
 · rw [hA]; exact kindT_7 h0 h1 h2 h3 h4 h5 h6 (qs k hk).2.1 (qs k hk).2.2
 · rw [hA] at hj
   have := kindT_0 hj h1 h2 h3 h4 h5 h6 h7
   omega
end Go.Proofs.YthcdppppppgckaaGreatDoor
