/- The small functions of the forward statements: both 'Local', 'told', 'few', 'live'. -/
import Derived.Test.YtmjpjpdgejpeeaaRefFwd
namespace Go.Proofs.Ytmjpjpdgejpeeaa
open Go.RowKit Go.Sort

def allN : List UInt8 := [255, 2, 0, 0, 0, 0, 0, 0, 0, 0, 0, 0, 0, 0, 0, 1]
def isLocal (s : List UInt8) : Bool := if s.length = 4 then s.take 3 == [224, 0, 0] else s == allN

set_option maxHeartbeats 400000 in
theorem rlocal_any (s : ByteArray) (w : World) (hs : s.size ≤ maxLen) :
    Calls Try.prog 17 #[.string s] w fun e w' => e = .returned (.bool (isLocal s.data.toList)) ∧ w = w' := by
  unfold maxLen at hs
  by_cases h4 : s.size = 4
  · have hz : ((s.size : Int) == 4) = true := by simp [h4]
    have h3 : 3 ≤ s.size := by omega
    go_enter Try.func17, Try.ntmps17
    go_wp2
    go_ret
    refine ⟨ret_bool ?_, rfl⟩
    have hl : s.data.toList.length = 4 := by rw [Array.length_toList]; exact h4
    rw [isLocal, if_pos hl, Lib.toList_data, Lib.extract_data]
    rfl
  · have hz : ((s.size : Int) == 4) = false := by simp; omega
    go_enter Try.func17, Try.ntmps17
    go_wp2
    go_ret
    refine ⟨ret_bool ?_, rfl⟩
    have hl : ¬ s.data.toList.length = 4 := by rw [Array.length_toList]; exact h4
    rw [isLocal, if_neg hl, Lib.toList_data]
    rfl

/-- what the program's own 'Local' says is the same -/
theorem local_eq (l : List UInt8) : ((l == allN) || (l.length == 4 && Lib.hasPrefix l [224, 0, 0])) = isLocal l := by
  unfold isLocal
  by_cases h4 : l.length = 4
  · rw [if_pos h4]
    have h1 : (l == allN) = false := by
      rw [beq_eq_false_iff_ne]
      rintro rfl
      simp [allN] at h4
    have h2 : (l.length == 4) = true := by simp [h4]
    rw [h1, h2, Bool.false_or, Bool.true_and, ← Lib.hasPrefix_of_take]
    have h3 : decide (([224, 0, 0] : List UInt8).length ≤ l.length) = true := by simp [h4]
    rw [h3, Bool.true_and]
    rfl
  · have h2 : (l.length == 4) = false := by simp [h4]
    rw [if_neg h4, h2, Bool.false_and, Bool.or_false]

set_option maxHeartbeats 400000 in
theorem local_any (s : ByteArray) (w : World) (hs : s.size ≤ maxLen) :
    Calls Try.prog 16 #[.string s] w fun e w' => e = .returned (.bool (isLocal s.data.toList)) ∧ w = w' := by
  unfold maxLen at hs
  have HL := Lib.hid (local_eq s.data.toList)
  by_cases ha : (s.data.toList == allN) = true
  · have hz : (s.toList == [255, 2, 0, 0, 0, 0, 0, 0, 0, 0, 0, 0, 0, 0, 0, 1]) = true := by rw [Lib.toList_data]; exact ha
    have HA := Lib.hid (show isLocal s.data.toList = true from by rw [← HL.out, ha]; rfl)
    clear ha
    go_enter Try.func16, Try.ntmps16
    go_wp2
    go_ret
    exact ⟨ret_bool HA.out.symm, rfl⟩
  · have ha' : (s.data.toList == allN) = false := by simpa using ha
    have hz : (s.toList == [255, 2, 0, 0, 0, 0, 0, 0, 0, 0, 0, 0, 0, 0, 0, 1]) = false := by rw [Lib.toList_data]; exact ha'
    by_cases h4 : s.size = 4
    · have hy : ((s.size : Int) == 4) = true := by simp [h4]
      have HA := Lib.hid (show isLocal s.data.toList = Lib.hasPrefix s.data.toList [224, 0, 0] from by
        rw [← HL.out, ha', Bool.false_or, show (s.data.toList.length == 4) = true from by rw [Array.length_toList]; simp; exact h4, Bool.true_and])
      clear ha ha'
      go_enter Try.func16, Try.ntmps16
      go_wp2_with (go_at_call 24; refine (Try.strings_HasPrefix _ _ _).mono ?_; rintro e w' ⟨rfl, rfl⟩)
      go_ret
      exact ⟨ret_bool HA.out.symm, rfl⟩
    · have hy : ((s.size : Int) == 4) = false := by simp; omega
      have HA := Lib.hid (show isLocal s.data.toList = false from by
        rw [← HL.out, ha', Bool.false_or, show (s.data.toList.length == 4) = false from by rw [Array.length_toList, beq_eq_false_iff_ne]; exact h4, Bool.false_and])
      clear ha ha'
      go_enter Try.func16, Try.ntmps16
      go_wp2
      go_ret
      exact ⟨ret_bool HA.out.symm, rfl⟩

def RetV (w : World) (v : Value) (e : Ending) (w' : World) : Prop := e = .returned v ∧ Below w.heap.size w w'

theorem Ints.shape {w : World} {v : Value} {L : List Int} (h : Ints w v L) : ∃ a n c, v = .slice a n c := by
  obtain ⟨ao, cap, b, off, rfl, _⟩ := h
  exact ⟨_, _, _, rfl⟩

set_option maxHeartbeats 400000 in
theorem told_slices (port : Int) (a1 a2 a3 a4 : Option Addr) (n1 n2 n3 n4 c1 c2 c3 c4 : Nat) (lo ov re kn fl : Bool) (w : World) :
    Calls Try.prog 11 #[.agg #[.int .i64 port, .slice a1 n1 c1, .slice a2 n2 c2, .slice a3 n3 c3, .slice a4 n4 c4, .bool lo, .bool ov, .bool re, .bool kn, .bool fl]] w
      (RetV w (.agg #[.int .i64 port, .slice a1 n1 c1, .slice a2 n2 c2, .slice a3 n3 c3, .slice a4 n4 c4, .bool lo, .bool ov, .bool re, .bool kn, .bool fl])) := by
  go_enter Try.func11, Try.ntmps11
  go_wp2
  exact bodyPost_ret (v := .agg #[.int .i64 port, .slice a1 n1 c1, .slice a2 n2 c2, .slice a3 n3 c3, .slice a4 n4 c4, .bool lo, .bool ov, .bool re, .bool kn, .bool fl]) (by simp [results, Try.results11, go_sem]) rfl
    ⟨rfl, ((Below.refl _ _).alloc (Nat.le_refl _) _).alloc (by simp) _⟩

theorem told_any (port : Int) (vm vo vr vw : Value) (lo ov re kn fl : Bool) (M O R W : List Int) (w : World) (h : CaseIn w vm vo vr vw M O R W) :
    Calls Try.prog 11 #[.agg #[.int .i64 port, vm, vo, vr, vw, .bool lo, .bool ov, .bool re, .bool kn, .bool fl]] w (RetV w (.agg #[.int .i64 port, vm, vo, vr, vw, .bool lo, .bool ov, .bool re, .bool kn, .bool fl])) := by
  obtain ⟨_, _, _, rfl⟩ := h.m.shape
  obtain ⟨_, _, _, rfl⟩ := h.o.shape
  obtain ⟨_, _, _, rfl⟩ := h.r.shape
  obtain ⟨_, _, _, rfl⟩ := h.w.shape
  exact told_slices port _ _ _ _ _ _ _ _ _ _ _ _ lo ov re kn fl w

def fewB (M O R W : List Int) : Bool := decide ((M.length : Int) ≤ 40) && (decide ((O.length : Int) ≤ 40) && (decide ((R.length : Int) ≤ 40) && decide ((W.length : Int) ≤ 40)))

set_option maxHeartbeats 400000 in
theorem few_any (port : Int) (vm vo vr vw : Value) (lo ov re kn fl : Bool) (M O R W : List Int) (w : World) (h : CaseIn w vm vo vr vw M O R W) :
    Calls Try.prog 8 #[.agg #[.int .i64 port, vm, vo, vr, vw, .bool lo, .bool ov, .bool re, .bool kn, .bool fl]] w (RetV w (.bool (fewB M O R W))) := by
  obtain ⟨_, _, hm1, hl1, _, _⟩ := h.m.facts
  obtain ⟨_, _, hm2, hl2, _, _⟩ := h.o.facts
  obtain ⟨_, _, hm3, hl3, _, _⟩ := h.r.facts
  obtain ⟨_, _, hm4, hl4, _, _⟩ := h.w.facts
  clear h
  have hb : Below w.heap.size w (w.alloc (.cells #[.int .i64 port, vm, vo, vr, vw, .bool lo, .bool ov, .bool re, .bool kn, .bool fl] 24)) := (Below.refl _ _).alloc (Nat.le_refl _) _
  have HB := Lib.hid hb
  clear hb
  by_cases h1 : (M.length : Int) ≤ 40
  · by_cases h2 : (O.length : Int) ≤ 40
    · by_cases h3 : (R.length : Int) ≤ 40
      · by_cases h4 : (W.length : Int) ≤ 40
        all_goals have HF := Lib.hid (show fewB M O R W = _ from by simp only [fewB, h1, h2, h3, h4, decide_true, decide_false, Bool.true_and]; rfl)
        all_goals go_enter Try.func8, Try.ntmps8
        all_goals go_wp2
        all_goals go_ret
        all_goals exact ⟨ret_bool HF.out.symm, HB.out⟩
      · have HF := Lib.hid (show fewB M O R W = false from by simp only [fewB, h1, h2, h3, decide_true, decide_false, Bool.true_and, Bool.false_and])
        go_enter Try.func8, Try.ntmps8
        go_wp2
        go_ret
        exact ⟨ret_bool HF.out.symm, HB.out⟩
    · have HF := Lib.hid (show fewB M O R W = false from by simp only [fewB, h1, h2, decide_true, decide_false, Bool.true_and, Bool.false_and])
      go_enter Try.func8, Try.ntmps8
      go_wp2
      go_ret
      exact ⟨ret_bool HF.out.symm, HB.out⟩
  · have HF := Lib.hid (show fewB M O R W = false from by simp only [fewB, h1, decide_false, Bool.false_and])
    go_enter Try.func8, Try.ntmps8
    go_wp2
    go_ret
    exact ⟨ret_bool HF.out.symm, HB.out⟩
/-- the live case's answer -/
theorem live_list : lDecide 0 [0, 1, 2, 3] [0, 1, 2, 3] [1] [2] false false false true false = [1, 2] := by
  have e : lDecide 0 [0, 1, 2, 3] [0, 1, 2, 3] [1] [2] false false false true false = canon (pDecide [1] [2] true) (canon (pFlood 0 [0, 1, 2, 3]) [0, 1, 2, 3]) := rfl
  rw [e, canon_canon]
  refine rising_eq _ _ (canon_rising _ _) (by simp) (fun x => ?_)
  rw [canon_mem]
  simp [pFlood, pDecide]
  omega

theorem new_ints (w : World) (L : List Int) (n : Nat) (e : TypeId) (hn : n = L.length) (hl : n ≤ 17592186044416) (hw : ∀ x ∈ L, (Lit.int .i64 x).wf = true) :
    Ints (w.alloc (.cells (L.map (Value.int .i64)).toArray e)) (.slice (some ⟨w.heap.size, 0, none⟩) n n) L := by
  subst hn
  refine Ints.own (base := 0) (e := e) ⟨by simp, .inr ⟨w.heap.size, _, _, rfl, Nat.zero_le _, heap_alloc_new w _, Nat.le_refl _, by unfold maxLen; omega, by simp, ?_⟩⟩ hl hw
  simp only [Nat.mul_one]
  exact List.take_of_length_le (by simp)

/-- the four lists of the live case, laid one behind the other -/
def liveW (w : World) : World :=
  (((w.alloc (.cells #[.int .i64 0, .int .i64 1, .int .i64 2, .int .i64 3] 3)).alloc (.cells #[.int .i64 0, .int .i64 1, .int .i64 2, .int .i64 3] 3)).alloc (.cells #[.int .i64 1] 3)).alloc (.cells #[.int .i64 2] 3)

theorem liveB (w : World) : Below w.heap.size w (liveW w) :=
  ((((Below.refl _ _).alloc (Nat.le_refl _) _).alloc (by simp) _).alloc (by simp; omega) _).alloc (by simp; omega) _

theorem live_in (w : World) : CaseIn (liveW w) (.slice (some ⟨w.heap.size, 0, none⟩) 4 4) (.slice (some ⟨w.heap.size + 1, 0, none⟩) 4 4) (.slice (some ⟨w.heap.size + 2, 0, none⟩) 1 1) (.slice (some ⟨w.heap.size + 3, 0, none⟩) 1 1) [0, 1, 2, 3] [0, 1, 2, 3] [1] [2] := by
  have w1 := new_ints w [0, 1, 2, 3] 4 3 rfl (by omega) (by decide)
  have w2 := new_ints (w.alloc (.cells #[.int .i64 0, .int .i64 1, .int .i64 2, .int .i64 3] 3)) [0, 1, 2, 3] 4 3 rfl (by omega) (by decide)
  have w3 := new_ints ((w.alloc (.cells #[.int .i64 0, .int .i64 1, .int .i64 2, .int .i64 3] 3)).alloc (.cells #[.int .i64 0, .int .i64 1, .int .i64 2, .int .i64 3] 3)) [1] 1 3 rfl (by omega) (by decide)
  have w4 := new_ints (((w.alloc (.cells #[.int .i64 0, .int .i64 1, .int .i64 2, .int .i64 3] 3)).alloc (.cells #[.int .i64 0, .int .i64 1, .int .i64 2, .int .i64 3] 3)).alloc (.cells #[.int .i64 1] 3)) [2] 1 3 rfl (by omega) (by decide)
  have al : ∀ (u : World) (o : Obj), Below u.heap.size u (u.alloc o) := fun u o => (Below.refl _ _).alloc (Nat.le_refl _) o
  simp only [World.size_alloc] at w2 w3 w4
  exact ⟨((w1.mono (al _ _)).mono (al _ _)).mono (al _ _), (w2.mono (al _ _)).mono (al _ _), w3.mono (al _ _), w4⟩

set_option maxHeartbeats 1000000 in
theorem live_any (w : World) : Calls Try.prog 9 #[] w (RetV w (.bool true)) := by
  have hd := decide_any 0 _ _ _ _ false false false true false _ _ _ _ (liveW w) (live_in w)
  rw [live_list] at hd
  have HD := Lib.hid hd
  have hl1 := fun u => local_any ⟨#[224, 0, 0, 5]⟩ u (by decide)
  have hl2 := fun u => local_any ⟨#[224, 0, 1, 5]⟩ u (by decide)
  rw [show isLocal (⟨#[224, 0, 0, 5]⟩ : ByteArray).data.toList = true from by decide] at hl1
  rw [show isLocal (⟨#[224, 0, 1, 5]⟩ : ByteArray).data.toList = false from by decide] at hl2
  have HL1 := Lib.hid hl1
  have HL2 := Lib.hid hl2
  clear hd hl1 hl2
  go_enter Try.func9, Try.ntmps9
  go_wp2_with fail
  refine HD.out.mono ?_
  rintro e w1 ⟨v, rfl, hi, hb⟩
  have hn := new_ints w1 [1, 2] 2 3 rfl (by omega) (by decide)
  have hs := same_any v _ [1, 2] [1, 2] _ (hi.mono ((Below.refl _ _).alloc (Nat.le_refl _) (.cells #[.int .i64 1, .int .i64 2] 3))) hn
  rw [show (([1, 2] : List Int) == [1, 2]) = true from by decide] at hs
  have HS := Lib.hid hs
  have HB := Lib.hid ((liveB w).trans (hb.mono (liveB w).size))
  clear hn hs hi hb
  go_wp2_with (first | ((with_reducible refine HS.out.mono ?_); rintro e w' ⟨rfl, n, rfl⟩) | ((with_reducible refine (HL1.out _).mono ?_); rintro e w' ⟨rfl, rfl⟩) | ((with_reducible refine (HL2.out _).mono ?_); rintro e w' ⟨rfl, rfl⟩))
  go_ret
  exact ⟨rfl, below_draws _ (HB.out.alloc HB.out.size _) _⟩
end Go.Proofs.Ytmjpjpdgejpeeaa
