/- siphonref17.Admits. -/
import Derived.Test.YtkphgonbbhlnfaaGRexp
namespace Go.Proofs.Ytkphgonbbhlnfaa
open Go.RowKit Go.Lib Go.Maps Go.Sort

theorem nm_has {F : Str → Option Int} {L : List Tmd} (h : Asc F L) (blk : Bool) (a : Str) : (nmL L blk).contains a = (match F a with | none => false | some z => (z == 0) == blk) := by
  rw [Bool.eq_iff_iff, List.contains_iff_mem]
  unfold nmL
  constructor
  · intro hm
    obtain ⟨t, ht, rfl⟩ := List.mem_map.1 hm
    obtain ⟨ht, hb⟩ := List.mem_filter.1 ht
    rw [h.2 t ht]
    exact hb
  · intro hm
    cases hF : F a
    · rw [hF] at hm; cases hm
    · rename_i z
      rw [hF] at hm
      obtain ⟨t, ht, rfl⟩ := List.mem_map.1 ((h.1.2 a).2 (by rw [hF]; simp))
      have := h.2 t ht
      rw [hF] at this
      injection this with e
      subst e
      exact List.mem_map.2 ⟨t, List.mem_filter.2 ⟨ht, hm⟩, rfl⟩
theorem nm_blk {F : Str → Option Int} {L : List Tmd} (h : Asc F L) (a : Str) : (nmL L true).contains a = (F a == some 0) := by
  rw [nm_has h]
  cases F a <;> simp
theorem nm_run {F : Str → Option Int} {L : List Tmd} (h : Asc F L) (a : Str) : (nmL L false).contains a = ((F a).getD 0 != 0) := by
  rw [nm_has h]
  cases F a
  · rfl
  · rename_i z
    show ((z == 0) == false) = !(z == 0)
    cases (z == 0) <;> rfl

set_option maxHeartbeats 1000000 in
theorem radmits_any (ex : Bool) (at' : Int) (v : Value) (L : List Tmd) (now : Int) (a : Str) (w : World) (h : Tms w v L) :
    Calls Try.prog 18 #[.agg #[.bool ex, .int .i64 at', v], .string (bstr a), .int .i64 now] w fun e w' => e = .returned (.bool (padm ex at' L now a)) ∧ Below w.heap.size w w' := by
  obtain ⟨ao, cap, rfl⟩ := h.shape
  have hb0 : Below w.heap.size w (w.alloc (.cells #[.bool ex, .int .i64 at', .slice ao L.length cap] 24)) := (Below.refl _ _).alloc (Nat.le_refl _) _
  have HE := Lib.hid (rexpire_any ex at' _ L now _ (h.mono hb0))
  have HB := Lib.hid hb0
  obtain ⟨q, hq⟩ : ∃ q, padm ex at' L now a = q := ⟨_, rfl⟩
  rw [hq]
  unfold padm at hq
  generalize (ex && decide (now < at')) = e2 at HE hq
  have HQ := Lib.hid hq
  clear h hb0 hq
  go_enter Try.func18, Try.ntmps18
  go_wp2_with fail
  refine HE.out.mono ?_
  rintro e w1 (⟨hp, rfl, hb1⟩ | ⟨hp, v1, L1, rfl, hT, hA, _, _, hb1⟩)
  · have HQ' := Lib.hid (show false = q by have := HQ.out; rw [hp] at this; simpa using this)
    have HB1 := Lib.hid (HB.out.trans (hb1.mono (by simp)))
    clear HE HQ hp hb1
    go_wp2
    go_ret
    exact ⟨ret_bool HQ'.out, HB1.out.alloc HB1.out.size _⟩
  · obtain ⟨o1, c1, rfl⟩ := hT.shape
    have HQ' := Lib.hid (show (if e2 then !(exF e2 now (rd L) a == some 0) else (exF e2 now (rd L) a).getD 0 != 0) = q by have := HQ.out; rw [hp] at this; simpa using this)
    have HB1 := Lib.hid (HB.out.trans (hb1.mono (by simp)))
    have HA := Lib.hid hA
    have HT := Lib.hid hT
    generalize (if e2 then at' else 0) = a2
    clear HE HQ hp hb1 hA hT
    cases e2
    · cases hi : L1.isEmpty
      · have HR := Lib.hid (rnames_any false a2 _ L1 false (w1.alloc (.cells #[.bool false, .int .i64 a2, .slice o1 L1.length c1] 24)) (HT.out.mono ((Below.refl _ _).alloc (Nat.le_refl _) _)))
        have HD := Lib.hid (show (nmL L1 false).contains a = q from by rw [nm_run HA.out]; simpa using HQ'.out)
        clear hi
        go_wp2_with fail
        refine HR.out.mono ?_
        rintro e w2 ⟨v2, rfl, hs2, hb2, _⟩
        have HX := Lib.hid (shas_any v2 _ a w2 hs2)
        have HB2 := Lib.hid ((HB1.out.alloc HB1.out.size _).trans (hb2.mono (by have := HB1.out.size; simp; omega)))
        clear HR hb2 hs2
        go_wp2_with fail
        refine HX.out.mono ?_
        rintro e w3 ⟨rfl, rfl⟩
        clear HX
        go_wp2
        go_ret
        exact ⟨ret_bool (by rw [← HD.out]; simp), HB2.out⟩
      · have HD := Lib.hid (show false = q from by
          have h0 : L1 = [] := by simpa using hi
          have := HQ'.out
          rw [← asc_rd HA.out, h0] at this
          simpa [rd] using this)
        have hi' : L1 = [] := by simpa using hi
        subst hi'
        go_wp2
        go_ret
        exact ⟨ret_bool HD.out, HB1.out.alloc HB1.out.size _⟩
    · have HR := Lib.hid (rnames_any true a2 _ L1 true (w1.alloc (.cells #[.bool true, .int .i64 a2, .slice o1 L1.length c1] 24)) (HT.out.mono ((Below.refl _ _).alloc (Nat.le_refl _) _)))
      have HD := Lib.hid (show (!(nmL L1 true).contains a) = q from by rw [nm_blk HA.out]; simpa using HQ'.out)
      go_wp2_with fail
      refine HR.out.mono ?_
      rintro e w2 ⟨v2, rfl, hs2, hb2, _⟩
      have HX := Lib.hid (shas_any v2 _ a w2 hs2)
      have HB2 := Lib.hid ((HB1.out.alloc HB1.out.size _).trans (hb2.mono (by have := HB1.out.size; simp; omega)))
      clear HR hb2 hs2
      go_wp2_with fail
      refine HX.out.mono ?_
      rintro e w3 ⟨rfl, rfl⟩
      clear HX
      go_wp2
      go_ret
      exact ⟨ret_bool (by rw [← HD.out]; simp), HB2.out⟩
end Go.Proofs.Ytkphgonbbhlnfaa
