/- Small functions of package group: within, names, lacks. -/
import Derived.Test.YtkphgonbbhlnfaaGAdm
namespace Go.Proofs.Ytkphgonbbhlnfaa
open Go.RowKit Go.Lib Go.Maps Go.Sort

theorem within_any (n a b : Int) (w : World) : Calls Try.prog 29 #[.int .i64 n, .int .i64 a, .int .i64 b] w fun e w' => e = .returned (.bool (decide (a ≤ n) && decide (n ≤ b))) ∧ w = w' := by
  cases h1 : decide (a ≤ n)
  all_goals
    go_enter Try.func29, Try.ntmps29
    go_wp2
    go_ret
    exact ⟨ret_bool (by simp), rfl⟩

theorem names_any (kind e : Int) (v : Value) (L : List Str) (a : Str) (w : World) (h : Strs w v L) :
    Calls Try.prog 62 #[.agg #[.int .i64 kind, v, .int .i64 e], .string (bstr a)] w fun e w' => e = .returned (.bool (L.contains a)) ∧ Below w.heap.size w w' := by
  obtain ⟨ao, cap, rfl⟩ := h.shape
  have hb : Below w.heap.size w (w.alloc (.cells #[.int .i64 kind, .slice ao L.length cap, .int .i64 e] 72)) := (Below.refl _ _).alloc (Nat.le_refl _) _
  have HC := Lib.hid (scontains_any _ L a _ (h.mono hb))
  have HB := Lib.hid hb
  clear h hb
  go_enter Try.func62, Try.ntmps62
  go_wp2_with fail
  refine HC.out.mono ?_
  rintro e w' ⟨rfl, rfl⟩
  clear HC
  go_wp2
  go_ret
  exact ⟨ret_bool (by simp), HB.out⟩

theorem lacks_any (kind e : Int) (v : Value) (L : List Str) (a : Str) (w : World) (h : Strs w v L) :
    Calls Try.prog 49 #[.agg #[.int .i64 kind, v, .int .i64 e], .string (bstr a)] w fun e w' => e = .returned (.bool (!L.contains a)) ∧ Below w.heap.size w w' := by
  obtain ⟨ao, cap, rfl⟩ := h.shape
  have hb : Below w.heap.size w (w.alloc (.cells #[.int .i64 kind, .slice ao L.length cap, .int .i64 e] 72)) := (Below.refl _ _).alloc (Nat.le_refl _) _
  have HC := Lib.hid (names_any kind e _ L a _ (h.mono hb))
  have HB := Lib.hid hb
  clear h hb
  go_enter Try.func49, Try.ntmps49
  go_wp2_with fail
  refine HC.out.mono ?_
  rintro e w' ⟨rfl, hb⟩
  have HB' := Lib.hid (HB.out.trans (hb.mono HB.out.size))
  clear HC hb
  go_wp2
  go_ret
  exact ⟨ret_bool (by simp), HB'.out⟩
end Go.Proofs.Ytkphgonbbhlnfaa
