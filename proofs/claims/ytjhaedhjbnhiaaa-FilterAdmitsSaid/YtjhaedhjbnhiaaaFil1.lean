/- Filters: few, Admits of both packages. -/
import Derived.Test.YtjhaedhjbnhiaaaStrRising
namespace Go.Proofs.Ytjhaedhjbnhiaaa
open Go.RowKit Go.Sort

def RetV (w : World) (v : Value) (e : Ending) (w' : World) : Prop := e = .returned v ∧ Below w.heap.size w w'

theorem cell_of {w : World} {b : Nat} {cs : Array Value} {T : TypeId} {fr : Nat × Nat} (h : w.heap[b]? = some (.cells cs T fr)) (k : Nat) (v : Value) (hk : cs[k]? = some v) : w.cell? ⟨b, k, none⟩ = some v := by
  simp [World.cell?, h, hk]

/-- does a filter let x through? -/
def adm (e : Bool) (L : List Str) (x : Str) : Bool := L.contains x != e

set_option maxHeartbeats 1000000 in
theorem few_any (e1 e2 : Bool) (v u : Value) (A B : List Str) (w : World) (h : Strs w v A) (h' : Strs w u B) :
    Calls Try.prog 9 #[.agg #[.bool e1, v], .agg #[.bool e2, u]] w (RetV w (.bool (decide (A.length ≤ 100) && decide (B.length ≤ 100)))) := by
  obtain ⟨ao, cap, rfl⟩ := h.shape
  obtain ⟨bo, bcap, rfl⟩ := h'.shape
  obtain ⟨_, _, _, hlen, _, _⟩ := h.facts
  obtain ⟨_, _, _, hlen', _, _⟩ := h'.facts
  have HB := Lib.hid (((Below.refl _ w).alloc (Nat.le_refl _) (.cells #[.bool e1, .slice ao A.length cap] 24)).alloc (by simp) (.cells #[.bool e2, .slice bo B.length bcap] 24))
  clear h h'
  by_cases ha : A.length ≤ 100
  · have d1 : decide ((A.length : Int) ≤ 100) = true := decide_eq_true (by omega)
    obtain ⟨q, hq⟩ : ∃ q, q = decide ((B.length : Int) ≤ 100) := ⟨_, rfl⟩
    have HQ := Lib.hid (show (decide (A.length ≤ 100) && decide (B.length ≤ 100)) = q by rw [hq, decide_eq_true ha, Bool.true_and]; exact decide_eq_decide.2 (by omega))
    clear ha
    go_enter Try.func9, Try.ntmps9
    rw [HQ.out, hq]
    clear HQ hq
    go_wp2
    go_ret
    exact ⟨rfl, HB.out⟩
  · have d1 : decide ((A.length : Int) ≤ 100) = false := decide_eq_false (by omega)
    rw [decide_eq_false ha, Bool.false_and]
    clear ha
    go_enter Try.func9, Try.ntmps9
    go_wp2
    go_ret
    exact ⟨rfl, HB.out⟩

set_option maxHeartbeats 1000000 in
theorem admits_any (e1 : Bool) (v : Value) (L : List Str) (x : Str) (w : World) (h : Strs w v L) :
    Calls Try.prog 14 #[.agg #[.bool e1, v], .string (bstr x)] w fun e w' => e = .returned (.bool (adm e1 L x)) ∧ ∃ n, w' = (w.alloc (.cells #[.bool e1, v] 24)).drewN n := by
  obtain ⟨ao, cap, rfl⟩ := h.shape
  have HC := Lib.hid (fun n => scontains_any _ L x _ ((h.mono ((Below.refl _ w).alloc (Nat.le_refl _) (.cells #[.bool e1, .slice ao L.length cap] 24))).draws n))
  obtain ⟨r, hr⟩ : ∃ r, r = L.contains x := ⟨_, rfl⟩
  have HR := Lib.hid hr
  rw [← hr] at HC
  clear h hr
  go_enter Try.func14, Try.ntmps14
  go_wp2
  go_quiet ((with_reducible refine quietS (HC.out _)))
  go_wp2
  go_ret
  exact ⟨ret_bool (by rw [adm, ← HR.out]; cases r <;> cases e1 <;> rfl), _, rfl⟩

set_option maxHeartbeats 1000000 in
theorem radmits_any (e1 : Bool) (v : Value) (L : List Str) (x : Str) (w : World) (h : Strs w v L) :
    Calls Try.prog 18 #[.agg #[.bool e1, v], .string (bstr x)] w fun e w' => e = .returned (.bool (adm e1 L x)) ∧ ∃ n, w' = (w.alloc (.cells #[.bool e1, v] 24)).drewN n := by
  obtain ⟨ao, cap, rfl⟩ := h.shape
  have HC := Lib.hid (fun n => shas_any _ L x _ ((h.mono ((Below.refl _ w).alloc (Nat.le_refl _) (.cells #[.bool e1, .slice ao L.length cap] 24))).draws n))
  obtain ⟨r, hr⟩ : ∃ r, r = L.contains x := ⟨_, rfl⟩
  have HR := Lib.hid hr
  rw [← hr] at HC
  clear h hr
  go_enter Try.func18, Try.ntmps18
  go_wp2
  go_quiet ((with_reducible refine quietS (HC.out _)))
  go_wp2
  go_ret
  exact ⟨ret_bool (by rw [adm, ← HR.out]; cases r <;> cases e1 <;> rfl), _, rfl⟩
end Go.Proofs.Ytjhaedhjbnhiaaa
