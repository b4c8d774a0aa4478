/- A map by addresses with times in memory ('Mp'). -/
import Derived.Test.YtkphgonbbhlnfaaTms
import Derived.Maps.OwnSet
import Derived.Maps.OwnOps
import Derived.Maps.RangeWalk
import Derived.Sort.KeysCollected
namespace Go.Proofs.Ytkphgonbbhlnfaa
open Go.RowKit Go.Maps Go.Lib Go.Sort

noncomputable abbrev mpT : Value → Option (DataW Unit × List MemPlace) := plainElem Try.prog 3
theorem lawS : Keyed Try.prog 25 := string_keyed Try.underlying25

/-- what is known of an address -/
def look (D : DataW Unit) (a : Str) : Option Int :=
  if has D (.string a) then (match D.atKey (.string a) (.lit (.int .i64 0)) with | .lit (.int .i64 z) => some z | _ => none) else none

/-- block b is a map of at most n addresses that tells F -/
def Mp (w : World) (b n : Nat) (F : Str → Option Int) : Prop :=
  ∃ D : DataW Unit, w.ownsMap Try.prog 25 mpT b n D ∧ ∀ a, look D a = F a

def upd (F : Str → Option Int) (a : Str) (z : Int) : Str → Option Int := fun x => if x = a then some z else F x
def del (F : Str → Option Int) (a : Str) : Str → Option Int := fun x => if x = a then none else F x

theorem keyOf_bstr {a : Str} (h : a.length ≤ maxLen) : keyOf Try.prog 25 (.string (bstr a)) = some (.string a) := by
  simp [keyOf, Try.underlying25, mapKey, bstr_size, h]
  exact bstr_data a

theorem isKey_str (a : Str) : WideAt.IsKeyLit (.string a) := trivial

theorem look_put {D : DataW Unit} (hD : IsMap D) (a : Str) (z : Int) (x : Str) : look (D.put (.string a) (.lit (.int .i64 z))) x = upd (look D) a z x := by
  unfold look upd
  by_cases e : x = a
  · subst e
    rw [has_put_same hD (isKey_str x), atKey_put_same hD (isKey_str x)]
    simp
  · have hne : Lit.string x ≠ Lit.string a := fun h => e (by injection h)
    rw [has_put_other hne, atKey_put_other hne, if_neg e]

theorem look_del {D : DataW Unit} (a : Str) (x : Str) : look (D.del (.string a)) x = del (look D) a x := by
  unfold look del
  by_cases e : x = a
  · subst e
    rw [has_del_same]
    simp
  · have hne : Lit.string x ≠ Lit.string a := fun h => e (by injection h)
    rw [if_neg e]
    simp only [has_del_other hne, atKey_del_other hne]

theorem Mp.lt {w : World} {b n : Nat} {F : Str → Option Int} (h : Mp w b n F) : b < w.heap.size := by
  obtain ⟨D, h, _⟩ := h
  exact h.lt
theorem Mp.kept {w w' : World} {b n : Nat} {F : Str → Option Int} {row : Option Nat} (h : Mp w b n F) (hg : w.grownBy w' row) (hne : some b ≠ row) : Mp w' b n F := by
  obtain ⟨D, h, e⟩ := h
  exact ⟨D, h.kept hg hne, e⟩
theorem Mp.below {w w' : World} {b n B : Nat} {F : Str → Option Int} (h : Mp w b n F) (hb : Below B w w') (hlt : b < B) : Mp w' b n F := by
  obtain ⟨D, ⟨es, clock, h1, h2⟩, e⟩ := h
  exact ⟨D, ⟨es, clock, (hb.block b hlt).trans h1, h2⟩, e⟩
theorem Mp.set {w : World} {b n : Nat} {F : Str → Option Int} (h : Mp w b n F) {p : Addr} (hp : b ≠ p.block) (u : Value) : Mp (w.setCell p u) b n F := by
  obtain ⟨D, h, e⟩ := h
  exact ⟨D, h.setCell hp u, e⟩
theorem Mp.made (w : World) : Mp (w.alloc (.map #[] 0)) w.heap.size 0 (fun _ => none) :=
  ⟨.map [], World.ownsMap_made w _ _ _, fun a => by simp [look, has]⟩
theorem Mp.up {w : World} {b n m : Nat} {F : Str → Option Int} (h : Mp w b n F) (hm : n ≤ m) : Mp w b m F := by
  obtain ⟨D, h, e⟩ := h
  exact ⟨D, h.mono hm, e⟩
theorem Mp.wf {w : World} {b n : Nat} {F : Str → Option Int} (h : Mp w b n F) (a : Str) (ha : a.length ≤ maxLen) (z : Int) (hz : F a = some z) : (Lit.int .i64 z).wf = true := by
  obtain ⟨D, h, e⟩ := h
  obtain ⟨c, _, hat, hw⟩ := h.lookup_int lawS Try.underlying58 Try.underlying3 (Try.zeroValue3 w) (keyOf_bstr ha)
  rw [← e a] at hz
  unfold look at hz
  rw [hat] at hz
  split at hz
  · simp at hz; subst hz; exact hw
  · cases hz

/-- what a look-up hands back -/
theorem Mp.get {w : World} {b n : Nat} {F : Str → Option Int} (h : Mp w b n F) (a : Str) (ha : a.length ≤ maxLen) :
    (Instr.lookup 58 (.map (some b)) (.string (bstr a)) false).run Try.prog w = .ok (.int .i64 ((F a).getD 0)) w := by
  obtain ⟨D, h, e⟩ := h
  obtain ⟨c, hr, hat, hw⟩ := h.lookup_int lawS Try.underlying58 Try.underlying3 (Try.zeroValue3 w) (keyOf_bstr ha)
  rw [hr, ← e a]
  unfold look
  rw [hat]
  by_cases hh : has D (.string a) = true
  · simp [hh]
  · have := atKey_of_not_has (by simpa using hh) (.lit (.int .i64 0) : DataW Unit) (D := D) (k := .string a)
    rw [hat] at this
    simp only [DataW.lit.injEq, Lit.int.injEq, true_and] at this
    simp [hh, this]

theorem Mp.getOk {w : World} {b n : Nat} {F : Str → Option Int} (h : Mp w b n F) (a : Str) (ha : a.length ≤ maxLen) :
    (Instr.lookup 58 (.map (some b)) (.string (bstr a)) true).run Try.prog w = .ok (.tuple #[.int .i64 ((F a).getD 0), .bool (F a).isSome]) w := by
  have hg := h.get a ha
  obtain ⟨D, h, e⟩ := h
  obtain ⟨v, ps, hr, hv⟩ := h.look_ok lawS Try.underlying58 (Try.zeroValue3 w) (plainElem_int Try.underlying3 (by decide)) (keyOf_bstr ha)
  obtain ⟨c, rfl, hc, hw⟩ := plainElem_int_inv Try.underlying3 hv
  simp only [Prod.mk.injEq] at hc
  rw [hr, ← e a]
  unfold look
  rw [hc.1]
  by_cases hh : has D (.string a) = true
  · simp [hh]
  · have := atKey_of_not_has (by simpa using hh) (.lit (.int .i64 0) : DataW Unit) (D := D) (k := .string a)
    rw [hc.1] at this
    simp only [DataW.lit.injEq, Lit.int.injEq, true_and] at this
    simp [hh, this]

/-- .. and a store -/
theorem Mp.put {w : World} {b n : Nat} {F : Str → Option Int} (h : Mp w b n F) (a : Str) (ha : a.length ≤ maxLen) (z : Int) (hz : (Lit.int .i64 z).wf = true) (hn : n < maxLen) :
    ∃ w', (Instr.mapUpdate 58 (.map (some b)) (.string (bstr a)) (.int .i64 z)).run Try.prog w = .ok () w' ∧ Mp w' b (n + 1) (upd F a z) ∧ w.grownBy w' (some b) := by
  obtain ⟨D, h, e⟩ := h
  obtain ⟨w', hr, h', hg⟩ := h.update lawS Try.underlying58 hn (keyOf_bstr ha) (plainElem_int Try.underlying3 hz)
  exact ⟨w', hr, ⟨_, h', fun x => by rw [look_put h.isMap]; unfold upd; rw [e x]⟩, hg⟩
end Go.Proofs.Ytkphgonbbhlnfaa
