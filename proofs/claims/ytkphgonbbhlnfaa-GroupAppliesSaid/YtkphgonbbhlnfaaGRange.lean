/- A range over a map by addresses, under way ('Rg'). -/
import Derived.Test.YtkphgonbbhlnfaaGTurn
namespace Go.Proofs.Ytkphgonbbhlnfaa
open Go.RowKit Go.Maps Go.Lib Go.Sort

/-- block r walks over the map of block b, that tells F; those of lf are still to come -/
def Rg (w : World) (b r n : Nat) (F : Str → Option Int) (lf : Str → Bool) (cnt : Nat) : Prop :=
  ∃ (D : DataW Unit) (left : Lit → Bool), w.ranges Try.prog 25 mpT b r n D left cnt ∧ (∀ a, look D a = F a) ∧ ∀ a, left (.string a) = lf a

theorem Rg.mp {w : World} {b r n cnt : Nat} {F : Str → Option Int} {lf : Str → Bool} (h : Rg w b r n F lf cnt) : Mp w b n F := by
  obtain ⟨D, left, h, e, _⟩ := h
  exact ⟨D, h.owns, e⟩
theorem Rg.left {w : World} {b r n cnt : Nat} {F : Str → Option Int} {lf : Str → Bool} (h : Rg w b r n F lf cnt) : w.rangeLeft b r = cnt := by
  obtain ⟨D, left, h, _, _⟩ := h
  exact h.left_eq
theorem Rg.kept {w w' : World} {b r n cnt : Nat} {F : Str → Option Int} {lf : Str → Bool} {row : Option Nat} (h : Rg w b r n F lf cnt) (hg : w.grownBy w' row) (h1 : some b ≠ row) (h2 : some r ≠ row) : Rg w' b r n F lf cnt := by
  obtain ⟨D, left, h, e, l⟩ := h
  exact ⟨D, left, h.kept hg h1 h2, e, l⟩
theorem Rg.ne {w : World} {b r n cnt : Nat} {F : Str → Option Int} {lf : Str → Bool} (h : Rg w b r n F lf cnt) : r ≠ b := by
  obtain ⟨D, left, h, _, _⟩ := h
  exact h.ne

def strike (lf : Str → Bool) (x : Str) : Str → Bool := fun a => lf a && a != x

theorem strike_left {left : Lit → Bool} {lf : Str → Bool} (h : ∀ a, left (.string a) = lf a) (x : Str) (a : Str) : (left (.string a) && !(Lit.string a).sameKey (.string x)) = strike lf x a := by
  unfold strike
  rw [h]
  by_cases e : a = x
  · subst e
    rw [WideAt.sameKey_self (isKey_str a)]
    simp
  · rw [Maps.sameKey_ne (fun h => e (by injection h))]
    simp [e]

/-- a store at a key that is there -/
theorem Rg.turn {w : World} {b r n cnt : Nat} {F : Str → Option Int} {lf : Str → Bool} (h : Rg w b r n F lf cnt) (hn : n < maxLen) (x : Str) (hx : x.length ≤ maxLen) (hF : F x ≠ none) (z : Int) (hz : (Lit.int .i64 z).wf = true) :
    ∃ w', (Instr.mapUpdate 58 (.map (some b)) (.string (bstr x)) (.int .i64 z)).run Try.prog w = .ok () w' ∧ Rg w' b r n (upd F x z) lf cnt ∧ w.grownBy w' (some b) := by
  obtain ⟨D, left, h, e, l⟩ := h
  obtain ⟨w', hr, h', ht⟩ := ranges_turn h lawS Try.underlying58 hn (keyOf_bstr hx) (plainElem_int Try.underlying3 hz) ((look_has h.owns x).2 (by rw [e]; exact hF))
  exact ⟨w', hr, ⟨_, left, h', fun a => by rw [look_put h.owns.isMap]; unfold upd; rw [e a], l⟩, ht.grown⟩

/-- .. and a deletion -/
theorem Rg.drop {w : World} {b r n cnt : Nat} {F : Str → Option Int} {lf : Str → Bool} (h : Rg w b r n F lf cnt) (x : Str) (hx : x.length ≤ maxLen) (ty : TypeId) :
    ∃ w' cnt', (Builtin.delete_ #[58, 25] ty #[.map (some b), .string (bstr x)]).run Try.prog w = .ok (.tuple #[]) w' ∧ Rg w' b r n (del F x) (strike lf x) cnt' ∧ cnt' ≤ cnt ∧ w.grownBy w' (some b) := by
  obtain ⟨D, left, h, e, l⟩ := h
  obtain ⟨w', cnt', hr, h', hle, ht⟩ := h.drop lawS Try.underlying58 (keyOf_bstr hx) ty
  exact ⟨w', cnt', hr, ⟨_, _, h', fun a => by rw [look_del]; unfold del; rw [e a], fun a => strike_left l x a⟩, hle, ht.grown⟩

section
variable (w : World) {ops : Array Oper} {rest : List Oper} {o : Oper} {a : Act} {Q : Exit → Act → World → Prop}

theorem wpList_range_mp (hg : o.guard = none) (m : Operand) (hop : o.op = Op.range 58 m) (b n : Nat) (F : Str → Option Int) (hm : a.eval m = .map (some b)) (h : Mp w b n F)
    (hK : ∀ w' cnt, Rg w' b w.heap.size n F (fun a => (F a).isSome) cnt → w.grownBy w' none → w'.heap.size = w.heap.size + 1 → wpList Try.prog ops Q rest (a.put o.dst (.pointer (some ⟨w.heap.size, 0, none⟩))) w') :
    wpList Try.prog ops Q (o :: rest) a w := by
  obtain ⟨D, hown, e⟩ := h
  refine wpList_range_own w hg m 58 hop 25 3 lawS Try.underlying58 mpT b n D hm hown (fun w' h1 h2 h3 => hK w' _ ⟨D, _, h1, e, fun x => ?_⟩ h2 h3)
  have := look_has hown x
  rw [e x] at this
  show has D (.string x) = (F x).isSome
  generalize F x = o at this ⊢
  cases o
  · simpa using this
  · simpa using this

theorem wpList_next_mp (hg : o.guard = none) (it : Operand) (hop : o.op = Op.next it false) (b r n : Nat) (F : Str → Option Int) (lf : Str → Bool) (cnt : Nat) (hit : a.eval it = .pointer (some ⟨r, 0, none⟩)) (h : Rg w b r n F lf cnt)
    (hDone : (∀ x, lf x = false) → wpList Try.prog ops Q rest (a.put o.dst (.tuple #[.bool false])) w)
    (hMore : ∀ (x : Str) (c : Int) (w' : World) (cnt' : Nat), x.length ≤ maxLen → (Lit.int .i64 c).wf = true → F x = some c → lf x = true → Rg w' b r n F (strike lf x) cnt' → cnt' < cnt → w.grownBy w' (some r) →
      (Instr.entry (.pointer (some ⟨r, 0, none⟩))).run Try.prog w' = .ok (.tuple #[.string (bstr x), .int .i64 c]) w' → wpList Try.prog ops Q rest (a.put o.dst (.tuple #[.bool true, .string (bstr x), .int .i64 c])) w') :
    wpList Try.prog ops Q (o :: rest) a w := by
  obtain ⟨D, left, h, e, l⟩ := h
  refine wpList_next_ranges w hg it hop 25 lawS mpT (fun x : Str => Value.string (bstr x)) (Value.int .i64) (fun key kl hkey => by obtain ⟨x, e, _⟩ := Maps.keyOf_str Try.underlying25 hkey; exact ⟨x, by rw [e, enc_bstr]⟩)
    (fun v y hv => by obtain ⟨c, rfl, _⟩ := plainElem_int_inv Try.underlying3 hv; exact ⟨c, rfl⟩) b r n D left cnt hit h (fun _ h => hDone (fun x => by rw [← l]; exact h _))
    (fun x c kl y w' cnt' hkey hlk hv hat hrg hlt hgr hsz hen => ?_)
  obtain ⟨x', ex, rfl, hx⟩ := Maps.keyOf_str Try.underlying25 hkey
  rw [enc_bstr] at ex
  obtain rfl : x = x' := bstr_inj (by injection ex)
  obtain ⟨c', ec, e2, wc⟩ := plainElem_int_inv Try.underlying3 hv
  obtain rfl : c = c' := by simpa using ec
  refine hMore x c w' cnt' hx wc ?_ (by rw [← l]; exact hlk) ⟨D, _, hrg, e, fun a => strike_left l x a⟩ hlt hgr hen
  rw [← e x]
  unfold look
  rw [if_pos (has_true_of_atKey hat), hat, e2]
end
end Go.Proofs.Ytkphgonbbhlnfaa
