/- Maps keyed by a place, a pair of ints: the keys; what a list has collected of such a map. -/
import Derived.Test.YtmhldokaphlppaaInts
import Derived.Maps.Ext
import Derived.Maps.OwnSet
import Derived.Maps.RangeWalk
import Derived.WideKeyPair
import Derived.DeepKeys4
namespace Go.Proofs.Ytmhldokaphlppaa
open Go.RowKit Go.Maps Go.WideMaps

theorem arrPlace : ArrKey Try.prog 45 3 2 := ⟨Try.underlying45, by kernel_rfl, by kernel_rfl, by kernel_rfl⟩
theorem hasTypes : ∃ m, Try.prog.types.size = m + 1 := ⟨92, by kernel_rfl⟩
theorem lawP : Keyed Try.prog 45 := Keyed.of_law arrPlace.law

def plKey (v p : Int) : Lit := .string (keyBytes [.int .i64 v, .int .i64 p])
def plVal (x : Int × Int) : Value := .agg #[.int .i64 x.1, .int .i64 x.2]

theorem key_mk {v p : Int} (hv : (Lit.int .i64 v).wf = true) (hp : (Lit.int .i64 p).wf = true) : keyOf Try.prog 45 (.agg #[.int .i64 v, .int .i64 p]) = some (plKey v p) :=
  keyOf_pair arrPlace Try.underlying3 hasTypes hv hp

theorem key_inj {v p v' p' : Int} (hv : (Lit.int .i64 v).wf = true) (hp : (Lit.int .i64 p).wf = true) (hv' : (Lit.int .i64 v').wf = true) (hp' : (Lit.int .i64 p').wf = true) (h : plKey v p = plKey v' p') : v = v' ∧ p = p' := by
  have := lawP.inj (key_mk hv hp) (h ▸ key_mk hv' hp')
  simpa using this

theorem lits_int {d : Nat} {cs : List Value} {l : List Lit} (h : Try.prog.keyLits d 3 cs = some l) : ∃ n, cs = [.int .i64 n] ∧ l = [.int .i64 n] ∧ (Lit.int .i64 n).wf = true := by
  cases d with
  | zero => simp [Program.keyLits] at h
  | succ d =>
    unfold Program.keyLits at h
    rw [Try.underlying3] at h
    split at h
    all_goals first
      | (cases h; done)
      | (simp_all; done)
      | (simp_all; exact ⟨_, ⟨h.1.1, rfl⟩, h.2.symm, h.1.1 ▸ h.1.2⟩)

theorem key_inv {key : Value} {kl : Lit} (h : keyOf Try.prog 45 key = some kl) : ∃ x : Int × Int, key = plVal x ∧ kl = plKey x.1 x.2 ∧ (Lit.int .i64 x.1).wf = true ∧ (Lit.int .i64 x.2).wf = true := by
  obtain ⟨m, hm⟩ := hasTypes
  unfold keyOf at h
  simp only [Try.underlying45] at h
  split at h
  · rename_i hf
    have hfm : key.formed Try.prog 45 = true := by simp at hf; exact hf.2
    cases key <;> simp [Value.formed, Try.underlying45] at hfm
    rename_i cs
    rw [arrPlace.size] at hfm
    obtain ⟨l⟩ := cs
    match l, hfm with
    | [c0, c1], _ =>
      rw [hm] at h
      unfold Program.keyLits at h
      simp only [Try.underlying45, Value.cells] at h
      rw [if_pos (by rw [arrPlace.size]; rfl)] at h
      simp only [Option.map_eq_some_iff] at h
      obtain ⟨ls, ⟨xs, hx, e1⟩, e2⟩ := h
      rw [show List.range 2 = [0, 1] from rfl, List.mapM_cons, List.mapM_cons, List.mapM_nil] at hx
      simp only [bind, Option.bind_eq_some_iff, pure, Option.some.injEq, arrPlace.one] at hx
      obtain ⟨y0, h0, _, ⟨y1, h1, _, rfl, rfl⟩, rfl⟩ := hx
      obtain ⟨a, ea, rfl, wa⟩ := lits_int h0
      obtain ⟨b, eb, rfl, wb⟩ := lits_int h1
      simp at ea eb
      subst ea; subst eb; subst e1; subst e2
      exact ⟨(a, b), rfl, rfl, wa, wb⟩
  · cases h

theorem plKey_isKey (v p : Int) : WideAt.IsKeyLit (plKey v p) := trivial

/-- which ports of a VLAN a list has collected of those that hold Q, while 'left' says what is still to come -/
def Coll {H : Type} (D : DataW H) (Q : Lit → Bool) (v : Int) (left : Lit → Bool) (P0 : Int → Prop) (L : List Int) : Prop :=
  (∀ x, x ∈ L → (Lit.int .i64 x).wf = true) ∧ ∀ x, (Lit.int .i64 x).wf = true → (x ∈ L ↔ P0 x ∨ (has D (plKey v x) = true ∧ Q (plKey v x) = true ∧ left (plKey v x) = false))

theorem coll_start {H : Type} (D : DataW H) (Q : Lit → Bool) (v : Int) (P0 : Int → Prop) (L : List Int) (hw : ∀ x, x ∈ L → (Lit.int .i64 x).wf = true) (h : ∀ x, (Lit.int .i64 x).wf = true → (x ∈ L ↔ P0 x)) : Coll D Q v (has D) P0 L :=
  ⟨hw, fun x hx => by
    rw [h x hx]
    constructor
    · exact .inl
    · rintro (h | ⟨h1, _, h2⟩)
      · exact h
      · rw [h1] at h2; cases h2⟩

/-- an entry that is of another VLAN, or that does not hold Q -/
theorem coll_skip {H : Type} {D : DataW H} {Q : Lit → Bool} {v : Int} {left : Lit → Bool} {P0 : Int → Prop} {L : List Int} (h : Coll D Q v left P0 L) {a p : Int} (hv : (Lit.int .i64 v).wf = true) (ha : (Lit.int .i64 a).wf = true) (hp : (Lit.int .i64 p).wf = true)
    (hn : a = v → Q (plKey a p) = false) : Coll D Q v (fun z => left z && !z.sameKey (plKey a p)) P0 L :=
  ⟨h.1, fun x hx => by
    rw [h.2 x hx]
    by_cases e : plKey v x = plKey a p
    · obtain ⟨e1, e2⟩ := key_inj hv hx ha hp e
      subst e1; subst e2
      simp [hn rfl]
    · simp [Maps.sameKey_ne e]⟩

/-- an entry that is one -/
theorem coll_take {H : Type} {D : DataW H} {Q : Lit → Bool} {v : Int} {left : Lit → Bool} {P0 : Int → Prop} {L : List Int} (h : Coll D Q v left P0 L) {p : Int} (hv : (Lit.int .i64 v).wf = true) (hp : (Lit.int .i64 p).wf = true)
    (hh : has D (plKey v p) = true) (hq : Q (plKey v p) = true) : Coll D Q v (fun z => left z && !z.sameKey (plKey v p)) P0 (L ++ [p]) :=
  ⟨fun x hx => by
    rcases List.mem_append.1 hx with hx | hx
    · exact h.1 x hx
    · rw [List.mem_singleton.1 hx]; exact hp, fun x hx => by
    rw [List.mem_append, h.2 x hx, List.mem_singleton]
    by_cases e : x = p
    · subst e
      simp [hh, hq, WideAt.sameKey_self (plKey_isKey v x)]
    · have e' : plKey v x ≠ plKey v p := fun h' => e (key_inj hv hx hv hp h').2
      simp [Maps.sameKey_ne e', e]⟩

theorem coll_end {H : Type} {D : DataW H} {Q : Lit → Bool} {v : Int} {left : Lit → Bool} {P0 : Int → Prop} {L : List Int} (h : Coll D Q v left P0 L) (hl : ∀ k, left k = false) :
    (∀ x, x ∈ L → (Lit.int .i64 x).wf = true) ∧ ∀ x, (Lit.int .i64 x).wf = true → (x ∈ L ↔ P0 x ∨ (has D (plKey v x) = true ∧ Q (plKey v x) = true)) :=
  ⟨h.1, fun x hx => by rw [h.2 x hx]; simp [hl]⟩

/-- is what was heard at a key still told? -/
def fresh {H : Type} (D : DataW H) (age now : Int) (k : Lit) : Bool :=
  match D.atKey k .nil with
  | .lit (.int .i64 a) => decide (now < wrap64 (a + age))
  | _ => false

theorem fresh_has {H : Type} {D : DataW H} {age now : Int} {k : Lit} {p : Prop} : (p ∨ has D k = true ∧ fresh D age now k = true) ↔ (p ∨ fresh D age now k = true) := by
  cases hh : has D k
  · simp [fresh, atKey_of_not_has hh]
  · simp

section
variable {H : Type} (w : World) {ops : Array Oper} {rest : List Oper} {o : Oper} {a : Act} {Q : Exit → Act → World → Prop}

theorem plainElem_bool_inv {v : Value} {z : DataW H × List MemPlace} (h : plainElem Try.prog 4 v = some z) : ∃ c, v = .bool c := by
  unfold plainElem at h
  rw [Try.underlying4] at h
  cases v <;> simp at h
  exact ⟨_, rfl⟩

theorem wpList_next_fixed (hg : o.guard = none) (it : Operand) (hop : o.op = Op.next it false) (b r n : Nat) (D : DataW H) (left : Lit → Bool) (cnt : Nat)
    (hit : a.eval it = .pointer (some ⟨r, 0, none⟩)) (h : w.ranges Try.prog 45 (plainElem Try.prog 4) b r n D left cnt)
    (hDone : (∀ kl, left kl = false) → wpList Try.prog ops Q rest (a.put o.dst (.tuple #[.bool false])) w)
    (hMore : ∀ (x y : Int) (c : Value) (w' : World) (cnt' : Nat), (Lit.int .i64 x).wf = true → (Lit.int .i64 y).wf = true → has D (plKey x y) = true → w'.ranges Try.prog 45 (plainElem Try.prog 4) b r n D (fun z => left z && !z.sameKey (plKey x y)) cnt' → cnt' < cnt →
      w.grownBy w' (some r) → (Instr.entry (.pointer (some ⟨r, 0, none⟩))).run Try.prog w' = .ok (.tuple #[.agg #[.int .i64 x, .int .i64 y], c]) w' → wpList Try.prog ops Q rest (a.put o.dst (.tuple #[.bool true, .agg #[.int .i64 x, .int .i64 y], c])) w') :
    wpList Try.prog ops Q (o :: rest) a w :=
  wpList_next_ranges w hg it hop _ lawP _ plVal Value.bool (fun key kl hkey => by obtain ⟨x, e, _⟩ := key_inv hkey; exact ⟨x, e⟩) (fun v y hv => plainElem_bool_inv hv) b r n D left cnt hit h (fun _ h => hDone h)
    (fun x c kl y w' cnt' hkey hlk hv hat hrg hlt hgr hsz hen => by
      obtain ⟨x', ex, rfl, w1, w2⟩ := key_inv hkey
      obtain rfl : x = x' := by cases x; cases x'; simpa [plVal] using ex
      exact hMore x.1 x.2 (.bool c) w' cnt' w1 w2 (has_true_of_atKey hat) hrg hlt hgr hen)

theorem wpList_next_heard (hg : o.guard = none) (it : Operand) (hop : o.op = Op.next it false) (b r n : Nat) (D : DataW H) (left : Lit → Bool) (cnt : Nat)
    (hit : a.eval it = .pointer (some ⟨r, 0, none⟩)) (h : w.ranges Try.prog 45 (plainElem Try.prog 3) b r n D left cnt)
    (hDone : (∀ kl, left kl = false) → wpList Try.prog ops Q rest (a.put o.dst (.tuple #[.bool false])) w)
    (hMore : ∀ (x y c : Int) (w' : World) (cnt' : Nat), (Lit.int .i64 x).wf = true → (Lit.int .i64 y).wf = true → (Lit.int .i64 c).wf = true → has D (plKey x y) = true → D.atKey (plKey x y) .nil = .lit (.int .i64 c) → w'.ranges Try.prog 45 (plainElem Try.prog 3) b r n D (fun z => left z && !z.sameKey (plKey x y)) cnt' → cnt' < cnt →
      w.grownBy w' (some r) → (Instr.entry (.pointer (some ⟨r, 0, none⟩))).run Try.prog w' = .ok (.tuple #[.agg #[.int .i64 x, .int .i64 y], .int .i64 c]) w' → wpList Try.prog ops Q rest (a.put o.dst (.tuple #[.bool true, .agg #[.int .i64 x, .int .i64 y], .int .i64 c])) w') :
    wpList Try.prog ops Q (o :: rest) a w :=
  wpList_next_ranges w hg it hop _ lawP _ plVal (Value.int .i64) (fun key kl hkey => by obtain ⟨x, e, _⟩ := key_inv hkey; exact ⟨x, e⟩) (fun v y hv => by obtain ⟨c, rfl, _⟩ := plainElem_int_inv Try.underlying3 hv; exact ⟨c, rfl⟩) b r n D left cnt hit h (fun _ h => hDone h)
    (fun x c kl y w' cnt' hkey hlk hv hat hrg hlt hgr hsz hen => by
      obtain ⟨x', ex, rfl, w1, w2⟩ := key_inv hkey
      obtain rfl : x = x' := by cases x; cases x'; simpa [plVal] using ex
      obtain ⟨c', ec, e2, wc⟩ := plainElem_int_inv Try.underlying3 hv
      obtain rfl : c = c' := by simpa using ec
      exact hMore x.1 x.2 c w' cnt' w1 w2 wc (has_true_of_atKey hat) (by rw [hat]; rw [e2]) hrg hlt hgr hen)
end
end Go.Proofs.Ytmhldokaphlppaa
