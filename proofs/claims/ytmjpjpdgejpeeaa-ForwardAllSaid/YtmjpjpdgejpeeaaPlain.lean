/- Plain facts on lists of ints, with no program in sight: rising lists with the same members are one; what 'which' gathers; sets of ints kept in a map. -/
import Derived.Test.YtmjpjpdgejpeeaaBase
import Derived.Maps.OwnSet
namespace Go.Proofs.Ytmjpjpdgejpeeaa
open Go.RowKit

theorem rev_ind {α : Type} {M : List α → Prop} (h0 : M []) (h1 : ∀ l x, M l → M (l ++ [x])) (l : List α) : M l := by
  rw [← List.reverse_reverse l]
  induction l.reverse with
  | nil => exact h0
  | cons x r ih => rw [List.reverse_cons]; exact h1 _ _ ih

/-- what is gathered: each that may be, once, in the order met -/
def gather (p : Int → Bool) (l : List Int) : List Int := l.foldl (fun a x => if !a.contains x && p x then a ++ [x] else a) []

theorem gather_snoc (p : Int → Bool) (l : List Int) (x : Int) : gather p (l ++ [x]) = if !(gather p l).contains x && p x then gather p l ++ [x] else gather p l := by
  simp [gather, List.foldl_append]

theorem gather_mem (p : Int → Bool) (l : List Int) (y : Int) : y ∈ gather p l ↔ y ∈ l ∧ p y = true := by
  refine rev_ind (M := fun l => y ∈ gather p l ↔ y ∈ l ∧ p y = true) (by simp [gather]) (fun l x ih => ?_) l
  · 
    rw [gather_snoc]
    by_cases h : (!(gather p l).contains x && p x) = true
    · rw [if_pos h, List.mem_append, ih, List.mem_append, List.mem_singleton]
      simp only [Bool.and_eq_true] at h
      constructor
      · rintro (⟨a, b⟩ | rfl)
        · exact ⟨.inl a, b⟩
        · exact ⟨.inr rfl, h.2⟩
      · rintro ⟨a | rfl, b⟩
        · exact .inl ⟨a, b⟩
        · exact .inr rfl
    · rw [if_neg h, ih, List.mem_append, List.mem_singleton]
      constructor
      · rintro ⟨a, b⟩; exact ⟨.inl a, b⟩
      · rintro ⟨a | rfl, b⟩
        · exact ⟨a, b⟩
        · simp only [b, Bool.and_true, Bool.not_eq_true', Bool.not_eq_false, List.contains_iff_mem] at h
          exact ih.1 h

theorem gather_nodup (p : Int → Bool) (l : List Int) : (gather p l).Nodup := by
  refine rev_ind (M := fun l => (gather p l).Nodup) (by simp [gather]) (fun l x ih => ?_) l
  · 
    rw [gather_snoc]
    by_cases h : (!(gather p l).contains x && p x) = true
    · rw [if_pos h, List.nodup_append]
      simp only [Bool.and_eq_true, Bool.not_eq_true', List.contains_eq_mem, decide_eq_false_iff_not] at h
      refine ⟨ih, by simp, ?_⟩
      intro a ha b hb e
      rw [List.mem_singleton] at hb
      subst hb; subst e
      exact h.1 ha
    · rw [if_neg h]; exact ih

theorem gather_length (p : Int → Bool) (l : List Int) : (gather p l).length ≤ l.length := by
  refine rev_ind (M := fun l => (gather p l).length ≤ l.length) (by simp [gather]) (fun l x ih => ?_) l
  · 
    rw [gather_snoc]
    split <;> simp <;> omega

def leI (x y : Int) : Bool := decide (x ≤ y)

/-- the same, rising -/
def canon (p : Int → Bool) (l : List Int) : List Int := (gather p l).mergeSort fun x y => decide (x ≤ y)

theorem canon_mem (p : Int → Bool) (l : List Int) (y : Int) : y ∈ canon p l ↔ y ∈ l ∧ p y = true := by
  rw [canon, List.mem_mergeSort, gather_mem]

theorem canon_length (p : Int → Bool) (l : List Int) : (canon p l).length ≤ l.length := by
  rw [canon, List.length_mergeSort]
  exact gather_length p l

theorem canon_rising (p : Int → Bool) (l : List Int) : (canon p l).Pairwise (· < ·) := by
  have h1 : (canon p l).Pairwise (fun x y => decide (x ≤ y) = true) :=
    List.pairwise_mergeSort (fun a b c h h' => by simp at *; omega) (fun a b => by simp; omega) _
  have h2 : (canon p l).Nodup := (List.mergeSort_perm _ _).nodup_iff.2 (gather_nodup p l)
  have h3 := h1.and h2
  exact h3.imp (fun ⟨h, h'⟩ => by simp at h; omega)

/-- two rising lists with the same members are one -/
theorem rising_eq : ∀ (a b : List Int), a.Pairwise (· < ·) → b.Pairwise (· < ·) → (∀ x, x ∈ a ↔ x ∈ b) → a = b := by
  intro a
  induction a with
  | nil =>
    intro b _ _ h
    cases b with
    | nil => rfl
    | cons y b => exact absurd ((h y).2 (by simp)) (by simp)
  | cons x a ih =>
    intro b ha hb h
    cases b with
    | nil => exact absurd ((h x).1 (by simp)) (by simp)
    | cons y b =>
      rw [List.pairwise_cons] at ha hb
      have hxy : x = y := by
        have h1 := (h x).1 (by simp)
        have h2 := (h y).2 (by simp)
        rw [List.mem_cons] at h1 h2
        rcases h1 with h1 | h1
        · exact h1
        · rcases h2 with h2 | h2
          · exact h2.symm
          · have := hb.1 x h1
            have := ha.1 y h2
            omega
      subst hxy
      rw [ih b ha.2 hb.2 (fun z => ?_)]
      have hz := h z
      rw [List.mem_cons, List.mem_cons] at hz
      constructor
      · intro hm
        rcases hz.1 (.inr hm) with rfl | h'
        · exact absurd (ha.1 _ hm) (by omega)
        · exact h'
      · intro hm
        rcases hz.2 (.inr hm) with rfl | h'
        · exact absurd (hb.1 _ hm) (by omega)
        · exact h'

theorem canon_filter (p q : Int → Bool) (l : List Int) : (canon p l).filter q = canon (fun x => p x && q x) l :=
  rising_eq _ _ ((canon_rising p l).filter _) (canon_rising _ l) (fun x => by rw [List.mem_filter, canon_mem, canon_mem]; simp [and_assoc])

/-- of rising ones again the same -/
theorem canon_canon (p q : Int → Bool) (l : List Int) : canon q (canon p l) = canon (fun x => p x && q x) l :=
  rising_eq _ _ (canon_rising q _) (canon_rising _ l) (fun x => by rw [canon_mem, canon_mem, canon_mem]; simp [and_assoc])

/-- a set of ints, kept in a map whose elements are bools -/
def IntSet (w : World) (b n : Nat) (S : List Int) : Prop :=
  ∃ D : DataW Unit, w.ownsMap Try.prog 3 (plainElem Try.prog 4) b n D ∧ ∀ x, (Lit.int .i64 x).wf = true → D.atKey (.int .i64 x) (.lit (.bool false)) = .lit (.bool (S.contains x))

theorem plainElem_bool_inv {H : Type} {P : Program} {e : TypeId} (he : P.underlying e = some .bool) {v : Value} {z : DataW H × List MemPlace} (h : plainElem P e v = some z) : ∃ x, v = .bool x ∧ z = (.lit (.bool x), []) := by
  unfold plainElem at h
  rw [he] at h
  cases v <;> simp at h
  exact ⟨_, rfl, h.symm⟩

theorem lawI : Maps.Keyed Try.prog 3 := Maps.int_keyed Try.underlying3

theorem IntSet.look {w : World} {b n : Nat} {S : List Int} (h : IntSet w b n S) {x : Int} (hx : (Lit.int .i64 x).wf = true) :
    (Instr.lookup 40 (.map (some b)) (.int .i64 x) false).run Try.prog w = .ok (.bool (S.contains x)) w := by
  obtain ⟨D, hown, hS⟩ := h
  have hz : (zeroValue 4).run Try.prog w = .ok (.bool false) w := by kernel_rfl
  obtain ⟨v, ps, hrun, hv⟩ := hown.lookup lawI Try.underlying40 hz (plainElem_bool Try.underlying4 false) (Maps.keyOf_int_mk Try.underlying3 hx)
  obtain ⟨c, rfl, hc⟩ := plainElem_bool_inv Try.underlying4 hv
  rw [hS x hx] at hc
  simp only [Prod.mk.injEq, DataW.lit.injEq, Lit.bool.injEq] at hc
  rw [hrun, hc.1]

theorem IntSet.made (w : World) : IntSet (w.alloc (.map #[] 0)) w.heap.size 0 [] :=
  ⟨.map [], World.ownsMap_made _ _ _ _, fun x _ => by simp [DataW.atKey]⟩

theorem IntSet.kept {w w' : World} {b n : Nat} {S : List Int} {row : Option Nat} (h : IntSet w b n S) (hg : w.grownBy w' row) (hne : some b ≠ row) : IntSet w' b n S := by
  obtain ⟨D, h1, h2⟩ := h
  exact ⟨D, h1.kept hg hne, h2⟩

theorem IntSet.mono {w : World} {b n n' : Nat} {S : List Int} (h : IntSet w b n S) (hn : n ≤ n') : IntSet w b n' S := by
  obtain ⟨D, h1, h2⟩ := h
  exact ⟨D, h1.mono hn, h2⟩

end Go.Proofs.Ytmjpjpdgejpeeaa
