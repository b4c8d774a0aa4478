/- Texts joined into one file: GPutW, GRef2, GRef3. -/
import Derived.Test.YtpibmjkbebkilaaA11
import Derived.Test.YtpibmjkbebkilaaA10

/- siphonref17.put: the walk. -/
namespace Go.Proofs.Ytpibmjkbebkilaa
open Go.RowKit Go.Lib Go.Maps Go.Sort
set_option maxRecDepth 20000

theorem sliceOf_block {w : World} {b : Nat} {cs : List Value} {T : TypeId} {fr : Nat × Nat} {size m c : Nat} (h : w.heap[b]? = some (.cells cs.toArray T fr)) (hl : cs.length = m * size) (h1 : ∀ x ∈ cs, x.oneCell' = true) :
    SliceOf w size (.slice (some ⟨b, 0, none⟩) m c) m cs := by
  refine ⟨_, _, rfl, hl, h1, .inr ⟨_, rfl, fun j x hj => ?_⟩⟩
  rw [add_lit, Nat.zero_add]
  simp [World.cell?, h, hj]

theorem putStep_len (a : Str) (z : Int) (L : List Tmd) : ∀ k, ((L.take k).foldl (putStep a z) ([], false)).1.length ≤ 2 * k
  | 0 => by simp
  | k + 1 => by
    by_cases h : k < L.length
    · have i := putStep_len a z L k
      rw [put_snoc L a z k h, putStep_eq]
      simp only [List.length_append]
      split <;> split <;> simp <;> omega
    · have i := putStep_len a z L k
      rw [List.take_of_length_le (by omega)] at i ⊢
      omega
theorem putL_wfs {L : List Tmd} (a : Str) (z : Int) (ha : a.length ≤ maxLen) (hz : (Lit.int .i64 z).wf = true) (h : ∀ t ∈ L, t.1.length ≤ maxLen ∧ (Lit.int .i64 t.2).wf = true) : ∀ t ∈ putL L a z, t.1.length ≤ maxLen ∧ (Lit.int .i64 t.2).wf = true := by
  have key : ∀ (L : List Tmd) (o : List Tmd × Bool), (∀ t ∈ L, t.1.length ≤ maxLen ∧ (Lit.int .i64 t.2).wf = true) → (∀ t ∈ o.1, t.1.length ≤ maxLen ∧ (Lit.int .i64 t.2).wf = true) → ∀ t ∈ (L.foldl (putStep a z) o).1, t.1.length ≤ maxLen ∧ (Lit.int .i64 t.2).wf = true := by
    intro L
    induction L with
    | nil => intro o _ h; exact h
    | cons u L ih =>
      intro o hL ho
      rw [List.foldl_cons]
      refine ih _ (fun t ht => hL t (List.mem_cons_of_mem _ ht)) (fun t ht => ?_)
      rw [putStep_eq] at ht
      simp only [List.mem_append] at ht
      rcases ht with (ht | ht) | ht
      · exact ho t ht
      · split at ht
        · rw [List.mem_singleton] at ht; subst ht; exact ⟨ha, hz⟩
        · cases ht
      · split at ht
        · cases ht
        · rw [List.mem_singleton] at ht; subst ht; exact hL _ (by simp)
  intro t ht
  unfold putL at ht
  rcases List.mem_append.1 ht with ht | ht
  · exact key L ([], false) h (by simp) t ht
  · split at ht
    · cases ht
    · rw [List.mem_singleton] at ht; subst ht; exact ⟨ha, hz⟩

end Go.Proofs.Ytpibmjkbebkilaa

/- siphonref17.all, kept. -/
namespace Go.Proofs.Ytpibmjkbebkilaa
open Go.RowKit Go.Lib Go.Maps Go.Sort
set_option maxRecDepth 20000

/-- a box of a state that tells F -/
def StBox (w : World) (S : Nat) (ok : Nat → Prop) (ex : Bool) (at' : Int) (n : Nat) (F : Str → Option Int) : Prop :=
  ∃ v L, CBox w S 52 #[.bool ex, .int .i64 at', v] ∧ Tms w v L ∧ Asc F L ∧ L.length ≤ n ∧ (L ≠ [] → ∀ b, v.ownBlock = some b → ok b)
theorem StBox.lt {w : World} {S n : Nat} {ok : Nat → Prop} {ex : Bool} {at' : Int} {F : Str → Option Int} (h : StBox w S ok ex at' n F) : S < w.heap.size := by
  obtain ⟨v, L, h1, _⟩ := h; exact h1.lt
theorem StBox.mono {w w' : World} {S n : Nat} {ok : Nat → Prop} {ex : Bool} {at' : Int} {F : Str → Option Int} (h : StBox w S ok ex at' n F) (hb : Below w.heap.size w w') : StBox w' S ok ex at' n F := by
  obtain ⟨v, L, h1, h2, h3, h4⟩ := h
  exact ⟨v, L, h1.below hb h1.lt, h2.mono hb, h3, h4⟩
theorem StBox.up {w : World} {S n m : Nat} {ok : Nat → Prop} {ex : Bool} {at' : Int} {F : Str → Option Int} (h : StBox w S ok ex at' n F) (hm : n ≤ m) : StBox w S ok ex at' m F := by
  obtain ⟨v, L, h1, h2, h3, h4, h5⟩ := h
  exact ⟨v, L, h1, h2, h3, by omega, h5⟩
/-- those of a list as they are in G -/
def keepF (F : Str → Option Int) (C : List Str) (G : Str → Option Int) : Str → Option Int := fun a => if C.contains a then some ((G a).getD 0) else F a
theorem keepF_nil (F G : Str → Option Int) : keepF F [] G = F := by funext a; simp [keepF]
theorem keepF_snoc (F : Str → Option Int) (C : List Str) (G : Str → Option Int) (k : Nat) (h : k < C.length) : keepF F (C.take (k + 1)) G = upd (keepF F (C.take k) G) C[k] ((G C[k]).getD 0) := by
  funext a
  unfold keepF upd
  rw [mem_snoc C a k h]
  by_cases e : a = C[k]
  · subst e; simp
  · have e' : (C[k] == a) = false := by rw [beq_eq_false_iff_ne]; exact fun h => e h.symm
    rw [e', Bool.or_false, if_neg e]

theorem asc_wf {F : Str → Option Int} {L : List Tmd} {w : World} {v : Value} (h : Asc F L) (hT : Tms w v L) (a : Str) : (Lit.int .i64 ((F a).getD 0)).wf = true := by
  cases hF : F a
  · rfl
  · rename_i z
    obtain ⟨t, ht, rfl⟩ := List.mem_map.1 ((h.1.2 a).2 (by simp [hF]))
    have := h.2 t ht
    rw [hF] at this
    injection this with e
    rw [Option.getD_some, e]
    exact (hT.wfs t ht).2

end Go.Proofs.Ytpibmjkbebkilaa

/- siphonref11.Less, Both; siphonref17.join. -/
namespace Go.Proofs.Ytpibmjkbebkilaa
open Go.RowKit Go.Lib Go.Sort
set_option maxRecDepth 20000

end Go.Proofs.Ytpibmjkbebkilaa
