/- slices.Sort and slices.Compact of a list of strings that the call has built: the rising list of all. -/
import Derived.Test.YtkphgonbbhlnfaaStrPlain
import Derived.Test.YtkphgonbbhlnfaaApp
namespace Go.Proofs.Ytkphgonbbhlnfaa
open Go.RowKit Go.Lib Go.Sort

theorem add_lit (b off k : Nat) : (⟨b, off, none⟩ : Addr).add k = ⟨b, off + k, none⟩ := by unfold Addr.add; split <;> simp_all

theorem encs_one (L : List Str) : ∀ u ∈ L.map encStr, u.oneCell' = true := by
  intro u hu
  obtain ⟨x, _, rfl⟩ := List.mem_map.1 hu
  rfl

theorem Strs.sliceOf {w : World} {v : Value} {L : List Str} (h : Strs w v L) : SliceOf w 1 v L.length (L.map encStr) := by
  obtain ⟨ao, cap, b, off, rfl, h0, h1, h2, h3⟩ := h
  refine ⟨ao, cap, rfl, by simp, encs_one L, ?_⟩
  by_cases hz : L.length = 0
  · exact .inl hz
  · refine .inr ⟨⟨b, off, none⟩, ?_, fun j x hj => ?_⟩
    · rcases h0 with rfl | h0
      · simp at hz
      · exact h0
    · obtain ⟨hlt, e⟩ := List.getElem?_eq_some_iff.1 hj
      rw [add_lit, (h3 j (by simpa using hlt)).2, ← e]
      simp [List.getD_eq_getElem?_getD, show j < L.length by simpa using hlt]

theorem Strs.cutTo {w : World} {a : Addr} {cap : Nat} {L : List Str} (n : Nat) (hn : n ≤ L.length) (h : Strs w (.slice (some a) L.length cap) L) : Strs w (.slice (some a) n cap) (L.take n) := by
  obtain ⟨ao, cap', b, off, e, h0, h1, h2, h3⟩ := h
  have hl : (L.take n).length = n := by rw [List.length_take]; omega
  by_cases hz : n = 0
  · subst hz
    exact ⟨some a, cap, b, off, by simp, .inl (by simp), by simp, by simp, fun k hk => by simp at hk⟩
  · rcases h0 with h0 | h0
    · subst h0; simp at hn; omega
    · subst h0
      simp at e
      obtain ⟨rfl, rfl⟩ := e
      refine ⟨_, cap, b, off, by rw [hl], .inr rfl, by omega, fun x hx => h2 x (List.mem_of_mem_take hx), fun k hk => ?_⟩
      rw [hl] at hk
      obtain ⟨h4, h5⟩ := h3 k (by omega)
      refine ⟨h4, ?_⟩
      rw [h5]
      simp [List.getD_eq_getElem?_getD, hk]

/-- what a call has built, sorted and made compact (in whatever world behind the sorting) -/
theorem ssorted_compact' {w : World} {base : Nat} {v : Value} {L : List Str} (hrow : w.ownsRow base 25 1 v L.length (L.map encStr)) (hl : L.length ≤ 8796093022208) (hw : ∀ x ∈ L, x.length ≤ maxLen) :
    Calls Try.prog 45 #[v] w fun e w' => e = .returned (.tuple #[]) ∧ w.grownBy w' v.ownBlock ∧ ∀ W, Below w'.heap.size w' W → Calls Try.prog 30 #[v] W fun e w'' =>
      ∃ o, e = .returned o ∧ Strs w'' o (sasc L) ∧ W.grownBy w'' v.ownBlock ∧ o.ownBlock = v.ownBlock := by
  rcases hrow.2 with ⟨rfl, h0⟩ | ⟨g, cap, cur, rfl, hbase, hb, h1, h2, h3, h4⟩
  · rw [List.length_eq_zero_iff] at h0
    subst h0
    refine (Try.slices_Sort_addr_none none 0 w).mono ?_
    rintro e w' ⟨rfl, rfl⟩
    refine ⟨rfl, ⟨rfl, rfl, rfl, Nat.le_refl _, fun _ _ _ => rfl⟩, fun W _ => (Try.slices_Compact_addr_empty none 0 W).mono ?_⟩
    rintro e w'' ⟨rfl, rfl⟩
    have he : sasc [] = [] := List.eq_nil_of_length_eq_zero (by have := sasc_length []; simpa using this)
    exact ⟨_, rfl, by rw [he]; exact Strs.nil _, ⟨rfl, rfl, rfl, Nat.le_refl _, fun _ _ _ => rfl⟩, rfl⟩
  · refine (Try.slices_Sort_addr g 0 cap L w (holds_of_block hb (by simpa using h4)) (Array.getElem?_eq_some_iff.1 hb).1 (by omega)).mono ?_
    rintro e w' ⟨rfl, n, os, rfl⟩
    refine ⟨rfl, ?_⟩
    obtain ⟨S, hS⟩ : ∃ S, S = L.mergeSort fun x y => decide (x ≤ y) := ⟨_, rfl⟩
    have hSl : S.length = L.length := by rw [hS]; simp
    have hSm : ∀ x, x ∈ S ↔ x ∈ L := fun x => by rw [hS]; exact List.mem_mergeSort
    have hSa : compact S = sasc L := by rw [hS]; rfl
    rw [← hS]
    have hg1 := grownBy_sorted (n := n) (os := os) S.toArray (w := w) (g := g)
    have hown := ownsRow_sorted (n := n) (os := os) (ts := S) hSl hbase hb h1 h2 h3
    obtain ⟨w1, hw1⟩ : ∃ w1, w1 = grow (putRow encStr (Sort.ahead w n) g 0 S.toArray) os := ⟨_, rfl⟩
    rw [← hw1] at hg1 hown ⊢
    refine ⟨hg1, fun W hW => ?_⟩
    replace hown : W.ownsRow base 25 1 (.slice (some ⟨g, 0, none⟩) L.length cap) L.length (S.map encStr) :=
      hown.kept (row := none) ⟨hW.os, hW.tape, hW.output, hW.size, fun k hk _ => hW.block k hk⟩ (by simp [Value.ownBlock])
    rcases hown.2 with ⟨hv, _⟩ | ⟨g', cap', cur', hv, hbase', hb', h1', h2', h3', h4'⟩
    · cases hv
    · cases hv
      rw [← hSl] at h1' h4' ⊢
      refine (Try.slices_Compact_addr g 0 cap S W (holds_of_block hb' (by simpa using h4')) (by omega) h1').mono ?_
      rintro e w'' ⟨rfl, q, rfl⟩
      have hcl := compact_length_le S
      have hT : (compact S ++ List.replicate (S.length - (compact S).length) []).length = S.length := by simp; omega
      obtain ⟨T, hTe⟩ : ∃ T, T = compact S ++ List.replicate (S.length - (compact S).length) [] := ⟨_, rfl⟩
      rw [← hTe] at hT ⊢
      have hg2 := grownBy_sorted (n := q) (os := #[]) T.toArray (w := W) (g := g)
      have hown2 := ownsRow_sorted (n := q) (os := #[]) (ts := T) hT hbase' hb' h1' h2' h3'
      rw [grow_empty] at hg2 hown2
      rw [← hT] at hown2
      refine ⟨_, rfl, ?_, hg2, rfl⟩
      rw [← hSa]
      have hi := Strs.own hown2 (by omega) (fun x hx => by
        rw [hTe, List.mem_append] at hx
        rcases hx with hx | hx
        · exact hw x ((hSm x).1 ((scompact_mem S x).1 hx))
        · rw [(List.mem_replicate.1 hx).2]; simp)
      have := hi.cutTo (compact S).length (by omega)
      have ht : T.take (compact S).length = compact S := by rw [hTe, List.take_left]
      rwa [ht] at this

/-- .. in the world that the sorting left -/
theorem ssorted_compact {w : World} {base : Nat} {v : Value} {L : List Str} (hrow : w.ownsRow base 25 1 v L.length (L.map encStr)) (hl : L.length ≤ 8796093022208) (hw : ∀ x ∈ L, x.length ≤ maxLen) :
    Calls Try.prog 45 #[v] w fun e w' => e = .returned (.tuple #[]) ∧ Calls Try.prog 30 #[v] w' fun e w'' =>
      ∃ o, e = .returned o ∧ Strs w'' o (sasc L) ∧ w.grownBy w'' v.ownBlock ∧ o.ownBlock = v.ownBlock :=
  (ssorted_compact' hrow hl hw).mono fun _ w' ⟨he, hg, hc⟩ => ⟨he, (hc w' (Below.refl _ _)).mono fun _ _ ⟨o, h1, h2, h3, h4⟩ => ⟨o, h1, h2, hg.andThen h3 (fun _ hj => .inr hj), h4⟩⟩
end Go.Proofs.Ytkphgonbbhlnfaa
