/- slices.Sorted over maps.Keys of a map by addresses: its addresses, rising. -/
import Derived.Test.YtkphgonbbhlnfaaGMap
import Derived.Shelf.SlIter.Nil
import Derived.Shelf.SlIter.Sorted
namespace Go.Proofs.Ytkphgonbbhlnfaa
open Go.RowKit Go.Maps Go.Sort Go.Shelf

theorem mem_strKeys {w : World} {b n : Nat} {D : DataW Unit} (h : w.ownsMap Try.prog 25 mpT b n D) (a : Str) : a ∈ strKeys D ↔ has D (.string a) = true := by
  obtain ⟨es, rfl, hk⟩ := h.keysOf
  show a ∈ es.map (fun p => strOf p.1) ↔ _
  rw [has_eq, List.any_eq_true, List.mem_map]
  constructor
  · rintro ⟨p, hp, rfl⟩
    refine ⟨p, hp, ?_⟩
    obtain ⟨v, hv⟩ := hk p hp
    obtain ⟨x, _, e, _⟩ := Maps.keyOf_str Try.underlying25 hv
    rw [e]
    exact WideAt.sameKey_self (isKey_str x)
  · rintro ⟨p, hp, hs⟩
    refine ⟨p, hp, ?_⟩
    obtain ⟨v, hv⟩ := hk p hp
    obtain ⟨x, _, e, _⟩ := Maps.keyOf_str Try.underlying25 hv
    rw [e] at hs ⊢
    by_cases ex : x = a
    · exact ex
    · rw [Maps.sameKey_ne (fun h => ex (by injection h))] at hs
      cases hs

theorem nodup_strKeys {w : World} {b n : Nat} {D : DataW Unit} (h : w.ownsMap Try.prog 25 mpT b n D) : (strKeys D).Nodup := by
  obtain ⟨es0, e0, hp⟩ := h.tidy lawS
  obtain ⟨es, rfl, hk⟩ := h.keysOf
  injection e0 with e0
  subst e0
  show (es.map fun p => strOf p.1).Nodup
  refine List.pairwise_map.2 (hp.imp_of_mem fun {p q} hp' hq' hne e => hne ?_)
  obtain ⟨v, hv⟩ := hk p hp'
  obtain ⟨x, _, ex, _⟩ := Maps.keyOf_str Try.underlying25 hv
  obtain ⟨u, hu⟩ := hk q hq'
  obtain ⟨y, _, ey, _⟩ := Maps.keyOf_str Try.underlying25 hu
  rw [ex, ey] at e ⊢
  exact congrArg _ e

theorem look_has {w : World} {b n : Nat} {D : DataW Unit} (h : w.ownsMap Try.prog 25 mpT b n D) (a : Str) : has D (.string a) = true ↔ look D a ≠ none := by
  constructor
  · intro hh
    have ha : a.length ≤ maxLen := strKeys_le h Try.underlying25 a ((mem_strKeys h a).2 hh)
    obtain ⟨c, _, hat, _⟩ := h.lookup_int lawS Try.underlying58 Try.underlying3 (Try.zeroValue3 w) (keyOf_bstr ha)
    simp [look, hh, hat]
  · intro hl
    by_cases hh : has D (.string a) = true
    · exact hh
    · simp [look, hh] at hl

/-- a list of addresses that rises and holds just those of which something is known -/
def KeysOf' (F : Str → Option Int) (K : List Str) : Prop := K.Pairwise (· < ·) ∧ ∀ a, a ∈ K ↔ F a ≠ none

theorem keys_sorted {w : World} {b n : Nat} {D : DataW Unit} {F : Str → Option Int} (h : w.ownsMap Try.prog 25 mpT b n D) (e : ∀ a, look D a = F a) {ss : List Str} (hp : ss.Perm (strKeys D)) :
    KeysOf' F (ss.mergeSort fun x y => decide (x ≤ y)) := by
  refine ⟨?_, fun a => ?_⟩
  · have h1 := ssorted_le ss
    have h2 : (ss.mergeSort fun x y => decide (x ≤ y)).Nodup := (List.mergeSort_perm ss _).nodup_iff.2 (hp.nodup_iff.2 (nodup_strKeys h))
    exact h1.imp₂ (fun x y hle hne => ((sle_iff x y).1 hle).resolve_right hne) h2
  · rw [List.mem_mergeSort, hp.mem_iff, mem_strKeys h, look_has h, e]

theorem addrSorts (m : Nat) : AnyZ.SortsIn Try.prog Try.addrSorted_ren Fence.wide m :=
  ⟨fun blk off cap ss W hH hblk hsz => callsIn_wide.2 (AnyM.slices_Sort_string Try.addrSort blk off cap ss W hH hblk hsz),
   fun p cap W => callsIn_wide.2 (AnyM.slices_Sort_string_none Try.addrSort p cap W)⟩

theorem keys_any (mb : Option Nat) (w : World) : Calls Try.prog 43 #[.map mb] w fun e w' =>
    e = .returned (.func (.func 58) #[] #[.pointer (some ⟨w.heap.size, 0, none⟩)]) ∧ w' = w.alloc (.cells #[.map mb] 58) :=
  (callsIn_wide (n := 5)).1 (AnyZ.keys_in Try.addrKeys Fence.wide 5 trivial rfl mb w)

set_option maxHeartbeats 1000000 in
/-- in whatever world: the iterator's box B holds the map -/
theorem sortedKeys_at {w : World} {b n B : Nat} {F : Str → Option Int} (h : Mp w b n F) (hn : n ≤ 8796093022208) (hB : B < w.heap.size) (hc : w.cell? ⟨B, 0, none⟩ = some (.map (some b))) :
    Calls Try.prog 31 #[.func (.func 58) #[] #[.pointer (some ⟨B, 0, none⟩)]] w fun e w' =>
      ∃ v K, e = .returned v ∧ Strs w' v K ∧ KeysOf' F K ∧ K.length ≤ n ∧ Lies w.heap.size v ∧ Below w.heap.size w w' := by
  obtain ⟨D, hown, e⟩ := h
  have hsz : Maps.size D ≤ n := hown.size_le
  have hmax : Maps.size D ≤ maxLen := by unfold maxLen; omega
  have hseq : SeqGives Fence.wide 2 Try.prog 58 #[.pointer (some ⟨B, 0, none⟩)] encStr (fun ss => ss.Perm (strKeys D)) (Maps.size D) w :=
    AnyZ.keys_gives (ρ := Try.addrKeys_ren) { Try.addrKeys with } Fence.wide _ trivial rfl (by omega) B b n D _ hB hc hown
  refine ((callsIn_wide (n := 5)).1 (AnyZ.sorted_in Try.addrSorted Fence.wide 5 trivial trivial trivial trivial rfl (by omega) (addrSorts _) (enters_of Try.func45 (by kernel_rfl) rfl) 58 #[.pointer (some ⟨B, 0, none⟩)] trivial (enters_of Try.func58 (by kernel_rfl) rfl) _ _ hmax (by omega) _ hseq)).mono ?_
  rintro e' w' ⟨v, ss, rfl, hp, hrow, _, hb⟩
  have hl : (ss.mergeSort fun x y => decide (x ≤ y)).length = ss.length := by simp
  have hls : ss.length ≤ n := by
    rw [hp.length_eq]
    obtain ⟨es, rfl⟩ := hown.isMap
    simpa [strKeys, Maps.size] using hsz
  refine ⟨v, ss.mergeSort fun x y => decide (x ≤ y), rfl, Strs.own (by rw [hl]; exact hrow) (by rw [hl]; omega) (fun x hx => ?_), keys_sorted hown e hp, by rw [hl]; exact hls, ?_, ?_⟩
  · exact strKeys_le hown Try.underlying25 x (hp.mem_iff.1 (List.mem_mergeSort.1 hx))
  · have := Lies.own hrow
    simpa using this
  · simpa using hb

set_option maxHeartbeats 1000000 in
theorem sortedKeys_any {w : World} {b n : Nat} {F : Str → Option Int} (h : Mp w b n F) (hn : n ≤ 8796093022208) :
    Calls Try.prog 31 #[.func (.func 58) #[] #[.pointer (some ⟨w.heap.size, 0, none⟩)]] (w.alloc (.cells #[.map (some b)] 58)) fun e w' =>
      ∃ v K, e = .returned v ∧ Strs w' v K ∧ KeysOf' F K ∧ K.length ≤ n ∧ Lies (w.heap.size + 1) v ∧ Below (w.heap.size + 1) (w.alloc (.cells #[.map (some b)] 58)) w' := by
  obtain ⟨D, hown, e⟩ := h
  have hbl := hown.lt
  have hsz : Maps.size D ≤ n := hown.size_le
  have hmax : Maps.size D ≤ maxLen := by unfold maxLen; omega
  have hseq : SeqGives Fence.wide 2 Try.prog 58 #[.pointer (some ⟨w.heap.size, 0, none⟩)] encStr (fun ss => ss.Perm (strKeys D)) (Maps.size D) (w.alloc (.cells #[.map (some b)] 58)) :=
    AnyZ.keys_gives (ρ := Try.addrKeys_ren) { Try.addrKeys with } Fence.wide _ trivial rfl (by omega) w.heap.size b n D _ (by simp) (by simp) (hown.alloc _)
  refine ((callsIn_wide (n := 5)).1 (AnyZ.sorted_in Try.addrSorted Fence.wide 5 trivial trivial trivial trivial rfl (by omega) (addrSorts _) (enters_of Try.func45 (by kernel_rfl) rfl) 58 #[.pointer (some ⟨w.heap.size, 0, none⟩)] trivial (enters_of Try.func58 (by kernel_rfl) rfl) _ _ hmax (by omega) _ hseq)).mono ?_
  rintro e' w' ⟨v, ss, rfl, hp, hrow, _, hb⟩
  have hl : (ss.mergeSort fun x y => decide (x ≤ y)).length = ss.length := by simp
  have hls : ss.length ≤ n := by
    rw [hp.length_eq]
    obtain ⟨es, rfl⟩ := hown.isMap
    simpa [strKeys, Maps.size] using hsz
  refine ⟨v, ss.mergeSort fun x y => decide (x ≤ y), rfl, Strs.own (by rw [hl]; exact hrow) (by rw [hl]; omega) (fun x hx => ?_), keys_sorted hown e hp, by rw [hl]; exact hls, ?_, ?_⟩
  · exact strKeys_le hown Try.underlying25 x (hp.mem_iff.1 (List.mem_mergeSort.1 hx))
  · have := Lies.own hrow
    simpa using this
  · simpa using hb
end Go.Proofs.Ytkphgonbbhlnfaa
