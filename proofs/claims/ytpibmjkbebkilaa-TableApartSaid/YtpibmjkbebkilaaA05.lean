/- Texts joined into one file: GRchk, GMap, GKeys. -/
import Derived.Test.YtpibmjkbebkilaaA04
import Derived.Maps.OwnSet
import Derived.Maps.OwnOps
import Derived.Maps.RangeWalk
import Derived.Sort.KeysCollected
import Derived.Shelf.SlIter.Nil
import Derived.Shelf.SlIter.Sorted

/- siphonref17.Check: whether a state may be. -/
namespace Go.Proofs.Ytpibmjkbebkilaa
open Go.RowKit Go.Lib Go.Sort
set_option maxRecDepth 20000

end Go.Proofs.Ytpibmjkbebkilaa

/- A map by addresses with times in memory ('Mp'). -/
namespace Go.Proofs.Ytpibmjkbebkilaa
open Go.RowKit Go.Maps Go.Lib Go.Sort
set_option maxRecDepth 20000

noncomputable abbrev mpT : Value → Option (DataW Unit × List MemPlace) := plainElem Try.prog 3
theorem lawS : Keyed Try.prog 32 := string_keyed Try.underlying32

/-- what is known of an address -/
def look (D : DataW Unit) (a : Str) : Option Int :=
  if has D (.string a) then (match D.atKey (.string a) (.lit (.int .i64 0)) with | .lit (.int .i64 z) => some z | _ => none) else none

/-- block b is a map of at most n addresses that tells F -/
def Mp (w : World) (b n : Nat) (F : Str → Option Int) : Prop :=
  ∃ D : DataW Unit, w.ownsMap Try.prog 32 mpT b n D ∧ ∀ a, look D a = F a

def upd (F : Str → Option Int) (a : Str) (z : Int) : Str → Option Int := fun x => if x = a then some z else F x
def del (F : Str → Option Int) (a : Str) : Str → Option Int := fun x => if x = a then none else F x

theorem keyOf_bstr {a : Str} (h : a.length ≤ maxLen) : keyOf Try.prog 32 (.string (bstr a)) = some (.string a) := by
  simp [keyOf, Try.underlying32, mapKey, bstr_size, h]
  exact bstr_data a

theorem isKey_str (a : Str) : WideAt.IsKeyLit (.string a) := trivial

theorem look_put {D : DataW Unit} (hD : IsMap D) (a : Str) (z : Int) (x : Str) : look (D.put (.string a) (.lit (.int .i64 z))) x = upd (look D) a z x := by
  unfold look upd
  by_cases e : x = a
  · subst e
    rw [has_put_same hD (isKey_str x), atKey_put_same hD (isKey_str x)]
    simp
  · have hne : Lit.string x ≠ Lit.string a := fun h => e (by injection h)
    rw [has_put_other hne, atKey_put_other hne, if_neg e]

theorem look_del {D : DataW Unit} (a : Str) (x : Str) : look (D.del (.string a)) x = del (look D) a x := by
  unfold look del
  by_cases e : x = a
  · subst e
    rw [has_del_same]
    simp
  · have hne : Lit.string x ≠ Lit.string a := fun h => e (by injection h)
    rw [if_neg e]
    simp only [has_del_other hne, atKey_del_other hne]

theorem Mp.lt {w : World} {b n : Nat} {F : Str → Option Int} (h : Mp w b n F) : b < w.heap.size := by
  obtain ⟨D, h, _⟩ := h
  exact h.lt
theorem Mp.kept {w w' : World} {b n : Nat} {F : Str → Option Int} {row : Option Nat} (h : Mp w b n F) (hg : w.grownBy w' row) (hne : some b ≠ row) : Mp w' b n F := by
  obtain ⟨D, h, e⟩ := h
  exact ⟨D, h.kept hg hne, e⟩
theorem Mp.below {w w' : World} {b n B : Nat} {F : Str → Option Int} (h : Mp w b n F) (hb : Below B w w') (hlt : b < B) : Mp w' b n F := by
  obtain ⟨D, ⟨es, clock, h1, h2⟩, e⟩ := h
  exact ⟨D, ⟨es, clock, (hb.block b hlt).trans h1, h2⟩, e⟩
theorem Mp.set {w : World} {b n : Nat} {F : Str → Option Int} (h : Mp w b n F) {p : Addr} (hp : b ≠ p.block) (u : Value) : Mp (w.setCell p u) b n F := by
  obtain ⟨D, h, e⟩ := h
  exact ⟨D, h.setCell hp u, e⟩
theorem Mp.made (w : World) : Mp (w.alloc (.map #[] 0)) w.heap.size 0 (fun _ => none) :=
  ⟨.map [], World.ownsMap_made w _ _ _, fun a => by simp [look, has]⟩
theorem Mp.up {w : World} {b n m : Nat} {F : Str → Option Int} (h : Mp w b n F) (hm : n ≤ m) : Mp w b m F := by
  obtain ⟨D, h, e⟩ := h
  exact ⟨D, h.mono hm, e⟩
theorem Mp.wf {w : World} {b n : Nat} {F : Str → Option Int} (h : Mp w b n F) (a : Str) (ha : a.length ≤ maxLen) (z : Int) (hz : F a = some z) : (Lit.int .i64 z).wf = true := by
  obtain ⟨D, h, e⟩ := h
  obtain ⟨c, _, hat, hw⟩ := h.lookup_int lawS Try.underlying82 Try.underlying3 (Try.zeroValue3 w) (keyOf_bstr ha)
  rw [← e a] at hz
  unfold look at hz
  rw [hat] at hz
  split at hz
  · simp at hz; subst hz; exact hw
  · cases hz

/-- what a look-up hands back -/
theorem Mp.get {w : World} {b n : Nat} {F : Str → Option Int} (h : Mp w b n F) (a : Str) (ha : a.length ≤ maxLen) :
    (Instr.lookup 82 (.map (some b)) (.string (bstr a)) false).run Try.prog w = .ok (.int .i64 ((F a).getD 0)) w := by
  obtain ⟨D, h, e⟩ := h
  obtain ⟨c, hr, hat, hw⟩ := h.lookup_int lawS Try.underlying82 Try.underlying3 (Try.zeroValue3 w) (keyOf_bstr ha)
  rw [hr, ← e a]
  unfold look
  rw [hat]
  by_cases hh : has D (.string a) = true
  · simp [hh]
  · have := atKey_of_not_has (by simpa using hh) (.lit (.int .i64 0) : DataW Unit) (D := D) (k := .string a)
    rw [hat] at this
    simp only [DataW.lit.injEq, Lit.int.injEq, true_and] at this
    simp [hh, this]

theorem Mp.getOk {w : World} {b n : Nat} {F : Str → Option Int} (h : Mp w b n F) (a : Str) (ha : a.length ≤ maxLen) :
    (Instr.lookup 82 (.map (some b)) (.string (bstr a)) true).run Try.prog w = .ok (.tuple #[.int .i64 ((F a).getD 0), .bool (F a).isSome]) w := by
  have hg := h.get a ha
  obtain ⟨D, h, e⟩ := h
  obtain ⟨v, ps, hr, hv⟩ := h.look_ok lawS Try.underlying82 (Try.zeroValue3 w) (plainElem_int Try.underlying3 (by decide)) (keyOf_bstr ha)
  obtain ⟨c, rfl, hc, hw⟩ := plainElem_int_inv Try.underlying3 hv
  simp only [Prod.mk.injEq] at hc
  rw [hr, ← e a]
  unfold look
  rw [hc.1]
  by_cases hh : has D (.string a) = true
  · simp [hh]
  · have := atKey_of_not_has (by simpa using hh) (.lit (.int .i64 0) : DataW Unit) (D := D) (k := .string a)
    rw [hc.1] at this
    simp only [DataW.lit.injEq, Lit.int.injEq, true_and] at this
    simp [hh, this]

/-- .. and a store -/
theorem Mp.put {w : World} {b n : Nat} {F : Str → Option Int} (h : Mp w b n F) (a : Str) (ha : a.length ≤ maxLen) (z : Int) (hz : (Lit.int .i64 z).wf = true) (hn : n < maxLen) :
    ∃ w', (Instr.mapUpdate 82 (.map (some b)) (.string (bstr a)) (.int .i64 z)).run Try.prog w = .ok () w' ∧ Mp w' b (n + 1) (upd F a z) ∧ w.grownBy w' (some b) := by
  obtain ⟨D, h, e⟩ := h
  obtain ⟨w', hr, h', hg⟩ := h.update lawS Try.underlying82 hn (keyOf_bstr ha) (plainElem_int Try.underlying3 hz)
  exact ⟨w', hr, ⟨_, h', fun x => by rw [look_put h.isMap]; unfold upd; rw [e x]⟩, hg⟩
end Go.Proofs.Ytpibmjkbebkilaa

/- slices.Sorted over maps.Keys of a map by addresses: its addresses, rising. -/
namespace Go.Proofs.Ytpibmjkbebkilaa
open Go.RowKit Go.Maps Go.Sort Go.Shelf
set_option maxRecDepth 20000

theorem mem_strKeys {w : World} {b n : Nat} {D : DataW Unit} (h : w.ownsMap Try.prog 32 mpT b n D) (a : Str) : a ∈ strKeys D ↔ has D (.string a) = true := by
  obtain ⟨es, rfl, hk⟩ := h.keysOf
  show a ∈ es.map (fun p => strOf p.1) ↔ _
  rw [has_eq, List.any_eq_true, List.mem_map]
  constructor
  · rintro ⟨p, hp, rfl⟩
    refine ⟨p, hp, ?_⟩
    obtain ⟨v, hv⟩ := hk p hp
    obtain ⟨x, _, e, _⟩ := Maps.keyOf_str Try.underlying32 hv
    rw [e]
    exact WideAt.sameKey_self (isKey_str x)
  · rintro ⟨p, hp, hs⟩
    refine ⟨p, hp, ?_⟩
    obtain ⟨v, hv⟩ := hk p hp
    obtain ⟨x, _, e, _⟩ := Maps.keyOf_str Try.underlying32 hv
    rw [e] at hs ⊢
    by_cases ex : x = a
    · exact ex
    · rw [Maps.sameKey_ne (fun h => ex (by injection h))] at hs
      cases hs

theorem nodup_strKeys {w : World} {b n : Nat} {D : DataW Unit} (h : w.ownsMap Try.prog 32 mpT b n D) : (strKeys D).Nodup := by
  obtain ⟨es0, e0, hp⟩ := h.tidy lawS
  obtain ⟨es, rfl, hk⟩ := h.keysOf
  injection e0 with e0
  subst e0
  show (es.map fun p => strOf p.1).Nodup
  refine List.pairwise_map.2 (hp.imp_of_mem fun {p q} hp' hq' hne e => hne ?_)
  obtain ⟨v, hv⟩ := hk p hp'
  obtain ⟨x, _, ex, _⟩ := Maps.keyOf_str Try.underlying32 hv
  obtain ⟨u, hu⟩ := hk q hq'
  obtain ⟨y, _, ey, _⟩ := Maps.keyOf_str Try.underlying32 hu
  rw [ex, ey] at e ⊢
  exact congrArg _ e

theorem look_has {w : World} {b n : Nat} {D : DataW Unit} (h : w.ownsMap Try.prog 32 mpT b n D) (a : Str) : has D (.string a) = true ↔ look D a ≠ none := by
  constructor
  · intro hh
    have ha : a.length ≤ maxLen := strKeys_le h Try.underlying32 a ((mem_strKeys h a).2 hh)
    obtain ⟨c, _, hat, _⟩ := h.lookup_int lawS Try.underlying82 Try.underlying3 (Try.zeroValue3 w) (keyOf_bstr ha)
    simp [look, hh, hat]
  · intro hl
    by_cases hh : has D (.string a) = true
    · exact hh
    · simp [look, hh] at hl

/-- a list of addresses that rises and holds just those of which something is known -/
def KeysOf' (F : Str → Option Int) (K : List Str) : Prop := K.Pairwise (· < ·) ∧ ∀ a, a ∈ K ↔ F a ≠ none

theorem keys_sorted {w : World} {b n : Nat} {D : DataW Unit} {F : Str → Option Int} (h : w.ownsMap Try.prog 32 mpT b n D) (e : ∀ a, look D a = F a) {ss : List Str} (hp : ss.Perm (strKeys D)) :
    KeysOf' F (ss.mergeSort fun x y => decide (x ≤ y)) := by
  refine ⟨?_, fun a => ?_⟩
  · have h1 := ssorted_le ss
    have h2 : (ss.mergeSort fun x y => decide (x ≤ y)).Nodup := (List.mergeSort_perm ss _).nodup_iff.2 (hp.nodup_iff.2 (nodup_strKeys h))
    exact h1.imp₂ (fun x y hle hne => ((sle_iff x y).1 hle).resolve_right hne) h2
  · rw [List.mem_mergeSort, hp.mem_iff, mem_strKeys h, look_has h, e]

theorem addrSorts (m : Nat) : AnyZ.SortsIn Try.prog Try.addrSorted_ren Fence.wide m :=
  ⟨fun blk off cap ss W hH hblk hsz => callsIn_wide.2 (AnyM.slices_Sort_string Try.addrSort blk off cap ss W hH hblk hsz),
   fun p cap W => callsIn_wide.2 (AnyM.slices_Sort_string_none Try.addrSort p cap W)⟩

theorem keys_any (mb : Option Nat) (w : World) : Calls Try.prog 50 #[.map mb] w fun e w' =>
    e = .returned (.func (.func 63) #[] #[.pointer (some ⟨w.heap.size, 0, none⟩)]) ∧ w' = w.alloc (.cells #[.map mb] 82) :=
  (callsIn_wide (n := 5)).1 (AnyZ.keys_in Try.addrKeys Fence.wide 5 trivial rfl mb w)

set_option maxHeartbeats 1000000 in
/-- in whatever world: the iterator's box B holds the map -/
theorem sortedKeys_at {w : World} {b n B : Nat} {F : Str → Option Int} (h : Mp w b n F) (hn : n ≤ 8796093022208) (hB : B < w.heap.size) (hc : w.cell? ⟨B, 0, none⟩ = some (.map (some b))) :
    Calls Try.prog 37 #[.func (.func 63) #[] #[.pointer (some ⟨B, 0, none⟩)]] w fun e w' =>
      ∃ v K, e = .returned v ∧ Strs w' v K ∧ KeysOf' F K ∧ K.length ≤ n ∧ Lies w.heap.size v ∧ Below w.heap.size w w' := by
  obtain ⟨D, hown, e⟩ := h
  have hsz : Maps.size D ≤ n := hown.size_le
  have hmax : Maps.size D ≤ maxLen := by unfold maxLen; omega
  have hseq : SeqGives Fence.wide 2 Try.prog 63 #[.pointer (some ⟨B, 0, none⟩)] encStr (fun ss => ss.Perm (strKeys D)) (Maps.size D) w :=
    AnyZ.keys_gives (ρ := Try.addrKeys_ren) { Try.addrKeys with } Fence.wide _ trivial rfl (by omega) B b n D _ hB hc hown
  refine ((callsIn_wide (n := 5)).1 (AnyZ.sorted_in Try.addrSorted Fence.wide 5 trivial trivial trivial trivial rfl (by omega) (addrSorts _) (enters_of Try.func52 (by kernel_rfl) rfl) 63 #[.pointer (some ⟨B, 0, none⟩)] trivial (enters_of Try.func63 (by kernel_rfl) rfl) _ _ hmax (by omega) _ hseq)).mono ?_
  rintro e' w' ⟨v, ss, rfl, hp, hrow, _, hb⟩
  have hl : (ss.mergeSort fun x y => decide (x ≤ y)).length = ss.length := by simp
  have hls : ss.length ≤ n := by
    rw [hp.length_eq]
    obtain ⟨es, rfl⟩ := hown.isMap
    simpa [strKeys, Maps.size] using hsz
  refine ⟨v, ss.mergeSort fun x y => decide (x ≤ y), rfl, Strs.own (by rw [hl]; exact hrow) (by rw [hl]; omega) (fun x hx => ?_), keys_sorted hown e hp, by rw [hl]; exact hls, ?_, ?_⟩
  · exact strKeys_le hown Try.underlying32 x (hp.mem_iff.1 (List.mem_mergeSort.1 hx))
  · have := Lies.own hrow
    simpa using this
  · simpa using hb

set_option maxHeartbeats 1000000 in
theorem sortedKeys_any {w : World} {b n : Nat} {F : Str → Option Int} (h : Mp w b n F) (hn : n ≤ 8796093022208) :
    Calls Try.prog 37 #[.func (.func 63) #[] #[.pointer (some ⟨w.heap.size, 0, none⟩)]] (w.alloc (.cells #[.map (some b)] 82)) fun e w' =>
      ∃ v K, e = .returned v ∧ Strs w' v K ∧ KeysOf' F K ∧ K.length ≤ n ∧ Lies (w.heap.size + 1) v ∧ Below (w.heap.size + 1) (w.alloc (.cells #[.map (some b)] 82)) w' := by
  obtain ⟨D, hown, e⟩ := h
  have hbl := hown.lt
  have hsz : Maps.size D ≤ n := hown.size_le
  have hmax : Maps.size D ≤ maxLen := by unfold maxLen; omega
  have hseq : SeqGives Fence.wide 2 Try.prog 63 #[.pointer (some ⟨w.heap.size, 0, none⟩)] encStr (fun ss => ss.Perm (strKeys D)) (Maps.size D) (w.alloc (.cells #[.map (some b)] 82)) :=
    AnyZ.keys_gives (ρ := Try.addrKeys_ren) { Try.addrKeys with } Fence.wide _ trivial rfl (by omega) w.heap.size b n D _ (by simp) (by simp) (hown.alloc _)
  refine ((callsIn_wide (n := 5)).1 (AnyZ.sorted_in Try.addrSorted Fence.wide 5 trivial trivial trivial trivial rfl (by omega) (addrSorts _) (enters_of Try.func52 (by kernel_rfl) rfl) 63 #[.pointer (some ⟨w.heap.size, 0, none⟩)] trivial (enters_of Try.func63 (by kernel_rfl) rfl) _ _ hmax (by omega) _ hseq)).mono ?_
  rintro e' w' ⟨v, ss, rfl, hp, hrow, _, hb⟩
  have hl : (ss.mergeSort fun x y => decide (x ≤ y)).length = ss.length := by simp
  have hls : ss.length ≤ n := by
    rw [hp.length_eq]
    obtain ⟨es, rfl⟩ := hown.isMap
    simpa [strKeys, Maps.size] using hsz
  refine ⟨v, ss.mergeSort fun x y => decide (x ≤ y), rfl, Strs.own (by rw [hl]; exact hrow) (by rw [hl]; omega) (fun x hx => ?_), keys_sorted hown e hp, by rw [hl]; exact hls, ?_, ?_⟩
  · exact strKeys_le hown Try.underlying32 x (hp.mem_iff.1 (List.mem_mergeSort.1 hx))
  · have := Lies.own hrow
    simpa using this
  · simpa using hb
end Go.Proofs.Ytpibmjkbebkilaa
