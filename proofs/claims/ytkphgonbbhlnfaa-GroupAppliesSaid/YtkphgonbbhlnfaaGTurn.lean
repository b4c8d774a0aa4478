/- 'm[k] = v' in the round of a range over m, at a key that is there: the entry's value turns, and nothing else. -/
import Derived.Test.YtkphgonbbhlnfaaGState
namespace Go.Proofs.Ytkphgonbbhlnfaa
open Go.RowKit
open Go.Maps (Keyed has has_eq)
open Go.ChangeMaps Go.MapKept Go.WideShapes
open Go.WideElems (Fit rd rg pl rd_key rd_val rg_of rd_mk other_key)

theorem ranges_turn {H : Type} {P : Program} {k : TypeId} {R : Value → Option (DataW H × List MemPlace)} {w : World} {b r n : Nat} {D : DataW H} {left : Lit → Bool} {cnt : Nat} {t e : TypeId}
    (h : w.ranges P k R b r n D left cnt) (K : Keyed P k) (ht : P.underlying t = some (.map k e)) (hn : n < maxLen) {key val : Value} {kl : Lit} {d : DataW H} {ps : List MemPlace} (hkey : keyOf P k key = some kl) (hv : R val = some (d, ps)) (hin : has D kl = true) :
    ∃ w', (Instr.mapUpdate t (.map (some b)) key val).run P w = .ok () w' ∧ w'.ranges P k R b r n (D.put kl d) left cnt ∧ w.mapTurned w' b := by
  have hne := h.ne
  obtain ⟨es, clock, since, seen, c0, hb, F, hs, rfl, hr, hold, rfl, hl1, hl2, hsc, hsk⟩ := h
  obtain ⟨es', clock', hrun, F', hput, _⟩ := Maps.fit_store (R' := R) K ht hb F (Nat.lt_of_le_of_lt hs hn) (fun _ _ _ _ hz => hz) hkey hv
  rcases K.find w hkey es.toList F.keys with ⟨h1, h2⟩ | ⟨j, e0, h1, h2, h3⟩
  · exfalso
    rw [has_eq, List.any_eq_true] at hin
    obtain ⟨p, hp, hsame⟩ := hin
    rw [mem_sorted, List.mem_map] at hp
    obtain ⟨x, hx, rfl⟩ := hp
    obtain ⟨y, hy⟩ := F.reads x hx
    have hkx : keyOf P k x.key = some (rg P k R x).1 := by rw [rg_of hy]; exact rd_key hy
    by_cases ek : (rg P k R x).1 = kl
    · rw [ek] at hkx
      exact h2 x hx (K.inj hkx hkey)
    · rw [Maps.sameKey_ne ek] at hsame
      cases hsame
  · have hj : es[j]? = some e0 := by simpa using h2
    have hm0 : e0 ∈ es.toList := List.mem_of_getElem? h2
    obtain ⟨f, hf⟩ : ∃ f : MapEntry → MapEntry, f = fun e' => { e' with key := key, val := val } := ⟨_, rfl⟩
    have hlist : (es.modify j f).toList = es.toList.set j (f e0) := by rw [Array.toList_modify, ChangeMaps.modify_eq_set _ _ _ _ h2]
    have hrun2 : (Instr.mapUpdate t (.map (some b)) key val).run P w = .ok () (setBlock w b (.map (es.modify j f) clock)) := by
      subst hf
      simp [Instr.mapUpdate, run_underlying ht, MapKept.run_getObj_map hb, K.check w false hkey, h1, hj, h3, K.stays w hkey, MapKept.run_setObj_map _ hb, Result.andThen, setBlock]
    have hbk : Obj.map es' clock' = Obj.map (es.modify j f) clock := by
      rw [hrun] at hrun2
      injection hrun2 with _ hw
      have a := heap_setBlock_same hb (.map es' clock')
      rw [hw, heap_setBlock_same hb] at a
      injection a with a
      exact a.symm
    injection hbk with e1 e2
    subst e1; subst e2
    have hborn : (f e0).born = e0.born := by rw [hf]
    have hrg0 : (rg P k R e0).1 = kl := by
      obtain ⟨y, hy⟩ := F.reads e0 hm0
      have := rd_key hy
      rw [h3, hkey] at this
      rw [rg_of hy]
      exact (Option.some.inj this).symm
    have hrg1 : (rg P k R (f e0)).1 = kl := by
      have : Go.WideElems.rd P k R (f e0) = some (kl, d) := by rw [hf]; exact rd_mk hkey hv
      rw [rg_of this]
    have hmap : (es.toList.set j (f e0)).map (fun x : MapEntry => x.born) = es.toList.map (fun x : MapEntry => x.born) := by
      rw [List.map_set]
      apply List.ext_getElem?
      intro i
      rw [List.getElem?_set]
      split
      · rename_i hij
        subst hij
        split
        · rw [List.getElem?_map, h2, hborn]; rfl
        · rename_i hlt
          rw [List.getElem?_eq_none (by omega)]
      · rfl
    have e1 : ∀ a : Array MapEntry, (leftOf a seen).size = ((a.toList.map fun x : MapEntry => x.born).filter fun x => !seen.contains x).length := fun a => by
      unfold leftOf
      rw [← Array.length_toList, Array.toList_filter, List.filter_map, List.length_map]
      rfl
    refine ⟨_, hrun, ⟨es.modify j f, _, since, seen, c0, heap_setBlock_same hb _, F', by simpa using hs, by rw [DataW.put_eq, hput], (heap_setBlock_other hb _ hne).trans hr, fun x hx => ?_, by rw [e1, e1, hlist, hmap], fun x hx => ?_, fun kl' hk' => ?_, hsc, hsk⟩, ⟨es, _, _, _, hb, rfl⟩⟩
    · rw [hlist] at hx
      rcases List.mem_or_eq_of_mem_set hx with hx | rfl
      · exact hold x hx
      · rw [hborn]; exact hold e0 hm0
    · rw [hlist] at hx
      rcases List.mem_or_eq_of_mem_set hx with hx | rfl
      · exact hl1 x hx
      · rw [hrg1, hborn, ← hrg0]; exact hl1 e0 hm0
    · obtain ⟨x, hx, rfl⟩ := hl2 kl' hk'
      rw [hlist]
      have hjl : j < es.toList.length := (List.getElem?_eq_some_iff.1 h2).1
      obtain ⟨i, hi⟩ := List.getElem?_of_mem hx
      by_cases hij : i = j
      · subst hij
        rw [h2] at hi
        cases hi
        exact ⟨f e0, List.mem_of_getElem? (i := i) (by rw [List.getElem?_set_self hjl]), by rw [hrg1, hrg0]⟩
      · exact ⟨x, List.mem_of_getElem? (i := i) (by rw [List.getElem?_set_ne (by omega)]; exact hi), rfl⟩
end Go.Proofs.Ytkphgonbbhlnfaa
