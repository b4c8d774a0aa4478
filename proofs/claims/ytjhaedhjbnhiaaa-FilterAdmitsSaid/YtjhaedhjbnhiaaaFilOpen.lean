/- Opening what came in: slices of strings, filters. -/
import Derived.Test.YtjhaedhjbnhiaaaFil11
import Derived.ProofKit
import Derived.OpenShut
import Derived.SizedLaws
import Derived.Lib.SmallJoins
namespace Go.Proofs.Ytjhaedhjbnhiaaa
open Go.ChangeShapes Go.WideShapes Go.ChangeAt Go.RowKit Go.Joins Go.Deep

theorem bytesAd : Try.prog.bytesOf 25 = 16 := by kernel_rfl
theorem cellsAd : Try.prog.cellsOf 25 = 1 := by kernel_rfl

/-- a slice of strings that came in -/
theorem open_Strs {H : Type} {enc : TypeId × Value → H} {w : World} {base : Nat} {spare : Nat → Bool} {held : Bool} {fuel : Nat} {cs : List Value} {x : DataW H × List MemPlace}
    (h : DataW.trod enc Try.prog w base spare held fuel 22 cs = some x) (hsz : (DataW.weights Try.prog 22 x.1).all (· ≤ reachBytes) = true) : ∃ v L, cs = [v] ∧ Strs w v L := by
  rcases open_strings Try.underlying22 Try.underlying25 cellsAd h with ⟨rfl, _⟩ | ⟨a, len, cap, ss, rfl, _, hl, hm, hz, rfl, hc, hwf⟩
  · exact ⟨_, [], rfl, Strs.nil w⟩
  · have hle : len ≤ ss.length := by rw [hz]; split <;> omega
    have hb : len ≤ 8796093022208 := by
      simp only [DataW.weights, Try.underlying22, List.all_cons, Bool.and_eq_true, bytesAd, reachBytes] at hsz
      have := hsz.1
      simp [strs] at this
      omega
    have hlen : ((ss.take len).map fun s => s.data.toList).length = len := by simp; omega
    refine ⟨_, (ss.take len).map (fun s => s.data.toList), rfl, some a, cap, a.block, a.off, by rw [hlen], ?_, by rw [hlen]; omega, ?_, fun k hk => ?_⟩
    · by_cases h0 : (ss.take len).map (fun s => s.data.toList) = []
      · exact .inl h0
      · refine .inr ?_
        have h1 : 0 < ss.length := by
          cases ss with
          | nil => simp at h0
          | cons _ _ => simp
        have := hc 0 h1
        obtain ⟨b, off, spot⟩ := a
        cases spot with
        | none => rfl
        | some s => simp [Addr.add, World.cell?] at this; split at this <;> simp at this
    · intro x hx
      obtain ⟨s, hs, rfl⟩ := List.mem_map.1 hx
      exact hwf s (List.mem_of_mem_take hs)
    · rw [hlen] at hk
      have hk' := hc k (by omega)
      have e : (a.add k) = ⟨a.block, a.off + k, none⟩ := by
        obtain ⟨b, off, spot⟩ := a
        unfold Addr.add
        split
        · subst_vars
          cases spot with
          | none => rfl
          | some s => simp [Addr.add, World.cell?] at hk'; split at hk' <;> simp at hk'
        · rfl
      rw [e] at hk'
      refine ⟨World.block_lt_of_cell? w ⟨a.block, a.off + k, none⟩ hk', ?_⟩
      rw [hk']
      have hks : k < ss.length := by omega
      simp [List.getD_eq_getElem?_getD, hks, hk, encStr]

theorem weights_part {H : Type} {P : Program} {t : TypeId} {fs : Array Field} {parts : List (DataW H)} (hs : P.underlying t = some (.struct fs)) (h : (DataW.weights P t (.agg parts)).all (· ≤ reachBytes) = true)
    (j : Nat) (f : Field) (d : DataW H) (hf : fs[j]? = some f) (hd : parts[j]? = some d) : (DataW.weights P f.type d).all (· ≤ reachBytes) = true := by
  simp only [DataW.weights, hs] at h
  exact List.all_eq_true.2 (fun n hn => List.all_eq_true.1 h n (DataW.weights_mem_each (j := j) (t := f.type) (by simp; exact ⟨f, by simpa using hf, rfl⟩) hd n hn))

theorem weights_arg {H : Type} {P : Program} {ts : List TypeId} {ds : List (DataW H)} (h : (DataW.weightsEach P ts ds).all (· ≤ reachBytes) = true) (j : Nat) (t : TypeId) (d : DataW H) (ht : ts[j]? = some t) (hd : ds[j]? = some d) :
    (DataW.weights P t d).all (· ≤ reachBytes) = true :=
  List.all_eq_true.2 (fun n hn => List.all_eq_true.1 h n (DataW.weights_mem_each ht hd n hn))

/-- a filter that came in -/
theorem open_filter {H : Type} {enc : TypeId × Value → H} {w : World} {base : Nat} {spare : Nat → Bool} {held : Bool} {r : Reach} {b0 : Nat} {v : Value} {d : DataW H} {p : List MemPlace}
    (hv : Value.okWide Try.prog w r b0 24 v) (h : DataW.Trod enc Try.prog w base spare held 24 v d p) (hsz : (DataW.weights Try.prog 24 d).all (· ≤ reachBytes) = true) :
    ∃ e u L, v = .agg #[.bool e, u] ∧ Strs w u L := by
  obtain ⟨v0, v1, y0, y1, n, rfl, rfl, rfl, t0, t1⟩ := open_agg2 Try.underlying24 (by kernel_rfl) (by kernel_rfl) hv h
  obtain ⟨e, e0, _⟩ := DataW.trod_bool Try.underlying4 t0
  obtain ⟨_, L, e1, hL⟩ := open_Strs t1 (weights_part Try.underlying24 hsz 1 _ _ rfl rfl)
  simp only [List.cons.injEq, and_true] at e0 e1
  subst e0 e1
  exact ⟨e, _, L, rfl, hL⟩
end Go.Proofs.Ytjhaedhjbnhiaaa
