/- Texts joined into one file: GStep, GRapp, GRexp. -/
import Derived.Test.YtpibmjkbebkilaaA14
import Derived.Test.YtpibmjkbebkilaaA13
import Derived.Test.YtpibmjkbebkilaaA11
import Derived.Test.YtpibmjkbebkilaaA12

/- siphonref17.some and but, for whichever kind; what siphonref17.Apply hands back. -/
namespace Go.Proofs.Ytpibmjkbebkilaa
open Go.RowKit Go.Lib Go.Maps Go.Sort
set_option maxRecDepth 20000

/-- what some and but hand back, of whichever kind -/
def RetStep (w : World) (ex : Bool) (at' : Int) (F : Str → Option Int) (g : Bool) (q : Str → Bool) (e : Ending) (w' : World) : Prop :=
  ∃ v L u R, e = .returned (.tuple #[.agg #[.bool ex, .int .i64 at', v], .agg #[.bool g, u]]) ∧ Tms w' v L ∧ Asc F L ∧ Strs w' u R ∧ Rises q R ∧ R.length ≤ 60 ∧ Below w.heap.size w w'
theorem RetSA.step {w : World} {ex : Bool} {at' : Int} {F : Str → Option Int} {g : Bool} {R : List Str} {q : Str → Bool} {e : Ending} {w' : World} (h : RetSA w ex at' F g R e w') (hR : Rises q R) (hl : R.length ≤ 60) : RetStep w ex at' F g q e w' := by
  obtain ⟨v, L, u, h1, h2, h3, h4, h5⟩ := h
  exact ⟨v, L, u, R, h1, h2, h3, h4, hR, hl, h5⟩

/-- what siphonref17.Apply hands back -/
def RetRapp (w : World) (ex : Bool) (at' : Int) (L : List Tmd) (kind : Int) (S : List Str) (n : Nat) (now mem last : Int) (e : Ending) (w' : World) : Prop :=
  Below w.heap.size w w' ∧
  ((verdict (pcheck ex at' L) kind n now mem last ≠ 0 ∧ e = .returned (.tuple #[noState, .bool false, noAsk, .int .i64 (verdict (pcheck ex at' L) kind n now mem last)])) ∨
   (verdict (pcheck ex at' L) kind n now mem last = 0 ∧ ∃ M : List Tmd, Asc (inF kind ex at' (rd L) S (now + mem)) M ∧
     ((60 < M.length ∧ e = .returned (.tuple #[noState, .bool false, noAsk, .int .i64 1])) ∨
      (M.length ≤ 60 ∧ (inEx kind ex = false ∧ M = []) ∧ e = .returned (.tuple #[noState, .bool false, noAsk, .int .i64 0])) ∨
      (M.length ≤ 60 ∧ ¬ (inEx kind ex = false ∧ M = []) ∧ ∃ v L' u R, e = .returned (.tuple #[.agg #[.bool (inEx kind ex), .int .i64 (if inG kind ex then min (inAt kind at' (now + mem)) (now + last) else inAt kind at' (now + mem)), v], .bool true, .agg #[.bool (inG kind ex), u], .int .i64 0]) ∧
        Tms w' v L' ∧ Strs w' u R ∧ Rises (fun a => inQ kind ex at' (rd L) S (now + mem) a) R ∧ Asc (soonF (inF kind ex at' (rd L) S (now + mem)) R (now + last)) L'))))
end Go.Proofs.Ytpibmjkbebkilaa

/- The walk of siphonref17.Apply. -/
namespace Go.Proofs.Ytpibmjkbebkilaa
open Go.RowKit Go.Lib Go.Maps Go.Sort
set_option maxRecDepth 20000

theorem CBox.inv {w : World} {b : Nat} {T : TypeId} {cs : Array Value} (h : CBox w b T cs) {i : Nat} {u : Value} (hc : w.cell? ⟨b, i, none⟩ = some u) : cs[i]? = some u := by
  have h' : w.heap[b]? = some (.cells cs T (0, 0)) := h
  simpa [World.cell?, h'] using hc
theorem Tms.ne_box {w : World} {v : Value} {L : List Tmd} {b : Nat} {T : TypeId} {cs : Array Value} (h : Tms w v L) (hb : CBox w b T cs) (hs : ∀ (i : Nat) (s : ByteArray), cs[i]? ≠ some (Value.string s)) : L ≠ [] → ∀ c, v.ownBlock = some c → c ≠ b := by
  intro hL c e he
  subst he
  obtain ⟨ao, cap, d, off, rfl, h0, h1, h2, h3⟩ := h
  rcases h0 with h0 | rfl
  · exact absurd h0 hL
  · obtain ⟨_, q, _⟩ := h3 0 (List.length_pos_iff.2 hL)
    simp [Value.ownBlock] at e
    subst e
    exact hs _ _ (hb.inv q)
theorem Strs.ne_box {w : World} {v : Value} {L : List Str} {b : Nat} {T : TypeId} {cs : Array Value} (h : Strs w v L) (hb : CBox w b T cs) (hs : ∀ (i : Nat) (s : ByteArray), cs[i]? ≠ some (Value.string s)) : L ≠ [] → ∀ c, v.ownBlock = some c → c ≠ b := by
  intro hL c e he
  subst he
  obtain ⟨ao, cap, d, off, rfl, h0, h1, h2, h3⟩ := h
  rcases h0 with h0 | rfl
  · exact absurd h0 hL
  · obtain ⟨_, q⟩ := h3 0 (List.length_pos_iff.2 hL)
    simp [Value.ownBlock] at e
    subst e
    exact hs _ _ (hb.inv q)
theorem ns3 (a : Bool) (z : Int) (o : Option Addr) (n c : Nat) : ∀ (i : Nat) (s : ByteArray), (#[.bool a, .int .i64 z, .slice o n c] : Array Value)[i]? ≠ some (Value.string s) := by
  intro i s
  match i with
  | 0 => simp
  | 1 => simp
  | 2 => simp
  | _ + 3 => simp
theorem ns2 (a : Bool) (o : Option Addr) (n c : Nat) : ∀ (i : Nat) (s : ByteArray), (#[.bool a, .slice o n c] : Array Value)[i]? ≠ some (Value.string s) := by
  intro i s
  match i with
  | 0 => simp
  | 1 => simp
  | _ + 2 => simp
theorem soon_nil {F : Str → Option Int} {Q : List Str} {z : Int} {M M' : List Tmd} (h : Asc F M) (h' : Asc (soonF F Q z) M') : M = [] ↔ M' = [] := by
  have : M.map Prod.fst = M'.map Prod.fst := keys_unique h.1 ⟨h'.1.1, fun a => by rw [h'.1.2, Ne, Ne, soonF_keys]⟩
  have h2 := congrArg List.length this
  rw [List.length_map, List.length_map] at h2
  rw [← List.length_eq_zero_iff, ← List.length_eq_zero_iff, h2]
theorem bn_own (a : Nat) : (a + 1 ≠ a ∧ a + 1 + 1 ≠ a ∧ a + 1 + 1 + 1 ≠ a) := by omega
theorem bn_far {a b : Nat} (h : a + 1 + 1 + 1 < b) : (a ≠ b ∧ a + 1 ≠ b ∧ a + 1 + 1 ≠ b ∧ a + 1 + 1 + 1 ≠ b) ∧ (a ≠ b + 1 ∧ a + 1 ≠ b + 1 ∧ a + 1 + 1 ≠ b + 1 ∧ a + 1 + 1 + 1 ≠ b + 1) ∧ (b + 1 ≠ b ∧ b ≠ b + 1) ∧ (a ≤ b ∧ a ≤ b + 1) := by omega
theorem pcheck_nil : pcheck false 0 [] = true := rfl
end Go.Proofs.Ytpibmjkbebkilaa

/- siphonref17.Expire: what becomes of a state by time. -/
namespace Go.Proofs.Ytpibmjkbebkilaa
open Go.RowKit Go.Lib Go.Maps Go.Sort
set_option maxRecDepth 20000

def exTail (e2 : Bool) (now : Int) (t : Tmd) : List Tmd := if now < t.2 then [t] else if e2 then [(t.1, 0)] else []
def exL (e2 : Bool) (now : Int) (L : List Tmd) : List Tmd := L.flatMap (exTail e2 now)
theorem exL_snoc (e2 : Bool) (now : Int) (L : List Tmd) (k : Nat) (h : k < L.length) : exL e2 now (L.take (k + 1)) = exL e2 now (L.take k) ++ exTail e2 now L[k] := by
  unfold exL
  rw [take_snoc L k h, List.flatMap_append]
  simp
theorem exTail_sub (e2 : Bool) (now : Int) (t : Tmd) : ((exTail e2 now t).map Prod.fst).Sublist [t.1] := by
  unfold exTail
  split
  · exact List.Sublist.refl _
  · split
    · exact List.Sublist.refl _
    · exact List.nil_sublist _
theorem exL_sub (e2 : Bool) (now : Int) : ∀ L : List Tmd, ((exL e2 now L).map Prod.fst).Sublist (L.map Prod.fst)
  | [] => List.Sublist.refl _
  | t :: L => by
    unfold exL
    rw [List.flatMap_cons, List.map_append, List.map_cons]
    exact List.Sublist.append (exTail_sub e2 now t) (exL_sub e2 now L)
theorem exL_len (e2 : Bool) (now : Int) (L : List Tmd) : (exL e2 now L).length ≤ L.length := by
  have := (exL_sub e2 now L).length_le
  rwa [List.length_map, List.length_map] at this
theorem exL_mem {e2 : Bool} {now : Int} {L : List Tmd} {u : Tmd} (h : u ∈ exL e2 now L) : ∃ t ∈ L, u.1 = t.1 ∧ ((now < t.2 ∧ u.2 = t.2) ∨ (¬ now < t.2 ∧ e2 = true ∧ u.2 = 0)) := by
  obtain ⟨t, ht, hu⟩ := List.mem_flatMap.1 h
  refine ⟨t, ht, ?_⟩
  unfold exTail at hu
  split at hu
  · rename_i hn
    rw [List.mem_singleton] at hu
    subst hu
    exact ⟨rfl, .inl ⟨hn, rfl⟩⟩
  · rename_i hn
    split at hu
    · rename_i he
      rw [List.mem_singleton] at hu
      subst hu
      exact ⟨rfl, .inr ⟨hn, he, rfl⟩⟩
    · cases hu
theorem exL_wfs (e2 : Bool) (now : Int) {L : List Tmd} (h : ∀ t ∈ L, t.1.length ≤ maxLen ∧ (Lit.int .i64 t.2).wf = true) : ∀ t ∈ exL e2 now L, t.1.length ≤ maxLen ∧ (Lit.int .i64 t.2).wf = true := by
  intro u hu
  obtain ⟨t, ht, h1, h2 | h2⟩ := exL_mem hu
  · rw [h1, h2.2]; exact h t ht
  · rw [h1, h2.2.2]; exact ⟨(h t ht).1, rfl⟩
theorem asc_ex (e2 : Bool) (now : Int) {F : Str → Option Int} {L : List Tmd} (h : Asc F L) : Asc (exF e2 now F) (exL e2 now L) := by
  have hv : ∀ u ∈ exL e2 now L, exF e2 now F u.1 = some u.2 := by
    intro u hu
    obtain ⟨t, ht, h1, h2⟩ := exL_mem hu
    have hF := h.2 t ht
    unfold exF
    rw [h1, hF]
    rcases h2 with ⟨h2, h3⟩ | ⟨h2, h3, h4⟩
    · simp [h2, h3]
    · simp [h2, h3, h4]
  refine ⟨⟨h.1.1.sublist (exL_sub e2 now L), fun a => ?_⟩, hv⟩
  constructor
  · intro ha
    obtain ⟨u, hu, rfl⟩ := List.mem_map.1 ha
    rw [hv u hu]; simp
  · intro ha
    have hF : F a ≠ none := by intro e; apply ha; unfold exF; rw [e]
    obtain ⟨t, ht, rfl⟩ := List.mem_map.1 ((h.1.2 a).2 hF)
    have hF' := h.2 t ht
    unfold exF at ha
    rw [hF'] at ha
    by_cases hn : now < t.2
    · exact List.mem_map.2 ⟨t, List.mem_flatMap.2 ⟨t, ht, by simp [exTail, hn]⟩, rfl⟩
    · cases e2
      · simp [hn] at ha
      · exact List.mem_map.2 ⟨(t.1, 0), List.mem_flatMap.2 ⟨t, ht, by simp [exTail, hn]⟩, rfl⟩

end Go.Proofs.Ytpibmjkbebkilaa
