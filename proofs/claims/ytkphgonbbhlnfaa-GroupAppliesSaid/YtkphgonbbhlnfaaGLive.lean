/- siphonlaw17.live, few: some answers that the document gives. -/
import Derived.Test.YtkphgonbbhlnfaaGApp
import Derived.Test.YtkphgonbbhlnfaaGRchk
namespace Go.Proofs.Ytkphgonbbhlnfaa
open Go.RowKit Go.Lib Go.Maps Go.Sort

theorem keys_unique {F : Str → Option Int} {K K' : List Str} (h : KeysOf' F K) (h' : KeysOf' F K') : K = K' :=
  srising_ext h.1 h'.1 (fun x => by rw [h.2, h'.2])
theorem asc_unique {F : Str → Option Int} {L L' : List Tmd} (h : Asc F L) (h' : Asc F L') : L = L' := by
  have e := keys_unique h.1 h'.1
  have hl : L.length = L'.length := by have := congrArg List.length e; simpa using this
  refine List.ext_getElem hl (fun i h1 h2 => ?_)
  have e1 : (L[i]).1 = (L'[i]).1 := by
    have : (L.map Prod.fst)[i]'(by simpa using h1) = (L'.map Prod.fst)[i]'(by simpa using h2) := by simp only [e]
    simpa using this
  have q1 := h.2 _ (List.getElem_mem h1)
  have q2 := h'.2 _ (List.getElem_mem h2)
  rw [e1, q2] at q1
  injection q1 with q1
  exact Prod.ext e1 q1.symm
theorem rises_unique {q : Str → Bool} {R R' : List Str} (h : Rises q R) (h' : Rises q R') : R = R' := srising_ext h.1 h'.1 (fun x => by rw [h.2, h'.2])

theorem few_any (ex : Bool) (at' : Int) (v : Value) (L : List Tmd) (kind : Int) (g : ByteArray) (rv : Value) (C : List Str) (w : World) (h : Tms w v L) (hr : Strs w rv C) :
    Calls Try.prog 19 #[.agg #[.bool ex, .int .i64 at', v], .agg #[.int .i64 kind, .string g, rv]] w fun e w' => e = .returned (.bool (decide (L.length ≤ 100) && decide (C.length ≤ 100))) ∧ Below w.heap.size w w' := by
  obtain ⟨vo, vc, rfl⟩ := h.shape
  obtain ⟨ro, rc, rfl⟩ := hr.shape
  have h1 := h.few
  have h2 : C.length ≤ 8796093022208 := by obtain ⟨_, _, _, _, _, _, h, _⟩ := hr; exact h
  clear h hr
  by_cases hL : L.length ≤ 100 <;> by_cases hC : C.length ≤ 100
  all_goals
    have d1 : decide ((L.length : Int) ≤ 100) = decide (L.length ≤ 100) := by rw [decide_eq_decide]; omega
    have d2 : decide ((C.length : Int) ≤ 100) = decide (C.length ≤ 100) := by rw [decide_eq_decide]; omega
    simp only [hL, hC, decide_true, decide_false, Bool.and_true, Bool.and_false] at d1 d2 ⊢
    go_enter Try.func19, Try.ntmps19
    go_wp2_with fail
    go_ret
    exact ⟨rfl, ((Below.refl _ _).alloc (Nat.le_refl _) _).alloc (by simp) _⟩

def sA : Str := [97]
def sB : Str := [98]
def sC : Str := [99]
def LA : List Tmd := [(sA, 0)]
def LB : List Tmd := [(sA, 0), (sB, 280)]
theorem bA : (⟨#[97]⟩ : ByteArray) = bstr sA := bstr_of _
theorem bB : (⟨#[98]⟩ : ByteArray) = bstr sB := bstr_of _
theorem bC : (⟨#[99]⟩ : ByteArray) = bstr sC := bstr_of _

theorem asc_of {F : Str → Option Int} {L : List Tmd} (h : (L.map Prod.fst).Pairwise (· < ·)) (he : ∀ a, F a = rd L a) : Asc F L := by
  have hn : (L.map Prod.fst).Nodup := h.imp (fun {x y} (hlt : x < y) (e : x = y) => by subst e; exact slt_irrefl _ hlt)
  obtain ⟨h1, h2⟩ := rd_nodup L hn
  refine ⟨⟨h, fun a => ?_⟩, fun t ht => by rw [he]; exact h1 t ht⟩
  rw [he]
  constructor
  · intro ha
    obtain ⟨t, ht, rfl⟩ := List.mem_map.1 ha
    rw [h1 t ht]; simp
  · intro ha
    by_cases hm : a ∈ L.map Prod.fst
    · exact hm
    · exact absurd (h2 a hm) ha

theorem sasc_one (a : Str) : sasc [a] = [a] := sasc_of_rising (by simp)

theorem live1 {K : List Str} {R : List Str} {L' : List Tmd} (hK : KeysOf' (inF 2 false 0 (rd []) (sasc [sA]) (10 + 260)) K) :
    K = [sA] ∧ (Rises (inQ 2 false 0 (rd []) (sasc [sA]) (10 + 260)) R → R = [] ∧ (Asc (soonF (inF 2 false 0 (rd []) (sasc [sA]) (10 + 260)) R (10 + 2)) L' → L' = LA)) := by
  rw [sasc_one] at *
  have hF : ∀ a, inF 2 false 0 (rd []) [sA] (10 + 260) a = rd LA a := by
    intro a
    simp [inF, excF, freshOf, rd, LA, upd]
  refine ⟨keys_unique hK (asc_of (L := LA) (by simp [LA]) hF).1, fun hR => ?_⟩
  have hR' : R = [] := rises_unique hR (rises_nil (fun a => by simp [inQ]))
  refine ⟨hR', fun hA => ?_⟩
  rw [hR', soonF_nil] at hA
  exact asc_unique hA (asc_of (by simp [LA]) hF)

theorem live2 {K : List Str} {R : List Str} {L' : List Tmd} (hK : KeysOf' (inF 3 true 270 (rd LA) (sasc [sB]) (20 + 260)) K) :
    K = [sA, sB] ∧ (Rises (inQ 3 true 270 (rd LA) (sasc [sB]) (20 + 260)) R → R = [] ∧ (Asc (soonF (inF 3 true 270 (rd LA) (sasc [sB]) (20 + 260)) R (20 + 2)) L' → L' = LB)) := by
  rw [sasc_one] at *
  have hF : ∀ a, inF 3 true 270 (rd LA) [sB] (20 + 260) a = rd LB a := by
    intro a
    simp [inF, setF, rd, LA, LB, upd]
  have hp : (LB.map Prod.fst).Pairwise (· < ·) := by simp [LB]; decide
  refine ⟨keys_unique hK (asc_of hp hF).1, fun hR => ?_⟩
  have hR' : R = [] := rises_unique hR (rises_nil (fun a => by
    simp [inQ, runF, rd, LA, upd]
    by_cases e : a = sA <;> simp [e]))
  refine ⟨hR', fun hA => ?_⟩
  rw [hR', soonF_nil] at hA
  exact asc_unique hA (asc_of hp hF)

theorem live_v1 : verdict (pcheck false 0 []) 2 1 10 260 2 = 0 := by decide +kernel
theorem live_v2 : verdict (pcheck true 270 LA) 3 1 20 260 2 = 0 := by decide +kernel
theorem live_a1 : padm true 22 LB 20 sA = false := by decide +kernel
theorem live_a2 : padm true 22 LB 21 sC = true := by decide +kernel
theorem live_a3 : padm true 22 LB 22 sC = false := by decide +kernel
theorem live_a4 : padm true 22 LB 22 sB = true := by decide +kernel
end Go.Proofs.Ytkphgonbbhlnfaa
