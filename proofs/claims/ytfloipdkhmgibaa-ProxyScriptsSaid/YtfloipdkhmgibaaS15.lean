/- Texts joined into one file: GRefu, GRefy, GExc. -/
import Derived.Test.YtfloipdkhmgibaaS14

/- (*group.known).refuses: sources are not wanted any more. -/
namespace Go.Proofs.Ytfloipdkhmgibaa
open Go.RowKit Go.Lib Go.Maps Go.Sort
set_option maxRecDepth 20000

def fillF (F : Str → Option Int) (Q : List Str) (z : Int) : Str → Option Int := fun a => if Q.contains a && !runF F a then some z else F a
theorem fillF_nil (F : Str → Option Int) (z : Int) : fillF F [] z = F := by funext a; simp [fillF]
theorem fillF_at (F : Str → Option Int) (Q : List Str) (z : Int) (x : Str) : runF (fillF F Q z) x = ((if (Q.contains x && !runF F x) = true then some z else F x).getD 0 != 0) := rfl
theorem fillF_yes (F : Str → Option Int) (Q : List Str) (z : Int) (k : Nat) (h : k < Q.length) (hr : runF (fillF F (Q.take k) z) Q[k] = true) : fillF F (Q.take (k + 1)) z = fillF F (Q.take k) z := by
  funext a
  unfold fillF
  rw [mem_snoc Q a k h]
  by_cases e : a = Q[k]
  · subst e
    by_cases h2 : runF F Q[k] = true
    · simp [h2]
    · have h2' : runF F Q[k] = false := by simpa using h2
      by_cases hc : (Q.take k).contains Q[k] = true
      · rw [hc]; simp
      · have hc' : (Q.take k).contains Q[k] = false := by simpa using hc
        rw [fillF_at, hc', Bool.false_and, if_neg (by simp)] at hr
        exact absurd hr h2
  · have e' : (Q[k] == a) = false := by rw [beq_eq_false_iff_ne]; exact fun h => e h.symm
    rw [e', Bool.or_false]
theorem fillF_no (F : Str → Option Int) (Q : List Str) (z : Int) (k : Nat) (h : k < Q.length) (hr : runF (fillF F (Q.take k) z) Q[k] = false) : fillF F (Q.take (k + 1)) z = upd (fillF F (Q.take k) z) Q[k] z := by
  funext a
  unfold fillF upd
  rw [mem_snoc Q a k h]
  by_cases e : a = Q[k]
  · subst e
    by_cases h2 : runF F Q[k] = true
    · exfalso
      rw [fillF_at, h2, Bool.not_true, Bool.and_false, if_neg (by simp)] at hr
      have h3 : runF F Q[k] = false := hr
      rw [h2] at h3; cases h3
    · have h2' : runF F Q[k] = false := by simpa using h2
      simp [h2']
  · have e' : (Q[k] == a) = false := by rw [beq_eq_false_iff_ne]; exact fun h => e h.symm
    rw [e', Bool.or_false, if_neg e]

theorem rises_filter {S : List Str} (h : S.Pairwise (· < ·)) (p : Str → Bool) : Rises (fun a => S.contains a && p a) (S.filter p) :=
  ⟨h.filter _, fun a => by rw [List.mem_filter, Bool.and_eq_true, List.contains_iff_mem]⟩

end Go.Proofs.Ytfloipdkhmgibaa

/- (*group.known).refuses at a state with Except. -/
namespace Go.Proofs.Ytfloipdkhmgibaa
open Go.RowKit Go.Lib Go.Maps Go.Sort
set_option maxRecDepth 20000

def notBlk (F : Str → Option Int) (a : Str) : Bool := !(F a == some 0)

end Go.Proofs.Ytfloipdkhmgibaa

/- (*group.known).excepts: all but some sources are wanted. -/
namespace Go.Proofs.Ytfloipdkhmgibaa
open Go.RowKit Go.Lib Go.Maps Go.Sort
set_option maxRecDepth 20000

def excF (F : Str → Option Int) (S : List Str) (fr : Int) : Str → Option Int := fun a => if S.contains a then some ((F a).getD fr) else none
theorem excF_nil (F : Str → Option Int) (fr : Int) : excF F [] fr = fun _ => none := by funext a; simp [excF]
theorem excF_snoc (F : Str → Option Int) (S : List Str) (fr : Int) (k : Nat) (h : k < S.length) : excF F (S.take (k + 1)) fr = upd (excF F (S.take k) fr) S[k] ((F S[k]).getD fr) := by
  funext a
  unfold excF upd
  rw [mem_snoc S a k h]
  by_cases e : a = S[k]
  · subst e; simp
  · have e' : (S[k] == a) = false := by rw [beq_eq_false_iff_ne]; exact fun h => e h.symm
    rw [e', Bool.or_false, if_neg e]

theorem rises_only {F : Str → Option Int} {K : List Str} (h : KeysOf' F K) : Rises (runF F) (K.filter (runF F)) :=
  ⟨h.1.filter _, fun a => by rw [List.mem_filter, h.2]; exact ⟨fun h => h.2, fun h => ⟨runF_some h, h⟩⟩⟩

theorem CBox.drew {w : World} {b : Nat} {T : TypeId} {cs : Array Value} (h : CBox w b T cs) : CBox w.drew b T cs := h.below (Below.drew (Below.refl _ _)) h.lt
theorem Mp.drew {w : World} {b n : Nat} {F : Str → Option Int} (h : Mp w b n F) : Mp w.drew b n F := h.below (Below.drew (Below.refl _ _)) h.lt
theorem But.drew {w w' : World} {B b : Nat} (h : But w w' B b) : But w w'.drew B b := h.trans (But.of_below (Below.drew (Below.refl _ _)) B b)

def freshOf (ex t : Bool) (at' z : Int) : Int := if ex then (if t then at' else z) else 0

end Go.Proofs.Ytfloipdkhmgibaa
