/- Texts joined into one file: GRun, GWork, GSoon. -/
import Derived.Test.YtfloipdkhmgibaaS12
import Derived.Deep.RegionHeld3
import Derived.Test.YtfloipdkhmgibaaS07
import Derived.Deep.DeepCutAuto

/- (group.known).running: the sources that run, rising. -/
namespace Go.Proofs.Ytfloipdkhmgibaa
open Go.RowKit Go.Lib Go.Maps Go.Sort
set_option maxRecDepth 20000

theorem callRuns (args : Array Value) (w : World) : (callFunc 50 args).run Try.prog w = .ok (.enter 50 args) w := by kernel_rfl

/-- a list that rises and holds just those of which something holds -/
def Rises (p : Str → Bool) (R : List Str) : Prop := R.Pairwise (· < ·) ∧ ∀ a, a ∈ R ↔ p a = true

def runF (F : Str → Option Int) (a : Str) : Bool := (F a).getD 0 != 0

theorem runF_some {F : Str → Option Int} {a : Str} (h : runF F a = true) : F a ≠ none := by
  intro e
  simp [runF, e] at h

theorem rises_runs {F : Str → Option Int} {K : List Str} (h : KeysOf' F K) (p : Str → Bool) : Rises (fun a => runF F a && p a) ((K.filter (runF F)).filter p) := by
  refine ⟨(h.1.filter _).filter _, fun a => ?_⟩
  rw [List.mem_filter, List.mem_filter, h.2, Bool.and_eq_true]
  exact ⟨fun ⟨⟨_, h1⟩, h2⟩ => ⟨h1, h2⟩, fun ⟨h1, h2⟩ => ⟨⟨runF_some h1, h1⟩, h2⟩⟩

end Go.Proofs.Ytfloipdkhmgibaa

/- (*group.known).wants: sources are wanted. -/
namespace Go.Proofs.Ytfloipdkhmgibaa
open Go.RowKit Go.Lib Go.Maps Go.Sort
set_option maxRecDepth 20000

def setF (F : Str → Option Int) (S : List Str) (z : Int) : Str → Option Int := fun a => if S.contains a then some z else F a
theorem setF_nil (F : Str → Option Int) (z : Int) : setF F [] z = F := by funext a; simp [setF]
theorem setF_snoc (F : Str → Option Int) (S : List Str) (z : Int) (k : Nat) (h : k < S.length) : setF F (S.take (k + 1)) z = upd (setF F (S.take k) z) S[k] z := by
  funext a
  unfold setF upd
  rw [mem_snoc S a k h]
  by_cases e : a = S[k]
  · subst e; simp
  · have e' : (S[k] == a) = false := by rw [beq_eq_false_iff_ne]; exact fun h => e h.symm
    rw [e', Bool.or_false, if_neg e]

/-- nothing but the blocks B and b has turned -/
def But (w w' : World) (B b : Nat) : Prop := Below 0 w w' ∧ ∀ j, j < w.heap.size → j ≠ B → j ≠ b → w'.heap[j]? = w.heap[j]?

theorem But.of_below {w w' : World} (h : Below w.heap.size w w') (B b : Nat) : But w w' B b := ⟨h.mono (Nat.zero_le _), fun j hj _ _ => h.block j hj⟩
theorem But.trans {w w' w'' : World} {B b : Nat} (h : But w w' B b) (k : But w' w'' B b) : But w w'' B b :=
  ⟨h.1.trans k.1, fun j hj h1 h2 => (k.2 j (Nat.lt_of_lt_of_le hj h.1.size) h1 h2).trans (h.2 j hj h1 h2)⟩
theorem But.grown {w w' w'' : World} {B b : Nat} {row : Option Nat} (h : But w w' B b) (hg : w'.grownBy w'' row) (hr : ∀ j, row = some j → j = B ∨ j = b ∨ w.heap.size ≤ j) : But w w'' B b :=
  ⟨h.1.grown hg (Nat.zero_le _) (fun _ _ => Nat.zero_le _), fun j hj h1 h2 => (hg.block j (Nat.lt_of_lt_of_le hj h.1.size) (fun e => by rcases hr j e.symm with e | e | e <;> omega)).trans (h.2 j hj h1 h2)⟩
theorem But.set {w w' : World} {B b : Nat} (h : But w w' B b) {p : Addr} (hp : p.block = B ∨ w.heap.size ≤ p.block) (u : Value) : But w (w'.setCell p u) B b :=
  ⟨h.1.setCell (Nat.zero_le _) u, fun j hj h1 h2 => (Below.heap_setCell _ _ _ j (by omega)).trans (h.2 j hj h1 h2)⟩
theorem But.alloc {w w' : World} {B b : Nat} (h : But w w' B b) (o : Obj) : But w (w'.alloc o) B b := h.trans (But.of_below ((Below.refl _ _).alloc (Nat.le_refl _) o) _ _)
theorem But.draws {w w' : World} {B b : Nat} (h : But w w' B b) (n : Nat) : But w (w'.drewN n) B b := h.trans (But.of_below (below_draws _ (Below.refl _ _) n) _ _)
theorem But.box {w w' : World} {B b j : Nat} {T : TypeId} {cs : Array Value} (h : But w w' B b) (hc : CBox w j T cs) (h1 : j ≠ B) (h2 : j ≠ b) : CBox w' j T cs := (h.2 j hc.lt h1 h2).trans hc
theorem But.below {w w' : World} {B b lo : Nat} (h : But w w' B b) (hw : lo ≤ w.heap.size) (h1 : lo ≤ B) (h2 : lo ≤ b) : Below lo w w' := ⟨h.1.os, h.1.tape, h.1.output, h.1.size, fun k hk => h.2 k (by omega) (by omega) (by omega)⟩
theorem But.strs {w w' : World} {B b lo : Nat} {v : Value} {L : List Str} (h : But w w' B b) (hs : Strs w v L) (hl : Lies lo v) (h1 : B < lo) (h2 : b < lo) : Strs w' v L := by
  obtain ⟨ao, cap, c, off, rfl, h0, h1', h2', h3⟩ := hs
  refine ⟨ao, cap, c, off, rfl, h0, h1', h2', fun k hk => ?_⟩
  obtain ⟨hlt, hc⟩ := h3 k hk
  have hb : lo ≤ c := by
    rcases h0 with rfl | rfl
    · simp at hk
    · exact hl c rfl
  refine ⟨Nat.lt_of_lt_of_le hlt h.1.size, ?_⟩
  rw [World.cell?_of_block (w := w) (h.2 c hlt (by omega) (by omega))]
  exact hc

theorem CBox.thaw {w : World} {b : Nat} {T : TypeId} {cs : Array Value} (h : CBox w b T cs) (i : Nat) : w.frozen? ⟨b, i, none⟩ = false := by
  have h' : w.heap[b]? = some (.cells cs T (0, 0)) := h
  simp [World.frozen?, h']

theorem CBox.ne_mp {w : World} {B b n : Nat} {T : TypeId} {cs : Array Value} {F : Str → Option Int} (h : CBox w B T cs) (hm : Mp w b n F) : B ≠ b := by
  rintro rfl
  obtain ⟨D, ⟨es, clock, h1, _⟩, _⟩ := hm
  have h' : w.heap[B]? = some (.cells cs T (0, 0)) := h
  rw [h1] at h'
  cases h'

/-- a call that works a step in -/
def RetWork (w : World) (B b : Nat) (ex' : Bool) (at' : Int) (n' : Nat) (F' : Str → Option Int) (g : Bool) (q : Str → Bool) (e : Ending) (w' : World) : Prop :=
  ∃ b1 v R lo, e = .returned (.agg #[.bool g, v]) ∧ Strs w' v R ∧ Rises q R ∧ R.length ≤ n' ∧ Lies lo v ∧ b1 < lo ∧ w.heap.size ≤ lo ∧ (b1 = b ∨ w.heap.size ≤ b1) ∧ CBox w' B 92 #[.bool ex', .int .i64 at', .map (some b1)] ∧ Mp w' b1 n' F' ∧ But w w' B b

theorem rises_nil {q : Str → Bool} (h : ∀ a, q a = false) : Rises q [] := ⟨List.Pairwise.nil, fun a => by simp [h a]⟩

end Go.Proofs.Ytfloipdkhmgibaa

/- (*group.known).soon: all that is asked about ends at last. -/
namespace Go.Proofs.Ytfloipdkhmgibaa
open Go.RowKit Go.Lib Go.Maps Go.Sort
set_option maxRecDepth 20000

def soonF (F : Str → Option Int) (Q : List Str) (z : Int) : Str → Option Int := fun a => if Q.contains a && runF F a then some (min ((F a).getD 0) z) else F a
theorem soonF_nil (F : Str → Option Int) (z : Int) : soonF F [] z = F := by funext a; simp [soonF]
theorem soonF_no (F : Str → Option Int) (Q : List Str) (z : Int) (_hz : 0 < z) (k : Nat) (h : k < Q.length) (hr : runF (soonF F (Q.take k) z) Q[k] = false) : soonF F (Q.take (k + 1)) z = soonF F (Q.take k) z := by
  funext a
  unfold soonF at hr ⊢
  rw [mem_snoc Q a k h]
  by_cases e : a = Q[k]
  · subst e
    by_cases h2 : runF F Q[k] = true
    · by_cases hc : (Q.take k).contains Q[k] = true
      · rw [hc]; simp
      · have hc' : (Q.take k).contains Q[k] = false := by simpa using hc
        have hr' : ((if ((Q.take k).contains Q[k] && runF F Q[k]) = true then some (min ((F Q[k]).getD 0) z) else F Q[k]).getD 0 != 0) = false := hr
        rw [hc', Bool.false_and, if_neg (by simp)] at hr'
        exact absurd h2 (by unfold runF; rw [hr']; simp)
    · have h2' : runF F Q[k] = false := by simpa using h2
      simp [h2']
  · have e' : (Q[k] == a) = false := by rw [beq_eq_false_iff_ne]; exact fun h => e h.symm
    rw [e', Bool.or_false]
theorem soonF_yes (F : Str → Option Int) (Q : List Str) (z : Int) (k : Nat) (h : k < Q.length) (hr : runF (soonF F (Q.take k) z) Q[k] = true) : soonF F (Q.take (k + 1)) z = upd (soonF F (Q.take k) z) Q[k] (min ((soonF F (Q.take k) z Q[k]).getD 0) z) := by
  funext a
  unfold soonF upd at *
  rw [mem_snoc Q a k h]
  by_cases e : a = Q[k]
  · subst e
    by_cases h2 : runF F Q[k] = true
    · by_cases hc : (Q.take k).contains Q[k] = true
      · rw [hc]; simp [h2]
      · have hc' : (Q.take k).contains Q[k] = false := by simpa using hc
        rw [hc']; simp [h2]
    · have h2' : runF F Q[k] = false := by simpa using h2
      exfalso
      have hr' : ((if ((Q.take k).contains Q[k] && runF F Q[k]) = true then some (min ((F Q[k]).getD 0) z) else F Q[k]).getD 0 != 0) = true := hr
      rw [h2', Bool.and_false, if_neg (by simp)] at hr'
      exact h2 hr'
  · have e' : (Q[k] == a) = false := by rw [beq_eq_false_iff_ne]; exact fun h => e h.symm
    rw [e', Bool.or_false, if_neg e]

theorem run_min (ty : TypeId) (x y : Int) (w : World) : (Builtin.min_ #[3, 3] ty #[.int .i64 x, .int .i64 y]).run Try.prog w = .ok (.int .i64 (min x y)) w := by
  have e : (if y < x then y else x) = min x y := by rw [Int.min_def]; split <;> split <;> omega
  simp [Builtin.min_, Builtin.min2, e]

theorem Mp.wf0 {w : World} {b n : Nat} {F : Str → Option Int} (h : Mp w b n F) (a : Str) (ha : a.length ≤ maxLen) : (Lit.int .i64 ((F a).getD 0)).wf = true := by
  cases hF : F a
  · rfl
  · exact h.wf a ha _ hF

theorem wf_min {x y : Int} (hx : (Lit.int .i64 x).wf = true) (hy : (Lit.int .i64 y).wf = true) : (Lit.int .i64 (min x y)).wf = true := by
  rcases Int.le_total x y with h | h
  · rw [Int.min_eq_left h]; exact hx
  · rw [Int.min_eq_right h]; exact hy

end Go.Proofs.Ytfloipdkhmgibaa
