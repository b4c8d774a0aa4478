/- Texts joined into one file: StrRising, Values, Tms, FootS. -/
import Derived.Test.YthcdppppppgckaaGreatDoorC10
import Derived.Sort.Walk0
import Derived.Test.YthcdppppppgckaaGreatDoorC01
import Derived.RangeFuncBox
import Derived.RangeFuncLeaves
import Derived.Shelf.Abstract
import Derived.WalkKit
import Derived.OwnWalkIn
import Derived.TacticsInMore
import Derived.LoopNIn
import Derived.LoopIn
import Derived.Maps.AppendAt
import Derived.Test.YthcdppppppgckaaGreatDoorC04
import Derived.Test.YthcdppppppgckaaGreatDoorC05

namespace Go.Proofs.YthcdppppppgckaaGreatDoor
open Go.RowKit Go.Sort
set_option maxRecDepth 20000

def lenOf : Value → Nat
 | .slice _ n _ => n
 | _ => 0

theorem own_len {w : World} {base : Nat} {e : TypeId} {size : Nat} {v : Value} {n : Nat} {xs : List Value} (h : w.ownsRow base e size v n xs) : lenOf v = n := by
 rcases h.2 with ⟨rfl, rfl⟩ | ⟨g, cap, cur, rfl, _⟩ <;> rfl

end Go.Proofs.YthcdppppppgckaaGreatDoor

namespace Go.Proofs.YthcdppppppgckaaGreatDoor
open Go.RowKit Go.Shelf Go.Maps Go.Sort
set_option maxRecDepth 20000
attribute [local go_sem] Oper.semAt_some

theorem box_cell {w w' : World} {c : Array Value} {t : TypeId} (hb : Below (w.alloc (.cells c t)).heap.size (w.alloc (.cells c t)) w') (j : Nat) (v : Value) (hj : c[j]? = some v) : w'.cell? ⟨w.heap.size, j, none⟩ = some v := by
 rw [hb.cell (p := ⟨w.heap.size, j, none⟩) (by simp)]
 rw [cell_of_row _ w.heap.size j c t (0, 0) (heap_alloc_new w _)]
 exact hj

theorem box_below {w w' : World} {o : Obj} (hb : Below (w.alloc o).heap.size (w.alloc o) w') : Below w.heap.size w w' :=
 ((Below.refl _ _).alloc (Nat.le_refl _) o).trans (hb.mono (by simp))

end Go.Proofs.YthcdppppppgckaaGreatDoor

namespace Go.Proofs.YthcdppppppgckaaGreatDoor
open Go.RowKit Go.Lib Go.Sort
set_option maxRecDepth 20000

abbrev Tmd := Str × Int

def tcells (t : Tmd) : List Value := [.string (bstr t.1), .int .i64 t.2]

theorem tflat_get (L : List Tmd) (k : Nat) (hk : k < L.length) (d : Tmd) : (L.flatMap tcells)[k * 2]? = some (.string (bstr (L.getD k d).1)) ∧ (L.flatMap tcells)[k * 2 + 1]? = some (.int .i64 (L.getD k d).2) := by
 induction L generalizing k with
 | nil => simp at hk
 | cons t L ih =>
   cases k with
   | zero => simp [tcells]
   | succ k =>
     obtain ⟨h1, h2⟩ := ih k (by simpa using hk)
     rw [show (k + 1) * 2 = k * 2 + 1 + 1 from by omega]
     simp only [List.flatMap_cons, tcells, List.cons_append, List.nil_append, List.getElem?_cons_succ, List.getD_cons_succ]
     exact ⟨h1, h2⟩

def Tms (w : World) (v : Value) (L : List Tmd) : Prop :=
 ∃ ao cap b off, v = .slice ao L.length cap ∧ (L = [] ∨ ao = some ⟨b, off, none⟩) ∧ L.length ≤ 5864062014634 ∧ (∀ t ∈ L, t.1.length ≤ maxLen ∧ (Lit.int .i64 t.2).wf = true) ∧
   (∀ k, k < L.length → b < w.heap.size ∧ w.cell? ⟨b, off + k * 2, none⟩ = some (.string (bstr (L.getD k default).1)) ∧ w.cell? ⟨b, off + k * 2 + 1, none⟩ = some (.int .i64 (L.getD k default).2))

theorem Tms.mono {w w' : World} {v : Value} {L : List Tmd} (h : Tms w v L) (hb : Below w.heap.size w w') : Tms w' v L := by
 obtain ⟨ao, cap, b, off, rfl, h0, h1, h2, h3⟩ := h
 refine ⟨ao, cap, b, off, rfl, h0, h1, h2, fun k hk => ?_⟩
 obtain ⟨hlt, c0, c1⟩ := h3 k hk
 exact ⟨Nat.lt_of_lt_of_le hlt hb.size, (hb.cell (p := ⟨b, off + k * 2, none⟩) hlt).trans c0, (hb.cell (p := ⟨b, off + k * 2 + 1, none⟩) hlt).trans c1⟩

theorem Tms.draws {w : World} {v : Value} {L : List Tmd} (h : Tms w v L) (n : Nat) : Tms (w.drewN n) v L := h.mono (below_draws _ (Below.refl _ _) n)
theorem Tms.nil (w : World) : Tms w (.slice none 0 0) [] := ⟨none, 0, 0, 0, rfl, .inl rfl, by simp, by simp, by simp⟩
theorem Tms.wfs {w : World} {v : Value} {L : List Tmd} (h : Tms w v L) : ∀ t ∈ L, t.1.length ≤ maxLen ∧ (Lit.int .i64 t.2).wf = true := by
 obtain ⟨_, _, _, _, _, _, _, h, _⟩ := h
 exact h
theorem Tms.few {w : World} {v : Value} {L : List Tmd} (h : Tms w v L) : L.length ≤ 5864062014634 := by
 obtain ⟨_, _, _, _, _, _, h, _⟩ := h
 exact h
theorem Tms.shape {w : World} {v : Value} {L : List Tmd} (h : Tms w v L) : ∃ ao cap, v = .slice ao L.length cap := by
 obtain ⟨ao, cap, _, _, h, _⟩ := h
 exact ⟨ao, cap, h⟩

theorem Tms.own {w : World} {base : Nat} {v : Value} {L : List Tmd} (h : w.ownsRow base 333 2 v L.length (L.flatMap tcells)) (hl : L.length ≤ 5864062014634) (hw : ∀ t ∈ L, t.1.length ≤ maxLen ∧ (Lit.int .i64 t.2).wf = true) : Tms w v L := by
 rcases h.2 with ⟨rfl, h0⟩ | ⟨g, cap, cur, rfl, hb, hg, hn, hm, hs, ht⟩
 · rw [List.length_eq_zero_iff] at h0
   subst h0
   exact Tms.nil w
 · refine ⟨_, cap, g, 0, rfl, .inr rfl, hl, hw, fun k hk => ?_⟩
   obtain ⟨x0, x1⟩ := tflat_get L k hk default
   have c0 := h.cells (g := g) rfl _ _ x0
   have c1 := h.cells (g := g) rfl _ _ x1
   rw [add_lit] at c0 c1
   exact ⟨(Array.getElem?_eq_some_iff.1 hg).1, c0, by rw [show 0 + k * 2 + 1 = 0 + (k * 2 + 1) from by omega]; exact c1⟩

theorem tcells_one (L : List Tmd) : ∀ u ∈ L.flatMap tcells, u.oneCell' = true := by
 intro u hu
 obtain ⟨t, _, ht⟩ := List.mem_flatMap.1 hu
 simp only [tcells, List.mem_cons, List.not_mem_nil, or_false] at ht
 rcases ht with rfl | rfl <;> rfl

theorem tflat_len (L : List Tmd) : (L.flatMap tcells).length = L.length * 2 := by
 induction L with
 | nil => rfl
 | cons t L ih => simp [List.flatMap_cons, tcells, ih]; omega

theorem Tms.sliceOf {w : World} {v : Value} {L : List Tmd} (h : Tms w v L) : SliceOf w 2 v L.length (L.flatMap tcells) := by
 obtain ⟨ao, cap, b, off, rfl, h0, h1, h2, h3⟩ := h
 refine ⟨ao, cap, rfl, tflat_len L, tcells_one L, ?_⟩
 by_cases hz : L.length = 0
 · exact .inl hz
 · refine .inr ⟨⟨b, off, none⟩, ?_, fun j x hj => ?_⟩
   · rcases h0 with rfl | h0
     · simp at hz
     · exact h0
   · obtain ⟨hlt, _⟩ := List.getElem?_eq_some_iff.1 hj
     rw [tflat_len] at hlt
     rw [add_lit]
     obtain ⟨k, hk⟩ : ∃ k, k = j / 2 := ⟨_, rfl⟩
     obtain ⟨_, c0, c1⟩ := h3 k (by omega)
     obtain ⟨x0, x1⟩ := tflat_get L k (by omega) default
     rcases (show j = k * 2 ∨ j = k * 2 + 1 by omega) with e | e
     · rw [e, x0] at hj
       rw [e, c0]
       exact hj
     · rw [e, x1] at hj
       rw [e, ← Nat.add_assoc, c1]
       exact hj

theorem Tms.far {w : World} {v : Value} {L : List Tmd} {lo : Nat} (h : Tms w v L) (hl : Lies lo v) {p : Addr} (hp : p.block < lo) (u : Value) : Tms (w.setCell p u) v L := by
 obtain ⟨ao, cap, b, off, rfl, h0, h1, h2, h3⟩ := h
 refine ⟨ao, cap, b, off, rfl, h0, h1, h2, fun k hk => ?_⟩
 obtain ⟨hlt, c0, c1⟩ := h3 k hk
 have hb : lo ≤ b := by
  rcases h0 with rfl | rfl
  · simp at hk
  · exact hl b rfl
 refine ⟨by simpa using hlt, ?_, ?_⟩
 · rw [World.cell?_setCell_other w p _ u (fun e => by subst e; simp at hp; omega)]
   exact c0
 · rw [World.cell?_setCell_other w p _ u (fun e => by subst e; simp at hp; omega)]
   exact c1

theorem Tms.facts {w : World} {v : Value} {L : List Tmd} (h : Tms w v L) :
 ∃ b off, L.length ≤ 5864062014634 ∧ (∀ ty w', (Builtin.len_ #[179] ty #[v]).run Tryz.prog w' = .ok (.int .i64 L.length) w') ∧
   (∀ k, k < L.length → ∀ w', (Instr.indexAt 179 v (.int .i64 k)).run Tryz.prog w' = .ok (.pointer (some ⟨b, off + k * 2, none⟩)) w') ∧
   (∀ k, k < L.length → b < w.heap.size ∧ w.cell? ⟨b, off + k * 2, none⟩ = some (.string (bstr (L.getD k default).1)) ∧ w.cell? ⟨b, off + k * 2 + 1, none⟩ = some (.int .i64 (L.getD k default).2)) := by
 obtain ⟨ao, cap, b, off, rfl, h0, h1, h2, h3⟩ := h
 refine ⟨b, off, h1, fun ty w' => run_len_any Tryz.underlying179 ao L.length cap ty w', fun k hk w' => ?_, h3⟩
 rcases h0 with h0 | rfl
 · subst h0; exact absurd hk (by simp)
 · exact run_index_any (P := Tryz.prog) (s := 2) Tryz.underlying179 (fun w => by kernel_rfl) b off L.length cap k hk w'

end Go.Proofs.YthcdppppppgckaaGreatDoor

namespace Go.Proofs.YthcdppppppgckaaGreatDoor
open Go.RowKit Go.Lib
set_option maxRecDepth 20000
section
variable {F : Nat → Prop} {w w' : World}
theorem Strs.turn {v : Value} {L : List Str} (h : Strs w v L) (k : Turn F w w') : Strs w' v L := by
 obtain ⟨ao, cap, b, off, rfl, h0, h1, h2, h3⟩ := h
 exact ⟨ao, cap, b, off, rfl, h0, h1, h2, fun i hi => ⟨Nat.lt_of_lt_of_le (h3 i hi).1 k.size, k.strs _ _ (h3 i hi).2⟩⟩
theorem Tms.turn {v : Value} {L : List Tmd} (h : Tms w v L) (k : Turn F w w') : Tms w' v L := by
 obtain ⟨ao, cap, b, off, rfl, h0, h1, h2, h3⟩ := h
 exact ⟨ao, cap, b, off, rfl, h0, h1, h2, fun i hi => ⟨Nat.lt_of_lt_of_le (h3 i hi).1 k.size, k.strs _ _ (h3 i hi).2.1, k.tms _ _ _ _ (h3 i hi).2.1 (h3 i hi).2.2⟩⟩
end
end Go.Proofs.YthcdppppppgckaaGreatDoor
