/- Texts joined into one file: BTree. -/
import Derived.Test.YthcdppppppgckaaGreatDoorC06

namespace Go.Proofs.YthcdppppppgckaaGreatDoor
open Go.RowKit Go.Lib Go.Sort
set_option maxRecDepth 20000
set_option maxRecDepth 20000

def pcell (p : Prt) : List Value := [.int .i64 p.cost, .int .i64 p.role, .int .i64 p.since, .bool p.up, .bool p.keeps, .bool p.fwd, .int .u64 p.kept.v.root, .int .i64 p.kept.v.cost, .int .u64 p.kept.v.bridge, .int .i64 p.kept.v.port, .int .i64 p.kept.age, .bool p.kept.change, .bool p.kept.learn, .bool p.kept.fwd, .int .i64 p.at_]
theorem pcell_len (p : Prt) : (pcell p).length = 15 := rfl
def tcellsOf (t : Tre) (v : Value) : Array Value := #[.int .u64 t.bridge, v, .int .i64 t.now, .int .i64 t.root, .int .i64 t.change, .int .u64 t.best.root, .int .i64 t.best.cost, .int .u64 t.best.bridge, .int .i64 t.best.port]
def TreeAt (w : World) (p g cap : Nat) (t : Tre) : Prop :=
 CBox w p 143 (tcellsOf t (.slice (some ⟨g, 0, none⟩) t.ports.length cap)) ∧ w.ownsRow 0 145 15 (.slice (some ⟨g, 0, none⟩) t.ports.length cap) t.ports.length (t.ports.flatMap pcell)
def tfoot (p g : Nat) (k : Nat) : Prop := k = p ∨ k = g
section
variable {w w' : World} {p g cap : Nat} {t : Tre}
theorem TreeAt.ne (h : TreeAt w p g cap t) : g ≠ p := own_ne_box h.2 h.1 (by decide) g rfl
theorem TreeAt.lt (h : TreeAt w p g cap t) : p < w.heap.size ∧ g < w.heap.size := by
 obtain ⟨_, cur, e, _⟩ := own_type h.2 rfl
 exact ⟨h.1.lt, (Array.getElem?_eq_some_iff.1 e).1⟩
theorem TreeAt.same (h : TreeAt w p g cap t) (h1 : w'.heap[p]? = w.heap[p]?) (h2 : w'.heap[g]? = w.heap[g]?) : TreeAt w' p g cap t :=
 ⟨h1.trans h.1, own_keep h.2 fun g' hg' => by injection hg' with hg'; subst hg'; exact h2⟩
theorem TreeAt.below (h : TreeAt w p g cap t) (hb : Below w.heap.size w w') : TreeAt w' p g cap t := h.same (hb.block _ h.lt.1) (hb.block _ h.lt.2)
theorem TreeAt.facts (h : TreeAt w p g cap t) : (∀ ty w', (Builtin.len_ #[141] ty #[.slice (some ⟨g, 0, none⟩) t.ports.length cap]).run Tryz.prog w' = .ok (.int .i64 t.ports.length) w') ∧
 (∀ k, k < t.ports.length → ∀ w', (Instr.indexAt 141 (.slice (some ⟨g, 0, none⟩) t.ports.length cap) (.int .i64 k)).run Tryz.prog w' = .ok (.pointer (some ⟨g, k * 15, none⟩)) w') ∧
 (∀ k, (hk : k < t.ports.length) → ∀ j, j < 15 → w.cell? ⟨g, k * 15 + j, none⟩ = (pcell t.ports[k])[j]? ∧ w.frozen? ⟨g, k * 15 + j, none⟩ = false) := by
 refine ⟨fun ty w' => run_len_any Tryz.underlying141 _ _ _ ty w', fun k hk w' => ?_, fun k hk j hj => ?_⟩
 · have := run_index_any (P := Tryz.prog) (s := 15) Tryz.underlying141 (fun w => by kernel_rfl) g 0 t.ports.length cap k hk w'
   simpa using this
 · obtain ⟨g', _, _, h3⟩ := gfacts Tryz.underlying141 (fun w => by kernel_rfl) pcell_len h.2
   obtain ⟨_, _, hg, hjj⟩ := h3 k hk
   injection hg with hg
   subst hg
   have e : t.ports.getD k default = t.ports[k] := by simp [List.getD_eq_getElem?_getD, hk]
   rw [e] at hjj
   exact hjj j hj
theorem TreeAt.box (h : TreeAt w p g cap t) (i : Nat) (x : Value) (t' : Tre) (hp : t'.ports = t.ports) (hc : tcellsOf t' (.slice (some ⟨g, 0, none⟩) t'.ports.length cap) = (tcellsOf t (.slice (some ⟨g, 0, none⟩) t.ports.length cap)).setIfInBounds i x) : TreeAt (w.setCell ⟨p, i, none⟩ x) p g cap t' ∧ Turn (tfoot p g) w (w.setCell ⟨p, i, none⟩ x) := by
 refine ⟨⟨by rw [hc]; exact h.1.set i x, ?_⟩, ?_⟩
 · rw [hp]
   exact own_keep h.2 fun g' hg' => by injection hg' with hg'; subst hg'; exact Below.heap_setCell _ _ _ g h.ne
 · refine Turn.set (show w.heap[p]? = some _ from h.1) (.inl rfl) (fun s => ?_) (fun o s n ho hs => ?_) x
   · match i with
     | 0 | 1 | 2 | 3 | 4 | 5 | 6 | 7 | 8 => simp [tcellsOf]
     | n + 9 => simp [tcellsOf]
   · exfalso
     revert hs
     match o with
     | 0 | 1 | 2 | 3 | 4 | 5 | 6 | 7 | 8 => simp [tcellsOf]
     | n + 9 => simp [tcellsOf]
theorem pcell_nos (q : Prt) (j : Nat) (s : ByteArray) : (pcell q)[j]? ≠ some (Value.string s) := by
 match j with
 | 0 | 1 | 2 | 3 | 4 | 5 | 6 | 7 | 8 | 9 | 10 | 11 | 12 | 13 | 14 => simp [pcell]
 | n + 15 => simp [pcell]
theorem TreeAt.port (h : TreeAt w p g cap t) {k i : Nat} (hk : k < t.ports.length) (hi : i < 15) (x : Value) (y : Prt) (hy : pcell y = (pcell t.ports[k]).set i x) :
 TreeAt (w.setCell ⟨g, k * 15 + i, none⟩ x) p g cap { t with ports := t.ports.set k y } ∧ Turn (tfoot p g) w (w.setCell ⟨g, k * 15 + i, none⟩ x) := by
 obtain ⟨_, cur, e, hsz, ht⟩ := own_type h.2 (g := g) rfl
 have hat : ∀ j i, (hj : j < t.ports.length) → i < 15 → cur[j * 15 + i]? = (pcell t.ports[j])[i]? := fun j i hj hi => by
  have := gflat_get pcell_len t.ports j i hj hi
  rw [show t.ports.getD j default = t.ports[j] from by simp [List.getD_eq_getElem?_getD, hj], ← ht, List.getElem?_take, if_pos (by omega)] at this
  rw [← this]
  simp
 have hown := own_setIn h.2 (g := g) rfl (show k * 15 + i < t.ports.length * 15 by omega) x
 rw [gflat_set pcell_len t.ports k i x y hk hi (by rw [show t.ports.getD k default = t.ports[k] from by simp [List.getD_eq_getElem?_getD, hk]]; exact hy)] at hown
 refine ⟨⟨?_, ?_⟩, ?_⟩
 · have : tcellsOf { t with ports := t.ports.set k y } (.slice (some ⟨g, 0, none⟩) (t.ports.set k y).length cap) = tcellsOf t (.slice (some ⟨g, 0, none⟩) t.ports.length cap) := by simp [tcellsOf]
   show CBox _ _ _ (tcellsOf { t with ports := t.ports.set k y } (.slice (some ⟨g, 0, none⟩) (t.ports.set k y).length cap))
   rw [this]
   exact h.1.far (p := ⟨g, k * 15 + i, none⟩) (Ne.symm h.ne) x
 · show World.ownsRow _ 0 _ 15 (.slice (some ⟨g, 0, none⟩) (t.ports.set k y).length cap) (t.ports.set k y).length ((t.ports.set k y).flatMap pcell)
   rw [List.length_set]
   exact hown
 · refine Turn.set e (.inr rfl) (fun s => ?_) (fun o s n ho hs => ?_) x
   · rw [hat k i hk hi]; exact pcell_nos _ _ _
   · exfalso
     rcases Nat.eq_zero_or_pos i with rfl | hp
     · rcases Nat.eq_zero_or_pos k with rfl | hkp
       · omega
       · obtain rfl : o = (k - 1) * 15 + 14 := by omega
         rw [hat (k - 1) 14 (by omega) (by omega)] at hs
         exact pcell_nos _ _ _ hs
     · obtain rfl : o = k * 15 + (i - 1) := by omega
       rw [hat k (i - 1) hk (by omega)] at hs
       exact pcell_nos _ _ _ hs
end

structure PrtOk (p : Prt) : Prop where
 cost : 1 ≤ p.cost ∧ p.cost ≤ 200000000
 since : -1 ≤ p.since ∧ p.since ≤ 1099511627776
 at_ : 0 ≤ p.at_ ∧ p.at_ ≤ 1099511627776
 age : 0 ≤ p.kept.age ∧ p.kept.age ≤ 100000
structure TreOk (t : Tre) : Prop where
 now : 0 ≤ t.now ∧ t.now ≤ 1099511627776
 len : 1 ≤ t.ports.length ∧ t.ports.length ≤ 16
 change : -1 ≤ t.change ∧ t.change ≤ 1099511627776
 ports : ∀ p ∈ t.ports, PrtOk p

set_option maxHeartbeats 1000000 in
theorem tat_any (p g cap : Nat) (t : Tre) (i now : Int) (w : World) (h : TreeAt w p g cap t) :
 Calls Tryz.prog 91 #[.pointer (some ⟨p, 0, none⟩), .int .i64 i, .int .i64 now] w fun e w' => e = .returned (.pointer (if t.okAt i now then some ⟨g, i.toNat * 15, none⟩ else none)) ∧ w' = w := by
 obtain ⟨hlen, hidx, _⟩ := h.facts
 have hx := h.1
 unfold tcellsOf at hx
 obtain ⟨x1, _⟩ := hx.at_ 1 _ rfl
 have HIX := Lib.hid hidx
 clear hx hidx h
 unfold Tre.okAt
 generalize t.ports.length = n at hlen x1 HIX
 cases q1 : decide (now < 0)
 · cases q2 : decide (1099511627776 < now)
   · cases q3 : decide (i < 0)
     · cases q4 : decide ((n : Int) ≤ i)
       · have b1 := of_decide_eq_false q1; have b2 := of_decide_eq_false q2; have b3 := of_decide_eq_false q3; have b4 := of_decide_eq_false q4
         have hc : (decide (0 ≤ now) && decide (now ≤ 1099511627776) && decide (0 ≤ i) && decide (i < (n : Int))) = true := by simp; omega
         rw [hc]
         obtain ⟨k, rfl⟩ := Int.eq_ofNat_of_zero_le (show 0 ≤ i by omega)
         have hp := HIX.out k (by omega)
         have q5 : decide (n ≤ k) = false := decide_eq_false (by omega)
         have q6 : ¬ n ≤ k := by omega
         clear b1 b2 b3 b4 hc
         go_enter Tryz.func91, Tryz.ntmps91
         go_wp2
         go_ret
         exact ⟨by first | rfl | simp, rfl⟩
       · have hc : (decide (0 ≤ now) && decide (now ≤ 1099511627776) && decide (0 ≤ i) && decide (i < (n : Int))) = false := by have b4 := of_decide_eq_true q4; simp; omega
         rw [hc]
         clear hc
         go_enter Tryz.func91, Tryz.ntmps91
         go_wp2
         go_ret
         exact ⟨rfl, rfl⟩
     · have hc : (decide (0 ≤ now) && decide (now ≤ 1099511627776) && decide (0 ≤ i) && decide (i < (n : Int))) = false := by have b4 := of_decide_eq_true q3; simp; omega
       rw [hc]
       clear hc
       go_enter Tryz.func91, Tryz.ntmps91
       go_wp2
       go_ret
       exact ⟨rfl, rfl⟩
   · have hc : (decide (0 ≤ now) && decide (now ≤ 1099511627776) && decide (0 ≤ i) && decide (i < (n : Int))) = false := by have b4 := of_decide_eq_true q2; simp; omega
     rw [hc]
     clear hc
     go_enter Tryz.func91, Tryz.ntmps91
     go_wp2
     go_ret
     exact ⟨rfl, rfl⟩
 · have hc : (decide (0 ≤ now) && decide (now ≤ 1099511627776) && decide (0 ≤ i) && decide (i < (n : Int))) = false := by have b4 := of_decide_eq_true q1; simp; omega
   rw [hc]
   clear hc
   go_enter Tryz.func91, Tryz.ntmps91
   go_wp2
   go_ret
   exact ⟨rfl, rfl⟩

theorem active_any (g o : Nat) (r : Int) (w : World) (h : w.cell? ⟨g, o + 1, none⟩ = some (.int .i64 r)) :
 Calls Tryz.prog 159 #[.pointer (some ⟨g, o, none⟩)] w fun e w' => e = .returned (.bool ((r == 1) || (r == 2))) ∧ w' = w := by
 cases q1 : (r == 1)
 · cases q2 : (r == 2)
   · go_enter Tryz.func159, Tryz.ntmps159
     go_wp2
     go_ret
     exact ⟨rfl, rfl⟩
   · go_enter Tryz.func159, Tryz.ntmps159
     go_wp2
     go_ret
     exact ⟨rfl, rfl⟩
 · go_enter Tryz.func159, Tryz.ntmps159
   go_wp2
   go_ret
   exact ⟨rfl, rfl⟩
end Go.Proofs.YthcdppppppgckaaGreatDoor
