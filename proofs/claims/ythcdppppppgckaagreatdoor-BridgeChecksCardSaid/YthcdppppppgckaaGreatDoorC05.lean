/- Texts joined into one file: Foot, Gen. -/
import Derived.Test.YthcdppppppgckaaGreatDoorC04
import Derived.Sort.OwnSorted

namespace Go.Proofs.YthcdppppppgckaaGreatDoor
open Go.RowKit Go.Lib
set_option maxRecDepth 20000

structure Turn (F : Nat → Prop) (w w' : World) : Prop where
 os : w'.os = w.os
 tape : w'.tape = w.tape
 output : w'.output = w.output
 size : w.heap.size ≤ w'.heap.size
 block : ∀ k, k < w.heap.size → ¬ F k → w'.heap[k]? = w.heap[k]?
 strs : ∀ (p : Addr) s, w.cell? p = some (.string s) → w'.cell? p = some (.string s)
 tms : ∀ b o s n, w.cell? ⟨b, o, none⟩ = some (.string s) → w.cell? ⟨b, o + 1, none⟩ = some (.int .i64 n) → w'.cell? ⟨b, o + 1, none⟩ = some (.int .i64 n)

theorem fcell_lt {w : World} {p : Addr} {v : Value} (h : w.cell? p = some v) : p.block < w.heap.size := by
 unfold World.cell? at h
 cases ho : w.heap[p.block]? with
 | none => rw [ho] at h; cases h
 | some o => exact (Array.getElem?_eq_some_iff.1 ho).1
section
variable {F G : Nat → Prop} {w w' w'' : World}
theorem Turn.of_below (h : Below w.heap.size w w') : Turn F w w' :=
 ⟨h.os, h.tape, h.output, h.size, fun k hk _ => h.block k hk, fun _ _ hp => (h.cell (fcell_lt hp)).trans hp, fun _ _ _ _ _ hn => (h.cell (fcell_lt hn)).trans hn⟩
theorem Turn.refl (F : Nat → Prop) (w : World) : Turn F w w := .of_below (Below.refl _ _)
theorem Turn.mono (h : Turn F w w') (hs : ∀ k, F k → G k) : Turn G w w' := ⟨h.os, h.tape, h.output, h.size, fun k hk hn => h.block k hk fun hf => hn (hs k hf), h.strs, h.tms⟩
theorem Turn.trans (h : Turn F w w') (k : Turn F w' w'') : Turn F w w'' :=
 ⟨k.os.trans h.os, k.tape.trans h.tape, k.output.trans h.output, Nat.le_trans h.size k.size, fun i hi hn => (k.block i (Nat.lt_of_lt_of_le hi h.size) hn).trans (h.block i hi hn), fun p s hp => k.strs p s (h.strs p s hp), fun b o s n hs hn => k.tms b o s n (h.strs _ s hs) (h.tms b o s n hs hn)⟩
theorem Turn.after (h : Turn F w w') (k : Below w'.heap.size w' w'') : Turn F w w'' := h.trans (.of_below k)
theorem Turn.ahead (h : Below w.heap.size w w') (k : Turn F w' w'') : Turn F w w'' := (Turn.of_below h).trans k
theorem Turn.below {B : Nat} (h : Turn F w w') (hB : B ≤ w.heap.size) (hF : ∀ k, F k → B ≤ k) : Below B w w' :=
 ⟨h.os, h.tape, h.output, h.size, fun k hk => h.block k (by omega) fun hf => by have := hF k hf; omega⟩
theorem Turn.own {b i : Nat} (h : Turn F w w') (hb : w.heap.size ≤ b) (u : Value) : Turn F w (w'.setCell ⟨b, i, none⟩ u) := by
 have hblk : ∀ k, k < w.heap.size → (w'.setCell ⟨b, i, none⟩ u).heap[k]? = w'.heap[k]? := fun k hk => Below.heap_setCell _ _ _ k (fun e => by have e : k = b := e; omega)
 have hcl : ∀ (p : Addr) y, w.cell? p = some y → (w'.setCell ⟨b, i, none⟩ u).cell? p = w'.cell? p := fun p y hp => World.cell?_of_block (hblk _ (fcell_lt hp))
 have hsz : (w'.setCell ⟨b, i, none⟩ u).heap.size = w'.heap.size := by simp [World.setCell]
 exact ⟨h.os, h.tape, h.output, by rw [hsz]; exact h.size, fun k hk hn => (hblk k hk).trans (h.block k hk hn), fun p s hp => (hcl p _ hp).trans (h.strs p s hp), fun b o s n hs hn => (hcl _ _ hn).trans (h.tms b o s n hs hn)⟩
theorem Turn.set {g i : Nat} {cs : Array Value} {T : TypeId} {fr : Nat × Nat} (hg : w.heap[g]? = some (.cells cs T fr)) (hF : F g) (h1 : ∀ s, cs[i]? ≠ some (Value.string s)) (h2 : ∀ o s n, o + 1 = i → cs[o]? = some (Value.string s) → cs[i]? ≠ some (.int .i64 n)) (u : Value) : Turn F w (w.setCell ⟨g, i, none⟩ u) := by
 have hcell : ∀ j, w.cell? ⟨g, j, none⟩ = cs[j]? := fun j => by simp [World.cell?, hg]
 have hblk : ∀ k, k ≠ g → (w.setCell ⟨g, i, none⟩ u).heap[k]? = w.heap[k]? := fun k hk => Below.heap_setCell _ _ _ k hk
 refine ⟨rfl, rfl, rfl, by simp [World.setCell], fun k _ hn => hblk k (fun q => hn (q ▸ hF)), fun p s hp => ?_, fun b o s n hs hn => ?_⟩
 · rw [World.cell?_setCell_other w ⟨g, i, none⟩ p u (fun q => ?_)]
   · exact hp
   · subst q
     rw [hcell] at hp
     exact h1 s hp
 · rw [World.cell?_setCell_other w ⟨g, i, none⟩ ⟨b, o + 1, none⟩ u (fun q => ?_)]
   · exact hn
   · injection q with q1 q2
     subst q1
     rw [hcell] at hs hn
     exact h2 o s n q2.symm hs (q2 ▸ hn)
theorem Turn.of_grown {row : Option Nat} (hg : w.grownBy w' row) (hr : ∀ r, row = some r → F r ∧ ∃ es c, w.heap[r]? = some (Obj.map es c)) : Turn F w w' := by
 have hcl : ∀ (p : Addr) y, w.cell? p = some y → w'.cell? p = some y := fun p y hp => by
  have hne : some p.block ≠ row := fun e => by
   obtain ⟨_, es, c, ho⟩ := hr _ e.symm
   unfold World.cell? at hp
   rw [ho] at hp
   cases hp
  have := hg.block p.block (fcell_lt hp) hne
  exact (World.cell?_of_block this).trans hp
 exact ⟨hg.os, hg.tape, hg.output, hg.size, fun k hk hn => hg.block k hk fun e => hn (hr k e.symm).1, fun p s hp => hcl p _ hp, fun _ _ _ _ _ hn => hcl _ _ hn⟩
theorem Turn.cbox {b : Nat} {T : TypeId} {cs : Array Value} (h : Turn F w w') (hb : CBox w b T cs) (hF : ¬ F b) : CBox w' b T cs := (h.block b (Array.getElem?_eq_some_iff.1 (show w.heap[b]? = some _ from hb)).1 hF).trans hb
theorem Turn.row {base size n : Nat} {e : TypeId} {v : Value} {xs : List Value} (k : Turn F w w') (h : w.ownsRow base e size v n xs) (hF : ∀ g, v.ownBlock = some g → ¬ F g) : w'.ownsRow base e size v n xs := by
 rcases h.2 with ⟨rfl, h0⟩ | ⟨g, cap, cur, rfl, hb, hg, hr⟩
 · exact ⟨h.1, .inl ⟨rfl, h0⟩⟩
 · exact ⟨h.1, .inr ⟨g, cap, cur, rfl, hb, (k.block g (Array.getElem?_eq_some_iff.1 hg).1 (hF g rfl)).trans hg, hr⟩⟩
end
end Go.Proofs.YthcdppppppgckaaGreatDoor

namespace Go.Proofs.YthcdppppppgckaaGreatDoor
open Go.RowKit Go.Lib Go.Sort
set_option maxRecDepth 20000
set_option maxRecDepth 20000

theorem add_lit (b off k : Nat) : (⟨b, off, none⟩ : Addr).add k = ⟨b, off + k, none⟩ := by unfold Addr.add; split <;> simp_all
theorem gflat_len {α : Type} {cell : α → List Value} {s : Nat} (hc : ∀ q, (cell q).length = s) : ∀ (Q : List α), (Q.flatMap cell).length = Q.length * s
 | [] => by simp
 | q :: Q => by rw [List.flatMap_cons, List.length_append, gflat_len hc Q, hc, List.length_cons, Nat.succ_mul, Nat.add_comm]
section
variable {α : Type} [Inhabited α] {cell : α → List Value} {s : Nat}
theorem gflat_get (hc : ∀ q, (cell q).length = s) : ∀ (Q : List α) (k j : Nat), k < Q.length → j < s → (Q.flatMap cell)[k * s + j]? = (cell (Q.getD k default))[j]?
 | [], k, j, hk, _ => by simp at hk
 | q :: Q, 0, j, _, hj => by
   rw [Nat.zero_mul, Nat.zero_add, List.flatMap_cons, List.getElem?_append_left (by rw [hc]; exact hj)]
   rfl
 | q :: Q, k + 1, j, hk, hj => by
   have := gflat_get hc Q k j (by simpa using hk) hj
   rw [List.flatMap_cons, List.getElem?_append_right (by rw [hc, Nat.succ_mul]; omega), hc, show (k + 1) * s + j - s = k * s + j from by rw [Nat.succ_mul]; omega, this]
   rfl
theorem gflat_set (hc : ∀ q, (cell q).length = s) : ∀ (Q : List α) (k j : Nat) (u : Value) (q' : α), k < Q.length → j < s → cell q' = (cell (Q.getD k default)).set j u → (Q.flatMap cell).set (k * s + j) u = (Q.set k q').flatMap cell
 | [], k, j, _, _, hk, _, _ => by simp at hk
 | q :: Q, 0, j, u, q', _, hj, he => by
   rw [Nat.zero_mul, Nat.zero_add, List.flatMap_cons, List.set_append, if_pos (by rw [hc]; exact hj), List.set_cons_zero, List.flatMap_cons, he]
   rfl
 | q :: Q, k + 1, j, u, q', hk, hj, he => by
   have := gflat_set hc Q k j u q' (by simpa using hk) hj (by simpa using he)
   rw [List.flatMap_cons, List.set_append, if_neg (by rw [hc, Nat.succ_mul]; omega), hc, show (k + 1) * s + j - s = k * s + j from by rw [Nat.succ_mul]; omega, this, List.set_cons_succ, List.flatMap_cons]
variable {P : Program} {T e : TypeId} {w : World} {B : Nat} {v : Value} {Q : List α}
theorem gfacts (hT : P.underlying T = some (.slice e)) (hz : ∀ w, (Go.sizeOf e).run P w = .ok s w) (hc : ∀ q, (cell q).length = s) (h : w.ownsRow B e s v Q.length (Q.flatMap cell)) :
 ∃ g, (∀ ty w', (Builtin.len_ #[T] ty #[v]).run P w' = .ok (.int .i64 Q.length) w') ∧ (∀ k, k < Q.length → ∀ w', (Instr.indexAt T v (.int .i64 k)).run P w' = .ok (.pointer (some ⟨g, k * s, none⟩)) w') ∧
   (∀ k, k < Q.length → B ≤ g ∧ g < w.heap.size ∧ v.ownBlock = some g ∧ ∀ j, j < s → w.cell? ⟨g, k * s + j, none⟩ = (cell (Q.getD k default))[j]? ∧ w.frozen? ⟨g, k * s + j, none⟩ = false) := by
 rcases h.2 with ⟨rfl, h0⟩ | ⟨g, cap, cur, rfl, hb, hg, hn, hm, hs, ht⟩
 · exact ⟨0, fun ty w' => by rw [h0]; exact run_len_any hT none 0 0 ty w', fun k hk => by omega, fun k hk => by omega⟩
 · refine ⟨g, fun ty w' => run_len_any hT _ Q.length cap ty w', fun k hk w' => ?_, fun k hk => ⟨hb, (Array.getElem?_eq_some_iff.1 hg).1, rfl, fun j hj => ?_⟩⟩
   · have := run_index_any (P := P) (s := s) hT hz g 0 Q.length cap k hk w'
     simpa using this
   · obtain ⟨x, hx⟩ : ∃ x, (cell (Q.getD k default))[j]? = some x := ⟨_, List.getElem?_eq_getElem (by rw [hc]; exact hj)⟩
     have c := h.cells (g := g) rfl (k * s + j) x (by rw [gflat_get hc Q k j hk hj]; exact hx)
     rw [add_lit, Nat.zero_add] at c
     exact ⟨c.trans hx.symm, by simp [World.frozen?, hg]⟩
end
section
variable {α : Type} {cell : α → List Value} {s : Nat} {P : Program} {T e : TypeId} {w : World} {B : Nat} {v : Value} {Q : List α}
end
theorem own_setIn {w : World} {base n size g idx : Nat} {e : TypeId} {v : Value} {xs : List Value} (h : w.ownsRow base e size v n xs) (hg : v.ownBlock = some g) (_hi : idx < n * size) (u : Value) : (w.setCell ⟨g, idx, none⟩ u).ownsRow base e size v n (xs.set idx u) := by
 refine ⟨by rw [List.length_set]; exact h.1, ?_⟩
 rcases h.2 with ⟨rfl, h0⟩ | ⟨g', cap, cur, rfl, hb, hg', hn, hm, hs, ht⟩
 · cases hg
 · injection hg with hg
   have hg : g' = g := hg
   subst hg
   refine .inr ⟨g', cap, cur.setIfInBounds idx u, rfl, hb, ?_, hn, hm, by simpa using hs, ?_⟩
   · simp [World.setCell, Array.getElem?_modify, hg']
   · rw [Array.toList_setIfInBounds, List.take_set, ht]
theorem own_keep {w w' : World} {base size n : Nat} {e : TypeId} {v : Value} {xs : List Value} (h : w.ownsRow base e size v n xs) (hk : ∀ g, v.ownBlock = some g → w'.heap[g]? = w.heap[g]?) : w'.ownsRow base e size v n xs := by
 rcases h.2 with ⟨rfl, h0⟩ | ⟨g, cap, cur, rfl, hb, hg, hn, hm, hs, ht⟩
 · exact ⟨h.1, .inl ⟨rfl, h0⟩⟩
 · exact ⟨h.1, .inr ⟨g, cap, cur, rfl, hb, (hk g rfl).trans hg, hn, hm, hs, ht⟩⟩
theorem own_type {w : World} {base size n g : Nat} {e : TypeId} {v : Value} {xs : List Value} (h : w.ownsRow base e size v n xs) (hg : v.ownBlock = some g) : base ≤ g ∧ ∃ cur, w.heap[g]? = some (.cells cur e (0, 0)) ∧ n * size ≤ cur.size ∧ cur.toList.take (n * size) = xs := by
 rcases h.2 with ⟨rfl, h0⟩ | ⟨g', cap, cur, rfl, hb, hg', hn, hm, hs, ht⟩
 · cases hg
 · injection hg with hg
   have hg : g' = g := hg
   subst hg
   exact ⟨hb, cur, hg', by rw [hs]; exact Nat.mul_le_mul_right _ hn, ht⟩
theorem sliceOf_block {w : World} {b : Nat} {cs : List Value} {T : TypeId} {fr : Nat × Nat} {size m c : Nat} (h : w.heap[b]? = some (.cells cs.toArray T fr)) (hl : cs.length = m * size) (h1 : ∀ x ∈ cs, x.oneCell' = true) :
 SliceOf w size (.slice (some ⟨b, 0, none⟩) m c) m cs := by
 refine ⟨_, _, rfl, hl, h1, .inr ⟨_, rfl, fun j x hj => ?_⟩⟩
 rw [add_lit, Nat.zero_add]
 simp [World.cell?, h, hj]
theorem own_ne_box {w : World} {base size n b : Nat} {e T : TypeId} {v : Value} {xs : List Value} {cs : Array Value} (h : w.ownsRow base e size v n xs) (hb : CBox w b T cs) (hT : e ≠ T) : ∀ g, v.ownBlock = some g → g ≠ b := fun g hg q => by
 obtain ⟨_, cur, e', _⟩ := own_type h hg
 have hb' : w.heap[b]? = some _ := hb
 rw [q, hb'] at e'
 injection e' with e'
 injection e' with _ e' _
 exact hT e'.symm
end Go.Proofs.YthcdppppppgckaaGreatDoor
