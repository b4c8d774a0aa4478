/- Texts joined into one file: Base, Boxes, App, JRound. -/
import Derived.Test.YthcdppppppgckaaGreatDoorProg
import Derived.WalkKit
import Derived.WalkSpells
import Derived.WalkLawsBesides
import Derived.Lib.Hide
import Derived.Deep.QuietTactic
import Derived.BigQuiet
import Derived.Maps.AppendAt
import Derived.Deep.AppendLies
import Derived.OwnWalk
import Derived.OrdersHeld
import Derived.OrdersIn
import Derived.Deep.RegionHeld

namespace Go.Proofs.YthcdppppppgckaaGreatDoor
open Go.RowKit
set_option maxRecDepth 20000

theorem run_len_any {P : Program} {T e : TypeId} (hT : P.underlying T = some (.slice e)) (ao : Option Addr) (n cap : Nat) (ty : TypeId) (w : World) :
 (Builtin.len_ #[T] ty #[.slice ao n cap]).run P w = .ok (.int .i64 n) w := by
 have h : P.underlying T = some (.slice (P.elem T)) := by simp [Program.elem, hT]
 rw [run_len_slice w T ty ao n cap h]; rfl

theorem run_index_any {P : Program} {T e : TypeId} {s : Nat} (hT : P.underlying T = some (.slice e)) (hs : ∀ w, (sizeOf e).run P w = .ok s w) (b off n cap k : Nat) (hk : k < n) (w : World) :
 (Instr.indexAt T (.slice (some ⟨b, off, none⟩) n cap) (.int .i64 k)).run P w = .ok (.pointer (some ⟨b, off + k * s, none⟩)) w := by
 have h : P.underlying T = some (.slice (P.elem T)) := by simp [Program.elem, hT]
 have he : P.elem T = e := by simp [Program.elem, hT]
 have hadd : (⟨b, off, none⟩ : Addr).add (k * s) = ⟨b, off + k * s, none⟩ := by unfold Addr.add; split <;> simp_all
 rw [run_indexAt_slice w T _ n cap _ _ h, if_pos ⟨by omega, by omega⟩, he, hs]
 simp [Result.andThen, hadd]

def Ints (w : World) (v : Value) (L : List Int) : Prop :=
 ∃ ao cap b off, v = .slice ao L.length cap ∧ (L = [] ∨ ao = some ⟨b, off, none⟩) ∧ L.length ≤ 17592186044416 ∧ (∀ x ∈ L, (Lit.int .i64 x).wf = true) ∧
   (∀ k, k < L.length → b < w.heap.size ∧ w.cell? ⟨b, off + k, none⟩ = some (.int .i64 (L.getD k 0)))

theorem Ints.mono {w w' : World} {v : Value} {L : List Int} (h : Ints w v L) (hb : Below w.heap.size w w') : Ints w' v L := by
 obtain ⟨ao, cap, b, off, rfl, h0, h1, h2, h3⟩ := h
 refine ⟨ao, cap, b, off, rfl, h0, h1, h2, fun k hk => ?_⟩
 obtain ⟨hlt, hc⟩ := h3 k hk
 exact ⟨Nat.lt_of_lt_of_le hlt hb.size, by rw [hb.cell (p := ⟨b, off + k, none⟩) hlt]; exact hc⟩

theorem below_draws (B : Nat) {a w : World} (h : Below B a w) (n : Nat) : Below B a (w.drewN n) := ⟨h.os, h.tape, h.output, h.size, h.block⟩

theorem Ints.draws {w : World} {v : Value} {L : List Int} (h : Ints w v L) (n : Nat) : Ints (w.drewN n) v L := h.mono (below_draws _ (Below.refl _ _) n)

theorem Ints.nil (w : World) : Ints w (.slice none 0 0) [] := ⟨none, 0, 0, 0, rfl, .inl rfl, by simp, by simp, by simp⟩

theorem Ints.own {w : World} {base : Nat} {e : TypeId} {v : Value} {L : List Int} (h : w.ownsRow base e 1 v L.length (L.map (Value.int .i64))) (hl : L.length ≤ 17592186044416) (hw : ∀ x ∈ L, (Lit.int .i64 x).wf = true) : Ints w v L := by
 rcases h.2 with ⟨rfl, h0⟩ | ⟨g, cap, cur, rfl, hb, hg, hn, hm, hs, ht⟩
 · rw [List.length_eq_zero_iff] at h0
   subst h0
   exact Ints.nil w
 · refine ⟨_, cap, g, 0, rfl, .inr rfl, hl, hw, fun k hk => ⟨(Array.getElem?_eq_some_iff.1 hg).1, ?_⟩⟩
   have := h.cells (g := g) rfl k (.int .i64 (L.getD k 0)) (by simp [List.getD_eq_getElem?_getD, hk])
   have hadd : (⟨g, 0, none⟩ : Addr).add k = ⟨g, 0 + k, none⟩ := by unfold Addr.add; split <;> simp_all
   rw [hadd] at this
   exact this

theorem Ints.wf {w : World} {v : Value} {L : List Int} (h : Ints w v L) : ∀ x ∈ L, (Lit.int .i64 x).wf = true := by
 obtain ⟨_, _, _, _, _, _, _, h, _⟩ := h
 exact h

theorem Ints.facts {w : World} {v : Value} {L : List Int} (h : Ints w v L) :
 ∃ b off, L.length ≤ 17592186044416 ∧ (∀ ty w', (Builtin.len_ #[23] ty #[v]).run Tryz.prog w' = .ok (.int .i64 L.length) w') ∧
   (∀ k, k < L.length → ∀ w', (Instr.indexAt 23 v (.int .i64 k)).run Tryz.prog w' = .ok (.pointer (some ⟨b, off + k, none⟩)) w') ∧
   (∀ k, k < L.length → b < w.heap.size ∧ w.cell? ⟨b, off + k, none⟩ = some (.int .i64 (L.getD k 0))) := by
 obtain ⟨ao, cap, b, off, rfl, h0, h1, h2, h3⟩ := h
 refine ⟨b, off, h1, fun ty w' => run_len_any Tryz.underlying23 ao L.length cap ty w', fun k hk w' => ?_, h3⟩
 rcases h0 with h0 | rfl
 · subst h0; exact absurd hk (by simp)
 · have := run_index_any (P := Tryz.prog) (s := 1) Tryz.underlying23 (fun w => by kernel_rfl) b off L.length cap k hk w'
   rw [Nat.mul_one] at this
   exact this

theorem Ints.one {w : World} {v : Value} {L : List Int} (h : Ints w v L) : v.cells = #[v] ∧ ∀ (a : Addr) (m : Mode) (w' : World), (store a v m).run Tryz.prog w' = stored Tryz.prog w' a v m := by
 obtain ⟨ao, cap, b, off, rfl, _⟩ := h
 exact ⟨rfl, fun a m w' => run_store_slice _ _ _ _ _ _ _⟩

theorem ret_bool {a b : Bool} (h : a = b) : Ending.returned (.bool a) = .returned (.bool b) := by rw [h]

theorem quietS {P : Program} {f : FuncId} {args : Array Value} {w : World} {n : Nat} {v : Value}
 (h : Calls P f args (w.drewN n) fun e w' => e = .returned v ∧ w.drewN n = w') : Calls P f args (w.drewN n) fun e w'' => e = .returned v ∧ ∃ m, w'' = w.drewN m :=
 Calls.quiet_of_same (h.mono fun _ _ h => ⟨h.1, h.2.symm⟩)

theorem own_ne {w : World} {base : Nat} {e : TypeId} {size : Nat} {v : Value} {n : Nat} {xs : List Value} (h : w.ownsRow base e size v n xs) {b : Nat} (hb : b < base) : v.ownBlock = none ∨ v.ownBlock ≠ some b :=
 .inr (fun e => by have := h.lt b e; omega)

theorem below_own {B base : Nat} {a w w' : World} {e : TypeId} {size : Nat} {v : Value} {n : Nat} {xs : List Value} (h : Below B a w) (ho : w.ownsRow base e size v n xs) (hB : B ≤ base) (hs : B ≤ w.heap.size) (hg : w.grownBy w' v.ownBlock) : Below B a w' :=
 h.grown hg hs (fun k hk => Nat.le_trans hB (ho.lt k hk).1)

theorem take_snoc {α : Type} (L : List α) (k : Nat) (h : k < L.length) : L.take (k + 1) = L.take k ++ [L[k]] :=
 List.take_succ_eq_append_getElem h


def CBox (w : World) (b : Nat) (T : TypeId) (cs : Array Value) : Prop := w.heap[b]? = some (.cells cs T (0, 0))
section
variable {w w' : World} {b B : Nat} {T : TypeId} {cs : Array Value}
theorem CBox.lt (h : CBox w b T cs) : b < w.heap.size := (Array.getElem?_eq_some_iff.1 h).1
theorem CBox.at_ (h : CBox w b T cs) (i : Nat) (v : Value) (hi : cs[i]? = some v) : w.cell? ⟨b, i, none⟩ = some v ∧ w.frozen? ⟨b, i, none⟩ = false := by
 have h' : w.heap[b]? = some (.cells cs T (0, 0)) := h
 exact ⟨by simp [World.cell?, h', hi], by simp [World.frozen?, h']⟩
theorem CBox.below (h : CBox w b T cs) (hb : Below B w w') (hB : b < B) : CBox w' b T cs := (hb.block b hB).trans h
theorem CBox.grown {row : Option Nat} (h : CBox w b T cs) (hg : w.grownBy w' row) (hne : some b ≠ row) : CBox w' b T cs := (hg.block b h.lt hne).trans h
theorem CBox.set (h : CBox w b T cs) (i : Nat) (u : Value) : CBox (w.setCell ⟨b, i, none⟩ u) b T (cs.setIfInBounds i u) := by
 have h' : w.heap[b]? = some (.cells cs T (0, 0)) := h
 unfold CBox
 simp [World.setCell, Array.getElem?_modify, h']
theorem CBox.far (h : CBox w b T cs) {p : Addr} (hp : b ≠ p.block) (u : Value) : CBox (w.setCell p u) b T cs := (Below.heap_setCell w p u b hp).trans h
theorem CBox.new (cs : Array Value) (hb : b = w.heap.size) : CBox (w.alloc (.cells cs T)) b T cs := by subst hb; exact heap_alloc_new w _
theorem CBox.old (h : CBox w b T cs) (o : Obj) : CBox (w.alloc o) b T cs := h.below ((Below.refl _ w).alloc (Nat.le_refl _) o) h.lt
theorem CBox.draws (h : CBox w b T cs) (n : Nat) : CBox (w.drewN n) b T cs := h.below (below_draws _ (Below.refl _ _) n) h.lt
end

theorem own_form {w : World} {base : Nat} {e : TypeId} {size : Nat} {v : Value} {n : Nat} {xs : List Value} (h : w.ownsRow base e size v n xs) : ∃ ao c, v = .slice ao n c := by
 rcases h.2 with ⟨rfl, rfl⟩ | ⟨g, cap, cur, rfl, _⟩
 · exact ⟨_, _, rfl⟩
 · exact ⟨_, _, rfl⟩

theorem grown_below {w1 wr w2 : World} {row : Option Nat} (hg : w1.grownBy wr row) (hb : Below wr.heap.size wr w2) : w1.grownBy w2 row :=
 ⟨hb.os.trans hg.os, hb.tape.trans hg.tape, hb.output.trans hg.output, Nat.le_trans hg.size hb.size, fun k hk hne => (hb.block k (Nat.lt_of_lt_of_le hk hg.size)).trans (hg.block k hk hne)⟩

theorem heap_new (w : World) (o : Obj) (b : Nat) (h : b = w.heap.size) : (w.alloc o).heap[b]? = some o := by subst h; exact heap_alloc_new w o

theorem own_box {w : World} {base : Nat} {e : TypeId} {size : Nat} {v : Value} {n : Nat} {xs : List Value} {b : Nat} {T : TypeId} {cs : Array Value} (h : w.ownsRow base e size v n xs) (hd : CBox w b T cs) (hne : e ≠ T) : v.ownBlock ≠ some b := by
 rcases h.2 with ⟨rfl, _⟩ | ⟨g, cap, cur, rfl, _, hg, _⟩
 · simp [Value.ownBlock]
 · intro e'
   have : g = b := by simpa [Value.ownBlock] using e'
   subst this
   have hd' : w.heap[g]? = some (.cells cs T (0, 0)) := hd
   rw [hg] at hd'
   simp at hd'
   exact hne hd'.2

def SliceOf (w : World) (size : Nat) (u : Value) (m : Nat) (news : List Value) : Prop :=
 ∃ A c, u = .slice A m c ∧ news.length = m * size ∧ (∀ x ∈ news, x.oneCell' = true) ∧ (m = 0 ∨ ∃ ad, A = some ad ∧ ∀ j x, news[j]? = some x → w.cell? (ad.add j) = some x)

theorem run_append_vals {P : Program} (w : World) (base : Nat) (t ty e : TypeId) (i : TypeInfo) (z : Value) (size bytes : Nat) (ht : P.underlying t = some (.slice e)) (hi : P.info? e = some i) (hz : i.zero = some z)
 (hsize : i.size = size) (hby : i.bytes = bytes) (hzs : z.cells.size = size) (hsz : 0 < size) (v : Value) (n : Nat) (xs : List Value) (hown : w.ownsRow base e size v n xs)
 (u : Value) (m : Nat) (news : List Value) (hu : SliceOf w size u m news) (h63 : n + m ≤ maxLen) (hbytes : (n + m) * bytes ≤ 140737488355328) (hbase : base ≤ w.heap.size) :
 ∃ v' w', (Builtin.append_ #[t, t] ty #[v, u]).run P w = .ok v' w' ∧ w'.ownsRow base e size v' (n + m) (xs ++ news) ∧ w.grownBy w' v.ownBlock ∧ (v'.ownBlock = v.ownBlock ∨ v'.ownBlock = some w.heap.size) := by
 obtain ⟨A, c, rfl, hl, h1, hc⟩ := hu
 by_cases hm : m = 0
 · subst hm
   obtain rfl : news = [] := List.eq_nil_of_length_eq_zero (by simpa using hl)
   cases A with
   | none =>
     refine ⟨v, w, ?_, by simpa using hown, World.grownBy.refl w _, .inl rfl⟩
     rcases hown.2 with ⟨rfl, rfl⟩ | ⟨g, cap, cur, rfl, _, _, hnc, _⟩ <;> simp [Builtin.append_, run_underlying ht, sizeOf, typeInfo, Builtin.lenOf, Builtin.firstCells, *, storeCells]
   | some ad =>
     obtain ⟨v', w', a1, a2, a3, _, a4⟩ := run_append_own_at (P := P) w base t ty e i z size bytes ht hi hz hsize hby hzs hsz v n xs hown ad 0 c [] hl (by simp) h1 h63 hbytes hbase
     exact ⟨v', w', a1, a2, a3, a4⟩
 · rcases hc with hc | ⟨ad, rfl, hc⟩
   · exact absurd hc hm
   · obtain ⟨v', w', a1, a2, a3, _, a4⟩ := run_append_own_at (P := P) w base t ty e i z size bytes ht hi hz hsize hby hzs hsz v n xs hown ad m c news hl hc h1 h63 hbytes hbase
     exact ⟨v', w', a1, a2, a3, a4⟩

theorem wpList_append_vals {P : Program} (w : World) {ops : Array Oper} {rest : List Oper} {o : Oper} {a : Act} {Q : Exit → Act → World → Prop} (hgd : o.guard = none) (s x : Operand) (t : TypeId)
 (ho : o.op = .call { callee := .builtin .append, args := #[s, x], argTypes := #[t, t] })
 (base : Nat) (e : TypeId) (i : TypeInfo) (z : Value) (size bytes : Nat) (ht : P.underlying t = some (.slice e)) (hi : P.info? e = some i) (hz : i.zero = some z)
 (hsize : i.size = size) (hby : i.bytes = bytes) (hzs : z.cells.size = size) (hsz : 0 < size) (v : Value) (n : Nat) (xs : List Value) (hs : a.eval s = v) (hown : w.ownsRow base e size v n xs)
 (u : Value) (m : Nat) (news : List Value) (hx : a.eval x = u) (hu : SliceOf w size u m news) (h63 : n + m ≤ maxLen) (hbytes : (n + m) * bytes ≤ 140737488355328) (hbase : base ≤ w.heap.size)
 (h : ∀ v' w', w'.ownsRow base e size v' (n + m) (xs ++ news) → w.grownBy w' v.ownBlock → (v'.ownBlock = v.ownBlock ∨ v'.ownBlock = some w.heap.size) → wpList P ops Q rest (a.put o.dst v') w') : wpList P ops Q (o :: rest) a w := by
 refine wpList_plain hgd fun _ hK => ?_
 obtain ⟨v', w', hrun, h2, h3, h4⟩ := run_append_vals (P := P) w base t o.type e i z size bytes ht hi hz hsize hby hzs hsz v n xs hown u m news hu h63 hbytes hbase
 unfold Oper.wp execOp
 simp only [ho, resolve, invoke, builtin, Sem.run_bind, Sem.run_pure, Result.andThen_ok, List.map_toArray, List.map_cons, List.map_nil, hs, hx, hrun]
 exact hK _ _ (h v' w' h2 h3 h4)

theorem step_append_vals {P : Program} {ops : Array Oper} {o : Oper} {a : Act} {w : World} {K : Act → World → Prop} {Q : Exit → Act → World → Prop} {E : Prop} (hgd : o.guard = none) (s x : Operand) (t : TypeId)
 (ho : o.op = .call { callee := .builtin .append, args := #[s, x], argTypes := #[t, t] })
 (base : Nat) (e : TypeId) (i : TypeInfo) (z : Value) (size bytes : Nat) (ht : P.underlying t = some (.slice e)) (hi : P.info? e = some i) (hz : i.zero = some z)
 (hsize : i.size = size) (hby : i.bytes = bytes) (hzs : z.cells.size = size) (hsz : 0 < size) (v : Value) (n : Nat) (xs : List Value) (hs : a.eval s = v) (hown : w.ownsRow base e size v n xs)
 (u : Value) (m : Nat) (news : List Value) (hx : a.eval x = u) (hu : SliceOf w size u m news) (h63 : n + m ≤ maxLen) (hbytes : (n + m) * bytes ≤ 140737488355328) (hbase : base ≤ w.heap.size)
 (h : ∀ v' w', w'.ownsRow base e size v' (n + m) (xs ++ news) → w.grownBy w' v.ownBlock → (v'.ownBlock = v.ownBlock ∨ v'.ownBlock = some w.heap.size) → K (a.put o.dst v') w') :
 if Region.wanted o (yielded ops a.tmps) = true then Oper.wp P o a w K Q else E := by
 have hw : Region.wanted o (yielded ops a.tmps) = true := by simp [Region.wanted, hgd]
 rw [if_pos hw]
 obtain ⟨v', w', hrun, h2, h3, h4⟩ := run_append_vals (P := P) w base t o.type e i z size bytes ht hi hz hsize hby hzs hsz v n xs hown u m news hu h63 hbytes hbase
 unfold Oper.wp execOp
 simp only [ho, resolve, invoke, builtin, Sem.run_bind, Sem.run_pure, Result.andThen_ok, List.map_toArray, List.map_cons, List.map_nil, hs, hx, hrun]
 exact h v' w' h2 h3 h4
end Go.Proofs.YthcdppppppgckaaGreatDoor

namespace Go.Proofs.YthcdppppppgckaaGreatDoor
open Go.RowKit Go.Lib
set_option maxRecDepth 20000

section
variable {P : Program} {ops : Array Oper} {Q : Exit → Act → World → Prop} {md : Region.Mode}
theorem takeL {l : List Oper} {S : World → Prop} (i : Nat) {oi : Oper} {v : Value} {fuel : Nat} {listed : Array Bool} {a : Act} {w : World} (hi : l[i]? = some oi)
 (hs : Region.noSelect l.toArray = true) (hf : Region.free md l.toArray listed i = true) (hr : (Region.ready md l.toArray listed).contains i = true)
 (hQ : ∀ c a w, Q (.panic c) (a.put oi.dst v) w → Q (.panic c) a w) (hy : YieldsIf P l.toArray S oi v a) (hS : S w)
 (h : wpAnyH P md l.toArray Q S fuel (listed.setIfInBounds i true) (a.put oi.dst v) w) : wpAnyH P md l.toArray Q S (fuel + 1) listed a w :=
 wpAnyH_take (by simpa using hi) hs hf hr hQ hy hS h
theorem tkL {l : List Oper} {S : World → Prop} (i : Nat) {oi : Oper} {v : Value} {fuel : Nat} {listed : Array Bool} {a : Act} {w : World} (hi : l[i]? = some oi)
 (hb : (Region.noSelect l.toArray && Region.free md l.toArray listed i && (Region.ready md l.toArray listed).contains i) = true) (hQ : ∀ c a w, Q (.panic c) (a.put oi.dst v) w → Q (.panic c) a w) (hy : YieldsIf P l.toArray S oi v a) (hS : S w)
 (h : wpAnyH P md l.toArray Q S fuel (listed.setIfInBounds i true) (a.put oi.dst v) w) : wpAnyH P md l.toArray Q S (fuel + 1) listed a w := by
 simp only [Bool.and_eq_true] at hb
 exact takeL i hi hb.1.1 hb.1.2 hb.2 hQ hy hS h
theorem pA {α : Type} {l : List α} {i : Nat} {x : α} : l.toArray.setIfInBounds i x = (l.set i x).toArray := List.setIfInBounds_toArray ..
theorem pB {α : Type} {a : α} {l : List α} {x : α} : (a :: l).set 0 x = x :: l := List.set_cons_zero ..
theorem pC {α : Type} {a : α} {l : List α} {n : Nat} {x : α} : (a :: l).set (n + 1) x = a :: l.set n x := List.set_cons_succ ..
theorem takeO {l : List Oper} {S : World → Prop} (n : Nat) {oi : Oper} {v : Value} {fuel : Nat} {listed : Array Bool} {a : Act} {w : World} (hi : l[n - (fuel + 1)]? = some oi)
 (hs : (Region.noSelect l.toArray && Region.free md l.toArray listed (n - (fuel + 1)) && (Region.ready md l.toArray listed).contains (n - (fuel + 1))) = true)
 (hQ : ∀ c a w, Q (.panic c) (a.put oi.dst v) w → Q (.panic c) a w) (hy : YieldsIf P l.toArray S oi v a) (hS : S w)
 (h : wpAnyH P md l.toArray Q S fuel (listed.setIfInBounds (n - (fuel + 1)) true) (a.put oi.dst v) w) : wpAnyH P md l.toArray Q S (fuel + 1) listed a w := by
 simp only [Bool.and_eq_true] at hs
 exact wpAnyH_take (by simpa using hi) hs.1.1 hs.1.2 hs.2 hQ hy hS h
theorem nextL {l : List Oper} {S : World → Prop} {fuel : Nat} {listed : Array Bool} {a : Act} {w : World} (i : Nat) {o : Oper} {rs : List Nat} (ho : l[i]? = some o)
 (h : ∀ K' : Act → World → Prop, Shut (∀ a w, S w → (S w → wpAnyH P md l.toArray Q S fuel (listed.setIfInBounds i true) a w) → K' a w) → if Region.wanted o (yielded l.toArray a.tmps) = true then Oper.wp P o a w K' Q else K' (a.put o.dst undef) w)
 (hs : AllReadyH P md l.toArray Q S fuel listed a w rs) : AllReadyH P md l.toArray Q S fuel listed a w (i :: rs) :=
 AllReadyH.cons (by simpa using ho) h hs
end
end Go.Proofs.YthcdppppppgckaaGreatDoor
