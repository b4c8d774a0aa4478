/- Texts joined into one file: TOf, TRound, TPorts, TKnown. -/
import Derived.Test.YthcdppppppgckaaGreatDoorC23
import Derived.Test.YthcdppppppgckaaGreatDoorC04
import Derived.OrdersHeld
import Derived.OrdersIn
import Derived.Deep.RegionHeld
import Derived.Test.YthcdppppppgckaaGreatDoorC14
import Derived.Shelf.RegionOpen

namespace Go.Proofs.YthcdppppppgckaaGreatDoor
open Go.RowKit Go.Lib Go.Maps Go.Sort Go.Shelf
set_option maxRecDepth 20000
attribute [local go_sem] Oper.semAt_some

theorem RoundIn.any {m m' : Nat} {P : Program} {l : Nat} {f : FuncId} {tmps : Array Value} {assign body : Code} {w : World} {R : Ending → World → Prop}
 (h : RoundIn Fence.wide m P l f tmps assign body w R) : RoundIn Fence.wide m' P l f tmps assign body w R := ⟨h.1, fun c cs _ => h.2 c cs (fun d hd => by cases hd)⟩
theorem YieldAt.any {m : Nat} (m' : Nat) {P : Program} {l : Nat} {args : Array Value} {W : World} {R : Ending → World → Prop} (h : YieldAt Fence.wide m P l args W R) : YieldAt Fence.wide m' P l args W R := by
 obtain ⟨fn, tmps, assign, body, hy, hR⟩ := h
 exact ⟨fn, tmps, assign, body, hy, RoundIn.any hR⟩

end Go.Proofs.YthcdppppppgckaaGreatDoor

namespace Go.Proofs.YthcdppppppgckaaGreatDoor
open Go.RowKit Go.Lib Go.Shelf
set_option maxRecDepth 20000

section
variable {P : Program} {ops : Array Oper} {Q : Exit → Act → World → Prop} {md : Region.Mode}
def noDefer (ops : Array Oper) : Bool := ops.all fun o => match o.op with | .defer _ => false | _ => true
theorem noDefer_spec (h : noDefer ops = true) {i : Nat} {o : Oper} (ho : ops[i]? = some o) (c : Call) : o.op ≠ .defer c := fun e => by
 obtain ⟨hi, hg⟩ := Array.getElem?_eq_some_iff.1 ho
 have := (Array.all_eq_true.1 h) i hi
 rw [hg, e] at this
 cases this

theorem Oper.wpIn_round {l n : Nat} {o : Oper} {a : Act} {w : World} {K : Act → World → Prop} (hd : ∀ c, o.op ≠ .defer c) (h : o.wp P a w K Q) : o.wpIn (Fence.wide.inRound l) n P a w K Q := by
 unfold Oper.wp at h
 unfold Oper.wpIn
 refine ⟨fun _ _ => trivial, ?_⟩
 rw [Oper.semAt_eq _ _ _ hd]
 generalize (execOp a.eval o).run P w = r at *
 cases r with
 | ok x w' =>
   cases x <;> simp only [Oper.upon, Oper.uponIn] at h ⊢ <;>
    first
     | exact h
     | exact ⟨fun hx => (by cases hx), (callsIn_wide (n := n - 1)).2 h⟩
     | exact ⟨fun hx => (by cases hx), fun c cs _ => by obtain ⟨v, w', hr, hs⟩ := h c cs; exact ⟨v, w', hr, stepsIn_wide.2 hs⟩⟩
 | halt x w' => cases x <;> simp only [Oper.upon, Oper.uponIn] at h ⊢ <;> exact h

theorem wpAnyIn_round {l n : Nat} (hno : ¬ LetsOut Q) (hd : noDefer ops = true) : ∀ (fuel : Nat) (listed : Array Bool) (a : Act) (w : World), wpAny P md ops Q fuel listed a w → wpAnyIn (Fence.wide.inRound l) n P md ops Q fuel listed a w
 | 0, _, _, _, h => h
 | fuel + 1, listed, a, w, h => ⟨h.1, fun i hi => by
    have h2 := h.2 i hi
    unfold wpOp at h2
    unfold wpOpIn
    split
    · rename_i ho
      rw [ho] at h2
      exact wpAnyIn_round hno hd fuel _ a w h2
    · rename_i o ho
      rw [ho] at h2
      dsimp only at h2
      split
      · rename_i hw
        rw [if_pos hw] at h2
        rcases h2 with h2 | ⟨_, h2⟩
        · exact Oper.wpIn_round (noDefer_spec hd ho) (Oper.wp_mono (fun a' w' h' => wpAnyIn_round hno hd fuel _ a' w' h') h2)
        · exact absurd h2 hno
      · rename_i hw
        rw [if_neg hw] at h2
        exact ⟨fun _ _ => trivial, wpAnyIn_round hno hd fuel _ _ w h2⟩⟩

theorem region_round {l n id : Nat} {a : Act} {w : World} (S : World → Prop) (hm : P.follows .mixedOrders = true) (hd : noDefer ops = true) (hno : ¬ LetsOut Q) (hS : S w.drew)
 (h : S w.drew → wpAnyH P .any ops Q S ops.size (Array.replicate ops.size false) a w.drew) : (Code.region id ops true).wpIn (Fence.wide.inRound l) n P Q a w :=
 wpIn_region_any hm (wpAnyIn_round hno hd _ _ _ _ (wpAny_of_held _ _ _ _ (h hS)))

end
end Go.Proofs.YthcdppppppgckaaGreatDoor

namespace Go.Proofs.YthcdppppppgckaaGreatDoor
open Go.RowKit Go.Lib Go.Maps Go.Sort Go.Shelf
set_option maxRecDepth 20000
attribute [local go_sem] Oper.semAt_some

def TRead (w : World) (t : Option Addr) (N : Nat) (F : Tst) (K : List TK) : Prop :=
 KeysS F K ∧ ((t = none ∧ K = [] ∧ N = 0) ∨ ∃ p b o m room M L O, t = some ⟨p, 0, none⟩ ∧ Tb w p b o N m room M L F O)
theorem TRead.mono {w w' : World} {t : Option Addr} {N : Nat} {F : Tst} {K : List TK} (h : TRead w t N F K) (hb : Below w.heap.size w w') : TRead w' t N F K := by
 refine ⟨h.1, ?_⟩
 rcases h.2 with h | ⟨p, b, o, m, room, M, L, O, e, h⟩
 · exact .inl h
 · exact .inr ⟨p, b, o, m, room, M, L, O, e, h.mono hb⟩
theorem TRead.stops {w : World} {t : Option Addr} {N : Nat} {F : Tst} {K : List TK} (h : TRead w t N F K) (hN : N ≤ 1000000) (n Ba B : Nat) (hBa : Ba < w.heap.size) (ha : w.cell? ⟨Ba, 0, none⟩ = some (.pointer t)) (hB : B ≤ w.heap.size) :
 SeqG Fence.wide n Tryz.prog 160 #[.pointer (some ⟨Ba, 0, none⟩)] (fun x : TKo => #[encT x.1]) B (fun ss => ss.map Subtype.val = K) (fun pre => pre.map Subtype.val <+: K) N w := by
 obtain ⟨hK, h⟩ := h
 rcases h with ⟨rfl, rfl, rfl⟩ | ⟨p, b, o, m, room, M, L, O, rfl, h⟩
 · exact tall_stops_nil n Ba 0 B w hBa ha
 · obtain ⟨V, hV, hH⟩ := h.states
   exact tall_stops n Ba p b N B _ _ _ _ V K w hBa ha h.box hV hN (hH.keys hK) hK.1 hB

def padmS (s : Stt) (src : Str) (now : Int) : Bool := padm s.1 s.2.1 s.2.2 now src
def portsS (F : Tst) (src : Str) (now : Int) (l : List TK) : List Int := (l.filter fun x => padmS (oldS F x) src now).map fun x => x.2.2
def PRow (F : Tst) (src : Str) (now : Int) (b0 B : Nat) (pre : List TKo) (W : World) : Prop := ∃ u, Boxed W B 23 u ∧ W.ownsRow b0 3 1 u (portsS F src now (pre.map Subtype.val)).length ((portsS F src now (pre.map Subtype.val)).map (Value.int .i64)) ∧ True
theorem PRow.own (F : Tst) (src : Str) (now : Int) (b0 B : Nat) : Own (PRow F src now b0 B) := holdsRow_own b0 B 23 3 1 (fun pre : List TKo => (portsS F src now (pre.map Subtype.val)).length) (fun pre : List TKo => (portsS F src now (pre.map Subtype.val)).map (Value.int .i64)) (fun _ _ => True)


attribute [local go_sem] Oper.semAt_some

end Go.Proofs.YthcdppppppgckaaGreatDoor
