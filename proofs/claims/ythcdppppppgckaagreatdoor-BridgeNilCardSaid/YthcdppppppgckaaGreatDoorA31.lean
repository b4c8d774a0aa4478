/- Texts joined into one file: TKeys, TDrop, TTight. -/
import Derived.Test.YthcdppppppgckaaGreatDoorA30
import Derived.Test.YthcdppppppgckaaGreatDoorA24

namespace Go.Proofs.YthcdppppppgckaaGreatDoor
open Go.RowKit Go.Lib Go.Maps Go.Sort Go.Shelf
set_option maxRecDepth 20000
attribute [local go_sem] Oper.semAt_some

theorem Kts.own {w : World} {base : Nat} {v : Value} {K : List TK} (h : w.ownsRow base 177 3 v K.length (K.flatMap ktcells)) : Kts w v K := by
 rcases h.2 with ⟨rfl, h0⟩ | ⟨g, cap, cur, rfl, hb, hg, hn, hm, hs, ht⟩
 · rw [List.length_eq_zero_iff] at h0
   subst h0
   exact Kts.nil w
 · refine ⟨_, cap, g, 0, rfl, .inr rfl, fun k hk => ?_⟩
   have hc := h.cells (g := g) rfl
   have hx : ∀ j, j < 3 → (K.flatMap ktcells)[k * 3 + j]? = some ((ktcells (K.getD k default))[j]!) := fun j hj => by
    have := tkflat_get K (k * 3 + j) (by omega)
    rw [show (k * 3 + j) / 3 = k from by omega, show (k * 3 + j) % 3 = j from by omega] at this
    exact this
   have c0 := hc _ _ (hx 0 (by omega))
   have c1 := hc _ _ (hx 1 (by omega))
   have c2 := hc _ _ (hx 2 (by omega))
   rw [add_lit, Nat.zero_add] at c0 c1 c2
   refine ⟨(Array.getElem?_eq_some_iff.1 hg).1, ?_, ?_, ?_⟩
   · rw [Nat.zero_add]; exact c0
   · rw [Nat.zero_add]; exact c1
   · rw [Nat.zero_add]; exact c2

def TRowK (b0 B : Nat) (pre : List TKo) (W : World) : Prop := ∃ u, Boxed W B 270 u ∧ W.ownsRow b0 177 3 u pre.length ((pre.map Subtype.val).flatMap ktcells) ∧ True
theorem TRowK.own (b0 B : Nat) : Own (TRowK b0 B) := holdsRow_own b0 B 270 177 3 (fun pre : List TKo => pre.length) (fun pre : List TKo => (pre.map Subtype.val).flatMap ktcells) (fun _ _ => True)


attribute [local go_sem] Oper.semAt_some

theorem CKeep.of_far {X Y : World} {row : Option Nat} (hg : X.grownBy Y row) (hr : ∀ r, row = some r → ∃ o : Obj, X.heap[r]? = some o ∧ o.isCells = false) : CKeep X Y :=
 ⟨hg.size, fun j cs T fr e => (hg.block j (Array.getElem?_eq_some_iff.1 e).1 (fun q => by
  obtain ⟨o, ho, hc⟩ := hr j q.symm
  rw [e] at ho
  injection ho with ho
  subst ho
  cases hc)).trans e⟩
theorem Tb.far {X Y : World} {p b o n m : Nat} {room M L : Int} {F : Tst} {O : Int → Option Int} {row : Option Nat} {B : Nat} (h : Tb X p b o n m room M L F O) (hg : X.grownBy Y row) (hr : ∀ r, row = some r → B ≤ r ∧ ∃ o : Obj, X.heap[r]? = some o ∧ o.isCells = false) (hb : b < B) (ho : o < B) : Tb Y p b o n m room M L F O := by
 obtain ⟨V, hV, hH⟩ := h.states
 obtain ⟨U, hU, hO⟩ := h.overs
 have hc := CKeep.of_far hg (fun r e => (hr r e).2)
 exact ⟨hc.box h.box, ⟨V, hV.kept hg (fun e => by have := (hr b e.symm).1; omega), hH.keep hc⟩, ⟨U, hU.kept hg (fun e => by have := (hr o e.symm).1; omega), hO⟩, h.ne⟩
theorem MTurn.far {X Y w : World} {b o : Nat} {row : Option Nat} {B : Nat} (h : MTurn b o w X) (hg : X.grownBy Y row) (hr : ∀ r, row = some r → B ≤ r) (hB : w.heap.size ≤ B) : MTurn b o w Y :=
 ⟨hg.os.trans h.os, hg.tape.trans h.tape, hg.output.trans h.output, Nat.le_trans h.size hg.size, fun k hk h1 h2 => (hg.block k (Nat.lt_of_lt_of_le hk h.size) (fun e => by have := hr k e.symm; omega)).trans (h.block k hk h1 h2)⟩
theorem Tb.setBox {W : World} {p b o n m B : Nat} {room M L z : Int} {F : Tst} {O : Int → Option Int} {T : TypeId} (h : Tb W p b o n m room M L F O) (hB : CBox W B T #[.int .i64 z]) (hp : B ≠ p) (u : Value) : Tb (W.setCell ⟨B, 0, none⟩ u) p b o n m room M L F O := by
 obtain ⟨V, hV, hH⟩ := h.states
 obtain ⟨U, hU, hO⟩ := h.overs
 have hb' : W.heap[B]? = some _ := hB
 have hs : ∀ (i : Nat) (s : ByteArray), (#[.int .i64 z] : Array Value)[i]? ≠ some (Value.string s) := fun i s => by
  match i with
  | 0 => simp
  | i + 1 => simp
 refine ⟨h.box.far (p := ⟨B, 0, none⟩) (Ne.symm hp) u, ⟨V, hV.set (p := ⟨B, 0, none⟩) (fun e => ?_) u, fun k => ?_⟩, ⟨U, hU.set (p := ⟨B, 0, none⟩) (fun e => ?_) u, hO⟩, h.ne⟩
 · obtain ⟨es, c, e'⟩ := hV.map_is
   rw [show b = B from e, hb'] at e'
   cases e'
 · have := hH k
   cases hF : F k
   · rw [hF] at this; exact this
   · rw [hF] at this
     obtain ⟨v, e, hT, hw⟩ := this
     exact ⟨v, e, hT.apart (p := ⟨B, 0, none⟩) (fun hL c hc => hT.ne_box hB hs hL c hc) u, hw⟩
 · obtain ⟨es, c, e'⟩ := hU.map_is
   rw [show o = B from e, hb'] at e'
   cases e'

end Go.Proofs.YthcdppppppgckaaGreatDoor

namespace Go.Proofs.YthcdppppppgckaaGreatDoor
open Go.RowKit Go.Lib Go.Maps Go.Sort
set_option maxRecDepth 20000
section
variable {P : Program} {T : TypeId} {κ : Type} {K : KeyEnc P T κ} {w : World} {b n : Nat} {F : κ → Option Value}
theorem KeysV.len {L M : List κ} (h : KeysV F L) (h' : KeysV F M) : L.length = M.length := ((List.perm_ext_iff_of_nodup h.1 h'.1).2 fun k => (h.2 k).trans (h'.2 k).symm).length_eq
theorem World.ownsMap.tight {H : Type} {R : Value → Option (DataW H × List MemPlace)} {D : DataW H} (h : w.ownsMap P T R b n D) : w.ownsMap P T R b (Maps.size D) D := by
 obtain ⟨es, clock, hb, F, _, rfl⟩ := h
 exact ⟨es, clock, hb, F, by simp [Maps.size, length_sorted], rfl⟩
theorem VMap.tight {t e : TypeId} (h : VMap K w b n F) (ht : P.underlying t = some (.map T e)) {L : List κ} (hL : KeysV F L) : VMap K w b L.length F := by
 obtain ⟨L', h1, _, h2⟩ := h.count ht
 obtain ⟨h0, D, hd, e'⟩ := h
 have h3 := hd.len ht 0
 rw [h2 0] at h3
 injection h3 with h3
 injection h3 with _ h3
 have hl : L.length = Maps.size D := by rw [hL.len h1]; exact Int.ofNat.inj h3
 rw [hl]
 exact ⟨h0, D, World.ownsMap.tight hd, e'⟩
end
theorem Tb.tight {w : World} {p b o n m : Nat} {room M L : Int} {F : Tst} {O : Int → Option Int} {K : List TK} (h : Tb w p b o n m room M L F O) (hK : KeysS F K) : Tb w p b o K.length m room M L F O := by
 obtain ⟨V, hV, hH⟩ := h.states
 exact ⟨h.box, ⟨V, hV.tight Tryz.underlying152 (hH.keys hK), hH⟩, h.overs, h.ne⟩
theorem tbw_own' {β : Type} {w : World} {p b o m B : Nat} {room M L : Int} {O : Int → Option Int} (f : β → Tst) (g : β → Nat) (hb : b < B) (ho : o < B) (hB : w.heap.size ≤ B) : OwnFrom B (fun s W => Tb W p b o (g s) m room M L (f s) O ∧ MTurn b o w W) :=
 fun _ _ _ _ hs hg hr => ⟨hs.1.far hg hr hb ho, hs.2.far hg (fun r e => (hr r e).1) hB⟩
end Go.Proofs.YthcdppppppgckaaGreatDoor
