/- Texts joined into one file: TTab, TExp, TOf. -/
import Derived.Test.YthcdppppppgckaaGreatDoorA28
import Derived.Test.YthcdppppppgckaaGreatDoorA20
import Derived.Test.YthcdppppppgckaaGreatDoorA23
import Derived.Test.YthcdppppppgckaaGreatDoorA25
import Derived.Test.YthcdppppppgckaaGreatDoorA16

namespace Go.Proofs.YthcdppppppgckaaGreatDoor
open Go.RowKit Go.Lib Go.Maps Go.Sort
set_option maxRecDepth 20000

def KI : KeyEnc Tryz.prog 3 Int where
 enc := Value.int .i64
 ok x := (Lit.int .i64 x).wf = true
 lit := Lit.int .i64
 reads _ h := keyOf_int_mk Tryz.underlying3 h
 all _ _ h := by obtain ⟨x, e, _, hw⟩ := Maps.keyOf_int_inv Tryz.underlying3 h; exact ⟨x, hw, e⟩
 inj _ _ h := by injection h
 law := int_keyed Tryz.underlying3

abbrev Stt := Bool × Int × List Tmd
abbrev Tst := TK → Option Stt
def encS (s : Stt) (v : Value) : Value := .agg #[.bool s.1, .int .i64 s.2.1, v]
def noS : Stt := (false, 0, [])

theorem CKeep.tms {w w' : World} (h : CKeep w w') {v : Value} {L : List Tmd} (hs : Tms w v L) : Tms w' v L := by
 obtain ⟨ao, cap, b, off, rfl, h0, h1, h2, h3⟩ := hs
 exact ⟨ao, cap, b, off, rfl, h0, h1, h2, fun k hk => by obtain ⟨hlt, c0, c1⟩ := h3 k hk; exact ⟨Nat.lt_of_lt_of_le hlt h.1, h.cell c0, h.cell c1⟩⟩
theorem CKeep.drew (w : World) : CKeep w w.drew := ⟨Nat.le_refl _, fun _ _ _ _ h => h⟩

def HoldT (w : World) (F : Tst) (V : TK → Option Value) : Prop := ∀ k, match F k with | none => V k = none | some s => ∃ v, V k = some (encS s v) ∧ Tms w v s.2.2 ∧ (Lit.int .i64 s.2.1).wf = true
def HoldO (O : Int → Option Int) (U : Int → Option Value) : Prop := ∀ x, U x = (O x).map (Value.int .i64)

def updS (F : Tst) (k : TK) (s : Stt) : Tst := fun x => if x = k then some s else F x
def delS (F : Tst) (k : TK) : Tst := fun x => if x = k then none else F x
def oldS (F : Tst) (k : TK) : Stt := (F k).getD noS
def updO (O : Int → Option Int) (v now : Int) : Int → Option Int := fun x => if x = v then some now else O x

theorem HoldT.keep {w w' : World} {F : Tst} {V : TK → Option Value} (h : HoldT w F V) (hk : CKeep w w') : HoldT w' F V := fun k => by
 have := h k
 cases hG : F k
 · rw [hG] at this; exact this
 · rw [hG] at this
   obtain ⟨v, e, hs, hw⟩ := this
   exact ⟨v, e, hk.tms hs, hw⟩
theorem HoldT.dom {w : World} {F : Tst} {V : TK → Option Value} (h : HoldT w F V) (k : TK) : V k ≠ none ↔ F k ≠ none := by
 have := h k
 cases hG : F k
 · rw [hG] at this; simp [this]
 · rw [hG] at this; obtain ⟨v, e, _⟩ := this; simp [e]
def KeysS (F : Tst) (K : List TK) : Prop := K.Pairwise tltP ∧ ∀ x, x ∈ K ↔ F x ≠ none
theorem KeysS.nodup {F : Tst} {K : List TK} (h : KeysS F K) : K.Nodup := h.1.imp fun {a _} q e => by subst e; exact tltP.irrefl a q
theorem KeysS.unique {F : Tst} {K L : List TK} (h : KeysS F K) (h' : KeysS F L) : K = L := tlt_unique h.1 h'.1 fun x => (h.2 x).trans (h'.2 x).symm
theorem HoldT.keys {w : World} {F : Tst} {V : TK → Option Value} (h : HoldT w F V) {K : List TK} (hK : KeysS F K) : KeysV V K := ⟨hK.nodup, fun x => (hK.2 x).trans (h.dom x).symm⟩
theorem HoldT.at_ {w : World} {F : Tst} {V : TK → Option Value} (h : HoldT w F V) (k : TK) : ∃ v, (V k).getD noState = encS (oldS F k) v ∧ Tms w v (oldS F k).2.2 ∧ (V k).isSome = (F k).isSome ∧ (Lit.int .i64 (oldS F k).2.1).wf = true := by
 have := h k
 unfold oldS
 cases hG : F k
 · rw [hG] at this
   dsimp only at this
   rw [this]
   exact ⟨_, rfl, Tms.nil _, rfl, by decide⟩
 · rw [hG] at this
   obtain ⟨v, e, hs, hw⟩ := this
   rw [e]
   exact ⟨v, rfl, hs, rfl, hw⟩
theorem HoldT.del {w : World} {F : Tst} {V : TK → Option Value} (h : HoldT w F V) (k : TK) : HoldT w (delS F k) (delV V k) := fun x => by
 have := h x
 unfold delS delV
 by_cases e : x = k
 · simp [e]
 · simp only [if_neg e]; exact this
theorem HoldT.upd {w : World} {F : Tst} {V : TK → Option Value} (h : HoldT w F V) (k : TK) (s : Stt) (v : Value) (hs : Tms w v s.2.2) (hw : (Lit.int .i64 s.2.1).wf = true) : HoldT w (updS F k s) (updV V k (encS s v)) := fun x => by
 have := h x
 unfold updS updV
 by_cases e : x = k
 · simp only [if_pos e]; exact ⟨v, rfl, hs, hw⟩
 · simp only [if_neg e]; exact this
theorem HoldO.upd {O : Int → Option Int} {U : Int → Option Value} (h : HoldO O U) (v now : Int) : HoldO (updO O v now) (updV U v (.int .i64 now)) := fun x => by
 have := h x
 unfold updO updV
 by_cases e : x = v
 · simp [e]
 · simp only [if_neg e]; exact this

structure Tb (w : World) (p b o n m : Nat) (room M L : Int) (F : Tst) (O : Int → Option Int) : Prop where
 box : CBox w p 155 #[.int .i64 room, .int .i64 M, .int .i64 L, .map (some b), .map (some o)]
 states : ∃ V, VMap KT w b n V ∧ HoldT w F V
 overs : ∃ U, VMap KI w o m U ∧ HoldO O U
 ne : b ≠ o

structure MTurn (b o : Nat) (w w' : World) : Prop where
 os : w'.os = w.os
 tape : w'.tape = w.tape
 output : w'.output = w.output
 size : w.heap.size ≤ w'.heap.size
 block : ∀ k, k < w.heap.size → k ≠ b → k ≠ o → w'.heap[k]? = w.heap[k]?

theorem MTurn.of_below {b o : Nat} {w w' : World} (h : Below w.heap.size w w') : MTurn b o w w' := ⟨h.os, h.tape, h.output, h.size, fun k hk _ _ => h.block k hk⟩
theorem MTurn.refl (b o : Nat) (w : World) : MTurn b o w w := .of_below (Below.refl _ _)
theorem MTurn.trans {b o : Nat} {x y z : World} (h : MTurn b o x y) (k : MTurn b o y z) : MTurn b o x z :=
 ⟨k.os.trans h.os, k.tape.trans h.tape, k.output.trans h.output, Nat.le_trans h.size k.size, fun i hi h1 h2 => (k.block i (Nat.lt_of_lt_of_le hi h.size) h1 h2).trans (h.block i hi h1 h2)⟩
theorem MTurn.of_grown {b o : Nat} {w w' : World} {row : Option Nat} (h : w.grownBy w' row) (hr : ∀ r, row = some r → r = b ∨ r = o ∨ w.heap.size ≤ r) : MTurn b o w w' :=
 ⟨h.os, h.tape, h.output, h.size, fun k hk h1 h2 => h.block k hk fun e => by rcases hr k e.symm with q | q | q <;> omega⟩
theorem MTurn.below {b o B : Nat} {w w' : World} (h : MTurn b o w w') (hB : B ≤ w.heap.size) (hb : B ≤ b) (ho : B ≤ o) : Below B w w' :=
 ⟨h.os, h.tape, h.output, h.size, fun k hk => h.block k (by omega) (by omega) (by omega)⟩
theorem MTurn.after {b o : Nat} {x y z : World} (h : Below x.heap.size x y) (k : MTurn b o y z) : MTurn b o x z := (MTurn.of_below h).trans k

theorem VMap.map_is {P : Program} {T : TypeId} {κ : Type} {K : KeyEnc P T κ} {w : World} {b n : Nat} {F : κ → Option Value} (h : VMap K w b n F) : ∃ es c, w.heap[b]? = some (.map es c) := by
 obtain ⟨_, D, ⟨es, clock, hb, _⟩, _⟩ := h
 exact ⟨es, clock, hb⟩

section
variable {w w' : World} {p b o n m : Nat} {room M L : Int} {F : Tst} {O : Int → Option Int}
theorem Tb.lt (h : Tb w p b o n m room M L F O) : p < w.heap.size ∧ b < w.heap.size ∧ o < w.heap.size := by
 obtain ⟨_, hV, _⟩ := h.states
 obtain ⟨_, hU, _⟩ := h.overs
 exact ⟨h.box.lt, hV.lt, hU.lt⟩
theorem Tb.apart (h : Tb w p b o n m room M L F O) : p ≠ b ∧ p ≠ o ∧ b ≠ o := by
 obtain ⟨_, hV, _⟩ := h.states
 obtain ⟨_, hU, _⟩ := h.overs
 obtain ⟨es, c, e⟩ := hV.map_is
 obtain ⟨es', c', e'⟩ := hU.map_is
 have hb : w.heap[p]? = some _ := h.box
 refine ⟨fun q => ?_, fun q => ?_, h.ne⟩
 · rw [q, e] at hb; cases hb
 · rw [q, e'] at hb; cases hb
theorem Tb.ckeep (h : Tb w p b o n m room M L F O) (ht : MTurn b o w w') : CKeep w w' := by
 obtain ⟨_, hV, _⟩ := h.states
 obtain ⟨_, hU, _⟩ := h.overs
 obtain ⟨es, c, e⟩ := hV.map_is
 obtain ⟨es', c', e'⟩ := hU.map_is
 refine ⟨ht.size, fun j cs T fr ej => (ht.block j (Array.getElem?_eq_some_iff.1 ej).1 (fun q => ?_) (fun q => ?_)).trans ej⟩
 · rw [q, e] at ej; cases ej
 · rw [q, e'] at ej; cases ej
theorem Tb.mono (h : Tb w p b o n m room M L F O) (hb : Below w.heap.size w w') : Tb w' p b o n m room M L F O := by
 obtain ⟨V, hV, hH⟩ := h.states
 obtain ⟨U, hU, hO⟩ := h.overs
 exact ⟨h.box.below hb h.box.lt, ⟨V, hV.below hb hV.lt, hH.keep (CKeep.of_below hb)⟩, ⟨U, hU.below hb hU.lt, hO⟩, h.ne⟩
theorem Tb.up {n' m' : Nat} (h : Tb w p b o n m room M L F O) (hn : n ≤ n') (hm : m ≤ m') : Tb w p b o n' m' room M L F O := by
 obtain ⟨V, hV, hH⟩ := h.states
 obtain ⟨U, hU, hO⟩ := h.overs
 exact ⟨h.box, ⟨V, hV.up hn, hH⟩, ⟨U, hU.up hm, hO⟩, h.ne⟩
theorem Tb.turned {V' : TK → Option Value} {F' : Tst} {n' : Nat} (h : Tb w p b o n m room M L F O) (ht : w.grownBy w' (some b)) (hV : VMap KT w' b n' V') (hH : HoldT w F' V') : Tb w' p b o n' m room M L F' O := by
 obtain ⟨U, hU, hO⟩ := h.overs
 obtain ⟨h1, h2, h3⟩ := h.apart
 exact ⟨h.box.grown ht (fun e => h1 (by injection e)), ⟨V', hV, hH.keep (h.ckeep (.of_grown ht fun r e => by injection e with e; exact .inl e.symm))⟩, ⟨U, hU.kept ht (fun e => h3 (by injection e with e; exact e.symm)), hO⟩, h.ne⟩
theorem Tb.keys (h : Tb w p b o n m room M L F O) : ∃ K, KeysS F K ∧ K.length ≤ n ∧ (∀ x ∈ K, okT x) ∧ ∀ ty, (Builtin.len_ #[152] ty #[.map (some b)]).run Tryz.prog w = .ok (.int .i64 K.length) w := by
 obtain ⟨V, hV, hH⟩ := h.states
 obtain ⟨K, hK, hn, hl⟩ := hV.count Tryz.underlying152
 have hp := List.mergeSort_perm K (fun x y => !ltOf cmpT y x)
 have hs : (K.mergeSort fun x y => !ltOf cmpT y x).Pairwise fun x y => (!ltOf cmpT y x) = true := by
  refine List.pairwise_mergeSort (fun a b c h1 h2 => ?_) (fun a b => ?_) K
  · have e1 : ¬ tltP b a := fun q => by have := (ltOf_cmpT b a).2 q; simp [this] at h1
    have e2 : ¬ tltP c b := fun q => by have := (ltOf_cmpT c b).2 q; simp [this] at h2
    have e3 : ¬ tltP c a := fun q => by
     rcases tltP.or a b with r | r | r
     · exact e2 (tltP.trans q r)
     · subst r; exact e2 q
     · exact e1 r
    cases hx : ltOf cmpT c a
    · rfl
    · exact absurd ((ltOf_cmpT c a).1 hx) e3
  · cases hx : ltOf cmpT b a
    · simp
    · cases hy : ltOf cmpT a b
      · simp
      · exact absurd (tltP.trans ((ltOf_cmpT _ _).1 hx) ((ltOf_cmpT _ _).1 hy)) (tltP.irrefl _)
 have hnd := hp.nodup_iff.2 hK.1
 refine ⟨K.mergeSort fun x y => !ltOf cmpT y x, ⟨?_, fun x => by rw [hp.mem_iff, hK.2 x]; exact hH.dom x⟩, by rw [hp.length_eq]; exact hn, fun x hx => hV.1 x ((hK.2 x).1 (hp.mem_iff.1 hx)), fun ty => by rw [hp.length_eq]; exact hl ty⟩
 refine (List.Pairwise.and hs hnd).imp fun {a b} q => ?_
 rcases tltP.or a b with r | r | r
 · exact r
 · exact absurd r q.2
 · have := (ltOf_cmpT b a).2 r
   simp [this] at q
end

def pexp (s : Stt) (now : Int) : Stt × Bool :=
 if pcheck s.1 s.2.1 s.2.2 then ((s.1 && decide (now < s.2.1), if (s.1 && decide (now < s.2.1)) then s.2.1 else 0, exL (s.1 && decide (now < s.2.1)) now s.2.2), (s.1 && decide (now < s.2.1)) || !(exL (s.1 && decide (now < s.2.1)) now s.2.2).isEmpty) else (noS, false)

theorem pexp_wf (s : Stt) (now : Int) (h : (Lit.int .i64 s.2.1).wf = true) : (Lit.int .i64 (pexp s now).1.2.1).wf = true := by
 unfold pexp
 split
 · dsimp only
   split
   · exact h
   · decide
 · decide

def RetPexp (w : World) (t : Stt × Bool) (e : Ending) (w' : World) : Prop :=
 ∃ v, e = .returned (.tuple #[encS t.1 v, .bool t.2]) ∧ Tms w' v t.1.2.2 ∧ Below w.heap.size w w'
theorem RetExp.plain {w : World} {s : Stt} {now : Int} {e : Ending} {w' : World} (h : RetExp w s.1 s.2.1 s.2.2 now (s.1 && decide (now < s.2.1)) e w') : RetPexp w (pexp s now) e w' := by
 rcases h with ⟨hf, rfl, hb⟩ | ⟨hp, v, L', rfl, hT, hA, _, _, hb⟩
 · unfold pexp
   rw [if_neg (by rw [hf]; simp)]
   exact ⟨_, rfl, Tms.nil _, hb⟩
 · have : L' = exL (s.1 && decide (now < s.2.1)) now s.2.2 := asc_unique hA (asc_ex _ now (pcheck_asc hp))
   subst this
   unfold pexp
   rw [if_pos hp]
   exact ⟨v, rfl, hT, hb⟩
theorem expire_st (s : Stt) (v : Value) (now : Int) (w : World) (h : Tms w v s.2.2) : Calls Tryz.prog 130 #[encS s v, .int .i64 now] w (RetPexp w (pexp s now)) :=
 (expire_any s.1 s.2.1 v s.2.2 now w h).mono fun _ _ h => h.plain
open Classical in
noncomputable def ascOf (F : Str → Option Int) : List Tmd := if h : ∃ L, Asc F L then h.choose else []
theorem ascOf_eq {F : Str → Option Int} {L : List Tmd} (h : Asc F L) : ascOf F = L := by
 have hx : ∃ L, Asc F L := ⟨L, h⟩
 unfold ascOf
 rw [dif_pos hx]
 exact asc_unique hx.choose_spec h
open Classical in
noncomputable def riseOf (q : Str → Bool) : List Str := if h : ∃ R, Rises q R then h.choose else []
theorem riseOf_eq {q : Str → Bool} {R : List Str} (h : Rises q R) : riseOf q = R := by
 have hx : ∃ R, Rises q R := ⟨R, h⟩
 unfold riseOf
 rw [dif_pos hx]
 exact rises_unique hx.choose_spec h

noncomputable def papp (s : Stt) (kind : Int) (S : List Str) (n : Nat) (now mem last : Int) : Int × Option Stt × (Bool × List Str) :=
 if verdict (pcheck s.1 s.2.1 s.2.2) kind n now mem last ≠ 0 then (verdict (pcheck s.1 s.2.1 s.2.2) kind n now mem last, none, (false, []))
 else if 60 < (ascOf (inF kind s.1 s.2.1 (rd s.2.2) S (now + mem))).length then (1, none, (false, []))
 else if inEx kind s.1 = false ∧ ascOf (inF kind s.1 s.2.1 (rd s.2.2) S (now + mem)) = [] then (0, none, (false, []))
 else (0, some (inEx kind s.1, if inG kind s.1 then min (inAt kind s.2.1 (now + mem)) (now + last) else inAt kind s.2.1 (now + mem),
  ascOf (soonF (inF kind s.1 s.2.1 (rd s.2.2) S (now + mem)) (riseOf (inQ kind s.1 s.2.1 (rd s.2.2) S (now + mem))) (now + last))),
  (inG kind s.1, riseOf (inQ kind s.1 s.2.1 (rd s.2.2) S (now + mem))))

def RetPapp (w : World) (t : Int × Option Stt × (Bool × List Str)) (e : Ending) (w' : World) : Prop :=
 ∃ v u, e = .returned (.tuple #[encS (t.2.1.getD noS) v, .bool t.2.1.isSome, .agg #[.bool t.2.2.1, u], .int .i64 t.1]) ∧ Tms w' v (t.2.1.getD noS).2.2 ∧ Strs w' u t.2.2.2 ∧ Below w.heap.size w w' ∧
   ∀ q, t.2.1 = some q → pcheck q.1 q.2.1 q.2.2 = true ∧ (Lit.int .i64 q.2.1).wf = true

theorem RetApp.plain {w : World} {s : Stt} {kind : Int} {S : List Str} {n : Nat} {now mem last : Int} {e : Ending} {w' : World} (hw : (Lit.int .i64 s.2.1).wf = true) (h : RetApp w s.1 s.2.1 s.2.2 kind S n now mem last e w') : RetPapp w (papp s kind S n now mem last) e w' := by
 obtain ⟨hb, h⟩ := h
 rcases h with ⟨hv, rfl⟩ | ⟨hv, K, hK, h⟩
 · unfold papp
   rw [if_pos hv]
   exact ⟨_, _, rfl, Tms.nil _, Strs.nil _, hb, fun q hq => by cases hq⟩
 · have ha := ascOf_eq (asc_with hK)
   have hl : (withF (inF kind s.1 s.2.1 (rd s.2.2) S (now + mem)) K).length = K.length := by unfold withF; rw [List.length_map]
   have hn : withF (inF kind s.1 s.2.1 (rd s.2.2) S (now + mem)) K = [] ↔ K = [] := by rw [← List.length_eq_zero_iff, hl, List.length_eq_zero_iff]
   unfold papp
   rw [if_neg (by rw [hv]; simp), ha, hl]
   rcases h with ⟨h1, rfl⟩ | ⟨h1, h2, rfl⟩ | ⟨h1, h2, v, L', u, R, rfl, hT, hU, hR, hA, _, _⟩
   · rw [if_pos h1]
     exact ⟨_, _, rfl, Tms.nil _, Strs.nil _, hb, fun q hq => by cases hq⟩
   · rw [if_neg (by omega), if_pos ⟨h2.1, hn.2 h2.2⟩]
     exact ⟨_, _, rfl, Tms.nil _, Strs.nil _, hb, fun q hq => by cases hq⟩
   · rw [if_neg (by omega), if_neg (fun h => h2 ⟨h.1, hn.1 h.2⟩), riseOf_eq hR, ascOf_eq hA]
     refine ⟨v, u, rfl, hT, hU, hb, fun q hq => ?_⟩
     injection hq with hq
     subst hq
     refine ⟨app_check hv hK h1 hA, ?_⟩
     obtain ⟨_, v1, v2, v3, v4, v5, v6, _⟩ := verdict_ok hv
     simp only [Lit.wf, IntKind.min, IntKind.max, IntKind.bits, IntKind.signed] at hw ⊢
     unfold inAt
     simp at hw ⊢
     split <;> split <;> omega

end Go.Proofs.YthcdppppppgckaaGreatDoor

namespace Go.Proofs.YthcdppppppgckaaGreatDoor
open Go.RowKit Go.Lib Go.Maps Go.Sort Go.Shelf
set_option maxRecDepth 20000
attribute [local go_sem] Oper.semAt_some

theorem RoundIn.any {m m' : Nat} {P : Program} {l : Nat} {f : FuncId} {tmps : Array Value} {assign body : Code} {w : World} {R : Ending → World → Prop}
 (h : RoundIn Fence.wide m P l f tmps assign body w R) : RoundIn Fence.wide m' P l f tmps assign body w R := ⟨h.1, fun c cs _ => h.2 c cs (fun d hd => by cases hd)⟩
theorem YieldAt.any {m : Nat} (m' : Nat) {P : Program} {l : Nat} {args : Array Value} {W : World} {R : Ending → World → Prop} (h : YieldAt Fence.wide m P l args W R) : YieldAt Fence.wide m' P l args W R := by
 obtain ⟨fn, tmps, assign, body, hy, hR⟩ := h
 exact ⟨fn, tmps, assign, body, hy, RoundIn.any hR⟩

end Go.Proofs.YthcdppppppgckaaGreatDoor
