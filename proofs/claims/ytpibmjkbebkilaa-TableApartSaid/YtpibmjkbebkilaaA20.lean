/- Texts joined into one file: TTab, TExp, TOf. -/
import Derived.Test.YtpibmjkbebkilaaA19
import Derived.Test.YtpibmjkbebkilaaA10
import Derived.Test.YtpibmjkbebkilaaA14
import Derived.Test.YtpibmjkbebkilaaA15
import Derived.Test.YtpibmjkbebkilaaA07

/- A table in memory. -/
namespace Go.Proofs.Ytpibmjkbebkilaa
open Go.RowKit Go.Lib Go.Maps Go.Sort
set_option maxRecDepth 20000

/-- an int as a key -/
def KI : KeyEnc Try.prog 3 Int where
  enc := Value.int .i64
  ok x := (Lit.int .i64 x).wf = true
  lit := Lit.int .i64
  reads _ h := keyOf_int_mk Try.underlying3 h
  all _ _ h := by obtain ⟨x, e, _, hw⟩ := Maps.keyOf_int_inv Try.underlying3 h; exact ⟨x, hw, e⟩
  inj _ _ h := by injection h
  law := int_keyed Try.underlying3

/-- a state: Except, At, its sources -/
abbrev Stt := Bool × Int × List Tmd
/-- the state that a table has at each key -/
abbrev Tst := TK → Option Stt
def encS (s : Stt) (v : Value) : Value := .agg #[.bool s.1, .int .i64 s.2.1, v]
def noS : Stt := (false, 0, [])

theorem CKeep.tms {w w' : World} (h : CKeep w w') {v : Value} {L : List Tmd} (hs : Tms w v L) : Tms w' v L := by
  obtain ⟨ao, cap, b, off, rfl, h0, h1, h2, h3⟩ := hs
  exact ⟨ao, cap, b, off, rfl, h0, h1, h2, fun k hk => by obtain ⟨hlt, c0, c1⟩ := h3 k hk; exact ⟨Nat.lt_of_lt_of_le hlt h.1, h.cell c0, h.cell c1⟩⟩
theorem CKeep.kts {w w' : World} (h : CKeep w w') {v : Value} {K : List TK} (hs : Kts w v K) : Kts w' v K := hs.keep h
theorem CKeep.drew (w : World) : CKeep w w.drew := ⟨Nat.le_refl _, fun _ _ _ _ h => h⟩

/-- what the map of the states holds -/
def HoldT (w : World) (F : Tst) (V : TK → Option Value) : Prop := ∀ k, match F k with | none => V k = none | some s => ∃ v, V k = some (encS s v) ∧ Tms w v s.2.2 ∧ (Lit.int .i64 s.2.1).wf = true
/-- what the map of the VLANs that are over holds -/
def HoldO (O : Int → Option Int) (U : Int → Option Value) : Prop := ∀ x, U x = (O x).map (Value.int .i64)

def updS (F : Tst) (k : TK) (s : Stt) : Tst := fun x => if x = k then some s else F x
def delS (F : Tst) (k : TK) : Tst := fun x => if x = k then none else F x
def oldS (F : Tst) (k : TK) : Stt := (F k).getD noS
def updO (O : Int → Option Int) (v now : Int) : Int → Option Int := fun x => if x = v then some now else O x

theorem HoldT.keep {w w' : World} {F : Tst} {V : TK → Option Value} (h : HoldT w F V) (hk : CKeep w w') : HoldT w' F V := fun k => by
  have := h k
  cases hG : F k
  · rw [hG] at this; exact this
  · rw [hG] at this
    obtain ⟨v, e, hs, hw⟩ := this
    exact ⟨v, e, hk.tms hs, hw⟩
theorem HoldT.dom {w : World} {F : Tst} {V : TK → Option Value} (h : HoldT w F V) (k : TK) : V k ≠ none ↔ F k ≠ none := by
  have := h k
  cases hG : F k
  · rw [hG] at this; simp [this]
  · rw [hG] at this; obtain ⟨v, e, _⟩ := this; simp [e]
/-- the keys of a table: each once, in their order -/
def KeysS (F : Tst) (K : List TK) : Prop := K.Pairwise tltP ∧ ∀ x, x ∈ K ↔ F x ≠ none
theorem KeysS.nodup {F : Tst} {K : List TK} (h : KeysS F K) : K.Nodup := h.1.imp fun {a _} q e => by subst e; exact tltP.irrefl a q
theorem KeysS.unique {F : Tst} {K L : List TK} (h : KeysS F K) (h' : KeysS F L) : K = L := tlt_unique h.1 h'.1 fun x => (h.2 x).trans (h'.2 x).symm
theorem HoldT.keys {w : World} {F : Tst} {V : TK → Option Value} (h : HoldT w F V) {K : List TK} (hK : KeysS F K) : KeysV V K := ⟨hK.nodup, fun x => (hK.2 x).trans (h.dom x).symm⟩
theorem HoldT.at_ {w : World} {F : Tst} {V : TK → Option Value} (h : HoldT w F V) (k : TK) : ∃ v, (V k).getD noState = encS (oldS F k) v ∧ Tms w v (oldS F k).2.2 ∧ (V k).isSome = (F k).isSome ∧ (Lit.int .i64 (oldS F k).2.1).wf = true := by
  have := h k
  unfold oldS
  cases hG : F k
  · rw [hG] at this
    dsimp only at this
    rw [this]
    exact ⟨_, rfl, Tms.nil _, rfl, by decide⟩
  · rw [hG] at this
    obtain ⟨v, e, hs, hw⟩ := this
    rw [e]
    exact ⟨v, rfl, hs, rfl, hw⟩
theorem HoldT.del {w : World} {F : Tst} {V : TK → Option Value} (h : HoldT w F V) (k : TK) : HoldT w (delS F k) (delV V k) := fun x => by
  have := h x
  unfold delS delV
  by_cases e : x = k
  · simp [e]
  · simp only [if_neg e]; exact this
theorem HoldT.upd {w : World} {F : Tst} {V : TK → Option Value} (h : HoldT w F V) (k : TK) (s : Stt) (v : Value) (hs : Tms w v s.2.2) (hw : (Lit.int .i64 s.2.1).wf = true) : HoldT w (updS F k s) (updV V k (encS s v)) := fun x => by
  have := h x
  unfold updS updV
  by_cases e : x = k
  · simp only [if_pos e]; exact ⟨v, rfl, hs, hw⟩
  · simp only [if_neg e]; exact this
theorem HoldO.upd {O : Int → Option Int} {U : Int → Option Value} (h : HoldO O U) (v now : Int) : HoldO (updO O v now) (updV U v (.int .i64 now)) := fun x => by
  have := h x
  unfold updO updV
  by_cases e : x = v
  · simp [e]
  · simp only [if_neg e]; exact this

/-- a table in memory: block p; the map of its states is block b, of at most n entries, that of the VLANs which are over is block o, of at most m -/
structure Tb (w : World) (p b o n m : Nat) (room M L : Int) (F : Tst) (O : Int → Option Int) : Prop where
  box : CBox w p 68 #[.int .i64 room, .int .i64 M, .int .i64 L, .map (some b), .map (some o)]
  states : ∃ V, VMap KT w b n V ∧ HoldT w F V
  overs : ∃ U, VMap KI w o m U ∧ HoldO O U
  ne : b ≠ o

/-- only the blocks b and o have turned -/
structure MTurn (b o : Nat) (w w' : World) : Prop where
  os : w'.os = w.os
  tape : w'.tape = w.tape
  output : w'.output = w.output
  size : w.heap.size ≤ w'.heap.size
  block : ∀ k, k < w.heap.size → k ≠ b → k ≠ o → w'.heap[k]? = w.heap[k]?

theorem MTurn.of_below {b o : Nat} {w w' : World} (h : Below w.heap.size w w') : MTurn b o w w' := ⟨h.os, h.tape, h.output, h.size, fun k hk _ _ => h.block k hk⟩
theorem MTurn.refl (b o : Nat) (w : World) : MTurn b o w w := .of_below (Below.refl _ _)
theorem MTurn.trans {b o : Nat} {x y z : World} (h : MTurn b o x y) (k : MTurn b o y z) : MTurn b o x z :=
  ⟨k.os.trans h.os, k.tape.trans h.tape, k.output.trans h.output, Nat.le_trans h.size k.size, fun i hi h1 h2 => (k.block i (Nat.lt_of_lt_of_le hi h.size) h1 h2).trans (h.block i hi h1 h2)⟩
theorem MTurn.of_grown {b o : Nat} {w w' : World} {row : Option Nat} (h : w.grownBy w' row) (hr : ∀ r, row = some r → r = b ∨ r = o ∨ w.heap.size ≤ r) : MTurn b o w w' :=
  ⟨h.os, h.tape, h.output, h.size, fun k hk h1 h2 => h.block k hk fun e => by rcases hr k e.symm with q | q | q <;> omega⟩
theorem MTurn.below {b o B : Nat} {w w' : World} (h : MTurn b o w w') (hB : B ≤ w.heap.size) (hb : B ≤ b) (ho : B ≤ o) : Below B w w' :=
  ⟨h.os, h.tape, h.output, h.size, fun k hk => h.block k (by omega) (by omega) (by omega)⟩
theorem MTurn.after {b o : Nat} {x y z : World} (h : Below x.heap.size x y) (k : MTurn b o y z) : MTurn b o x z := (MTurn.of_below h).trans k

theorem VMap.map_is {P : Program} {T : TypeId} {κ : Type} {K : KeyEnc P T κ} {w : World} {b n : Nat} {F : κ → Option Value} (h : VMap K w b n F) : ∃ es c, w.heap[b]? = some (.map es c) := by
  obtain ⟨_, D, ⟨es, clock, hb, _⟩, _⟩ := h
  exact ⟨es, clock, hb⟩

section
variable {w w' : World} {p b o n m : Nat} {room M L : Int} {F : Tst} {O : Int → Option Int}
theorem Tb.lt (h : Tb w p b o n m room M L F O) : p < w.heap.size ∧ b < w.heap.size ∧ o < w.heap.size := by
  obtain ⟨_, hV, _⟩ := h.states
  obtain ⟨_, hU, _⟩ := h.overs
  exact ⟨h.box.lt, hV.lt, hU.lt⟩
theorem Tb.apart (h : Tb w p b o n m room M L F O) : p ≠ b ∧ p ≠ o ∧ b ≠ o := by
  obtain ⟨_, hV, _⟩ := h.states
  obtain ⟨_, hU, _⟩ := h.overs
  obtain ⟨es, c, e⟩ := hV.map_is
  obtain ⟨es', c', e'⟩ := hU.map_is
  have hb : w.heap[p]? = some _ := h.box
  refine ⟨fun q => ?_, fun q => ?_, h.ne⟩
  · rw [q, e] at hb; cases hb
  · rw [q, e'] at hb; cases hb
theorem Tb.ckeep (h : Tb w p b o n m room M L F O) (ht : MTurn b o w w') : CKeep w w' := by
  obtain ⟨_, hV, _⟩ := h.states
  obtain ⟨_, hU, _⟩ := h.overs
  obtain ⟨es, c, e⟩ := hV.map_is
  obtain ⟨es', c', e'⟩ := hU.map_is
  refine ⟨ht.size, fun j cs T fr ej => (ht.block j (Array.getElem?_eq_some_iff.1 ej).1 (fun q => ?_) (fun q => ?_)).trans ej⟩
  · rw [q, e] at ej; cases ej
  · rw [q, e'] at ej; cases ej
theorem Tb.mono (h : Tb w p b o n m room M L F O) (hb : Below w.heap.size w w') : Tb w' p b o n m room M L F O := by
  obtain ⟨V, hV, hH⟩ := h.states
  obtain ⟨U, hU, hO⟩ := h.overs
  exact ⟨h.box.below hb h.box.lt, ⟨V, hV.below hb hV.lt, hH.keep (CKeep.of_below hb)⟩, ⟨U, hU.below hb hU.lt, hO⟩, h.ne⟩
theorem Tb.up {n' m' : Nat} (h : Tb w p b o n m room M L F O) (hn : n ≤ n') (hm : m ≤ m') : Tb w p b o n' m' room M L F O := by
  obtain ⟨V, hV, hH⟩ := h.states
  obtain ⟨U, hU, hO⟩ := h.overs
  exact ⟨h.box, ⟨V, hV.up hn, hH⟩, ⟨U, hU.up hm, hO⟩, h.ne⟩
/-- the map of the states has turned -/
theorem Tb.turned {V' : TK → Option Value} {F' : Tst} {n' : Nat} (h : Tb w p b o n m room M L F O) (ht : w.grownBy w' (some b)) (hV : VMap KT w' b n' V') (hH : HoldT w F' V') : Tb w' p b o n' m room M L F' O := by
  obtain ⟨U, hU, hO⟩ := h.overs
  obtain ⟨h1, h2, h3⟩ := h.apart
  exact ⟨h.box.grown ht (fun e => h1 (by injection e)), ⟨V', hV, hH.keep (h.ckeep (.of_grown ht fun r e => by injection e with e; exact .inl e.symm))⟩, ⟨U, hU.kept ht (fun e => h3 (by injection e with e; exact e.symm)), hO⟩, h.ne⟩
/-- the map of the VLANs that are over has turned -/
theorem Tb.turnedO {U' : Int → Option Value} {O' : Int → Option Int} {m' : Nat} (h : Tb w p b o n m room M L F O) (ht : w.grownBy w' (some o)) (hU : VMap KI w' o m' U') (hO : HoldO O' U') : Tb w' p b o n m' room M L F O' := by
  obtain ⟨V, hV, hH⟩ := h.states
  obtain ⟨h1, h2, h3⟩ := h.apart
  exact ⟨h.box.grown ht (fun e => h2 (by injection e)), ⟨V, hV.kept ht (fun e => h3 (by injection e)), hH.keep (h.ckeep (.of_grown ht fun r e => by injection e with e; exact .inr (.inl e.symm)))⟩, ⟨U', hU, hO⟩, h.ne⟩
/-- the keys of a table, in their order -/
theorem Tb.keys (h : Tb w p b o n m room M L F O) : ∃ K, KeysS F K ∧ K.length ≤ n ∧ (∀ x ∈ K, okT x) ∧ ∀ ty, (Builtin.len_ #[65] ty #[.map (some b)]).run Try.prog w = .ok (.int .i64 K.length) w := by
  obtain ⟨V, hV, hH⟩ := h.states
  obtain ⟨K, hK, hn, hl⟩ := hV.count Try.underlying65
  have hp := List.mergeSort_perm K (fun x y => !ltOf cmpT y x)
  have hs : (K.mergeSort fun x y => !ltOf cmpT y x).Pairwise fun x y => (!ltOf cmpT y x) = true := by
    refine List.pairwise_mergeSort (fun a b c h1 h2 => ?_) (fun a b => ?_) K
    · have e1 : ¬ tltP b a := fun q => by have := (ltOf_cmpT b a).2 q; simp [this] at h1
      have e2 : ¬ tltP c b := fun q => by have := (ltOf_cmpT c b).2 q; simp [this] at h2
      have e3 : ¬ tltP c a := fun q => by
        rcases tltP.or a b with r | r | r
        · exact e2 (tltP.trans q r)
        · subst r; exact e2 q
        · exact e1 r
      cases hx : ltOf cmpT c a
      · rfl
      · exact absurd ((ltOf_cmpT c a).1 hx) e3
    · cases hx : ltOf cmpT b a
      · simp
      · cases hy : ltOf cmpT a b
        · simp
        · exact absurd (tltP.trans ((ltOf_cmpT _ _).1 hx) ((ltOf_cmpT _ _).1 hy)) (tltP.irrefl _)
  have hnd := hp.nodup_iff.2 hK.1
  refine ⟨K.mergeSort fun x y => !ltOf cmpT y x, ⟨?_, fun x => by rw [hp.mem_iff, hK.2 x]; exact hH.dom x⟩, by rw [hp.length_eq]; exact hn, fun x hx => hV.1 x ((hK.2 x).1 (hp.mem_iff.1 hx)), fun ty => by rw [hp.length_eq]; exact hl ty⟩
  refine (List.Pairwise.and hs hnd).imp fun {a b} q => ?_
  rcases tltP.or a b with r | r | r
  · exact r
  · exact absurd r q.2
  · have := (ltOf_cmpT b a).2 r
    simp [this] at q
end
end Go.Proofs.Ytpibmjkbebkilaa

/- What Expire and Apply make of a state, as plain functions. -/
namespace Go.Proofs.Ytpibmjkbebkilaa
open Go.RowKit Go.Lib Go.Maps Go.Sort
set_option maxRecDepth 20000

/-- a state by a time, and whether it still is one -/
def pexp (s : Stt) (now : Int) : Stt × Bool :=
  if pcheck s.1 s.2.1 s.2.2 then ((s.1 && decide (now < s.2.1), if (s.1 && decide (now < s.2.1)) then s.2.1 else 0, exL (s.1 && decide (now < s.2.1)) now s.2.2), (s.1 && decide (now < s.2.1)) || !(exL (s.1 && decide (now < s.2.1)) now s.2.2).isEmpty) else (noS, false)

theorem pexp_none (s : Stt) (now : Int) (h : (pexp s now).2 = false) : (pexp s now).1 = noS := by
  unfold pexp at h ⊢
  split
  · rename_i hc
    rw [if_pos hc] at h
    dsimp only at h ⊢
    obtain ⟨h1, h2⟩ := Bool.or_eq_false_iff.1 h
    rw [h1] at h2 ⊢
    have : exL false now s.2.2 = [] := by
      cases he : exL false now s.2.2
      · rfl
      · rw [he] at h2; simp at h2
    rw [this]
    rfl
  · rfl
theorem pexp_noS (now : Int) : pexp noS now = (noS, false) := rfl
theorem pexp_check (s : Stt) (now : Int) (h : (pexp s now).2 = true) : pcheck (pexp s now).1.1 (pexp s now).1.2.1 (pexp s now).1.2.2 = true := by
  unfold pexp at h ⊢
  split
  · rename_i hc
    exact exp_check hc (asc_ex _ now (pcheck_asc hc)) (exL_len _ _ _)
  · rename_i hc
    rw [if_neg hc] at h
    cases h
theorem pexp_len (s : Stt) (now : Int) : (pexp s now).1.2.2.length ≤ s.2.2.length := by
  unfold pexp
  split
  · exact exL_len _ _ _
  · simp [noS]
theorem pexp_wf (s : Stt) (now : Int) (h : (Lit.int .i64 s.2.1).wf = true) : (Lit.int .i64 (pexp s now).1.2.1).wf = true := by
  unfold pexp
  split
  · dsimp only
    split
    · exact h
    · decide
  · decide

/-- a call that hands back a state by a time -/
def RetPexp (w : World) (t : Stt × Bool) (e : Ending) (w' : World) : Prop :=
  ∃ v, e = .returned (.tuple #[encS t.1 v, .bool t.2]) ∧ Tms w' v t.1.2.2 ∧ Below w.heap.size w w'
theorem RetExp.plain {w : World} {s : Stt} {now : Int} {e : Ending} {w' : World} (h : RetExp w s.1 s.2.1 s.2.2 now (s.1 && decide (now < s.2.1)) e w') : RetPexp w (pexp s now) e w' := by
  rcases h with ⟨hf, rfl, hb⟩ | ⟨hp, v, L', rfl, hT, hA, _, _, hb⟩
  · unfold pexp
    rw [if_neg (by rw [hf]; simp)]
    exact ⟨_, rfl, Tms.nil _, hb⟩
  · have : L' = exL (s.1 && decide (now < s.2.1)) now s.2.2 := asc_unique hA (asc_ex _ now (pcheck_asc hp))
    subst this
    unfold pexp
    rw [if_pos hp]
    exact ⟨v, rfl, hT, hb⟩
theorem expire_st (s : Stt) (v : Value) (now : Int) (w : World) (h : Tms w v s.2.2) : Calls Try.prog 24 #[encS s v, .int .i64 now] w (RetPexp w (pexp s now)) :=
  (expire_any s.1 s.2.1 v s.2.2 now w h).mono fun _ _ h => h.plain
open Classical in
/-- the list of what F tells -/
noncomputable def ascOf (F : Str → Option Int) : List Tmd := if h : ∃ L, Asc F L then h.choose else []
theorem ascOf_eq {F : Str → Option Int} {L : List Tmd} (h : Asc F L) : ascOf F = L := by
  have hx : ∃ L, Asc F L := ⟨L, h⟩
  unfold ascOf
  rw [dif_pos hx]
  exact asc_unique hx.choose_spec h
open Classical in
/-- the rising list of those of which something holds -/
noncomputable def riseOf (q : Str → Bool) : List Str := if h : ∃ R, Rises q R then h.choose else []
theorem riseOf_eq {q : Str → Bool} {R : List Str} (h : Rises q R) : riseOf q = R := by
  have hx : ∃ R, Rises q R := ⟨R, h⟩
  unfold riseOf
  rw [dif_pos hx]
  exact rises_unique hx.choose_spec h

/-- what becomes of a state by a record: the error, the state, what is asked -/
noncomputable def papp (s : Stt) (kind : Int) (S : List Str) (n : Nat) (now mem last : Int) : Int × Option Stt × (Bool × List Str) :=
  if verdict (pcheck s.1 s.2.1 s.2.2) kind n now mem last ≠ 0 then (verdict (pcheck s.1 s.2.1 s.2.2) kind n now mem last, none, (false, []))
  else if 60 < (ascOf (inF kind s.1 s.2.1 (rd s.2.2) S (now + mem))).length then (1, none, (false, []))
  else if inEx kind s.1 = false ∧ ascOf (inF kind s.1 s.2.1 (rd s.2.2) S (now + mem)) = [] then (0, none, (false, []))
  else (0, some (inEx kind s.1, if inG kind s.1 then min (inAt kind s.2.1 (now + mem)) (now + last) else inAt kind s.2.1 (now + mem),
      ascOf (soonF (inF kind s.1 s.2.1 (rd s.2.2) S (now + mem)) (riseOf (inQ kind s.1 s.2.1 (rd s.2.2) S (now + mem))) (now + last))),
    (inG kind s.1, riseOf (inQ kind s.1 s.2.1 (rd s.2.2) S (now + mem))))

/-- a call that hands back what becomes of a state -/
def RetPapp (w : World) (t : Int × Option Stt × (Bool × List Str)) (e : Ending) (w' : World) : Prop :=
  ∃ v u, e = .returned (.tuple #[encS (t.2.1.getD noS) v, .bool t.2.1.isSome, .agg #[.bool t.2.2.1, u], .int .i64 t.1]) ∧ Tms w' v (t.2.1.getD noS).2.2 ∧ Strs w' u t.2.2.2 ∧ Below w.heap.size w w' ∧
    ∀ q, t.2.1 = some q → pcheck q.1 q.2.1 q.2.2 = true ∧ (Lit.int .i64 q.2.1).wf = true

theorem RetApp.plain {w : World} {s : Stt} {kind : Int} {S : List Str} {n : Nat} {now mem last : Int} {e : Ending} {w' : World} (hw : (Lit.int .i64 s.2.1).wf = true) (h : RetApp w s.1 s.2.1 s.2.2 kind S n now mem last e w') : RetPapp w (papp s kind S n now mem last) e w' := by
  obtain ⟨hb, h⟩ := h
  rcases h with ⟨hv, rfl⟩ | ⟨hv, K, hK, h⟩
  · unfold papp
    rw [if_pos hv]
    exact ⟨_, _, rfl, Tms.nil _, Strs.nil _, hb, fun q hq => by cases hq⟩
  · have ha := ascOf_eq (asc_with hK)
    have hl : (withF (inF kind s.1 s.2.1 (rd s.2.2) S (now + mem)) K).length = K.length := by unfold withF; rw [List.length_map]
    have hn : withF (inF kind s.1 s.2.1 (rd s.2.2) S (now + mem)) K = [] ↔ K = [] := by rw [← List.length_eq_zero_iff, hl, List.length_eq_zero_iff]
    unfold papp
    rw [if_neg (by rw [hv]; simp), ha, hl]
    rcases h with ⟨h1, rfl⟩ | ⟨h1, h2, rfl⟩ | ⟨h1, h2, v, L', u, R, rfl, hT, hU, hR, hA, _, _⟩
    · rw [if_pos h1]
      exact ⟨_, _, rfl, Tms.nil _, Strs.nil _, hb, fun q hq => by cases hq⟩
    · rw [if_neg (by omega), if_pos ⟨h2.1, hn.2 h2.2⟩]
      exact ⟨_, _, rfl, Tms.nil _, Strs.nil _, hb, fun q hq => by cases hq⟩
    · rw [if_neg (by omega), if_neg (fun h => h2 ⟨h.1, hn.1 h.2⟩), riseOf_eq hR, ascOf_eq hA]
      refine ⟨v, u, rfl, hT, hU, hb, fun q hq => ?_⟩
      injection hq with hq
      subst hq
      refine ⟨app_check hv hK h1 hA, ?_⟩
      obtain ⟨_, v1, v2, v3, v4, v5, v6, _⟩ := verdict_ok hv
      simp only [Lit.wf, IntKind.min, IntKind.max, IntKind.bits, IntKind.signed] at hw ⊢
      unfold inAt
      simp at hw ⊢
      split <;> split <;> omega

theorem apply_st (s : Stt) (v : Value) (is : Bool) (kind : Int) (g : ByteArray) (rv : Value) (C : List Str) (now mem last : Int) (w : World) (h : Tms w v s.2.2) (hr : Strs w rv C) (hw : (Lit.int .i64 s.2.1).wf = true) (hi : is = false → s = noS) :
    Calls Try.prog 25 #[encS s v, .bool is, .agg #[.int .i64 kind, .string g, rv], .int .i64 now, .agg #[.int .i64 mem, .int .i64 last]] w (RetPapp w (papp s kind (sasc C) C.length now mem last)) := by
  refine (apply_any s.1 s.2.1 v s.2.2 is kind g rv C now mem last w h hr hw).mono fun e w' hx => ?_
  refine RetApp.plain (s := s) hw ?_
  cases is
  · rw [hi rfl] at hx ⊢
    exact hx
  · simpa using hx

theorem papp_zero {s : Stt} {kind : Int} {S : List Str} {n : Nat} {now mem last : Int} {t : Stt} (h : (papp s kind S n now mem last).2.1 = some t) : (papp s kind S n now mem last).1 = 0 := by
  unfold papp at h ⊢
  split at h
  · cases h
  · rename_i h1
    rw [if_neg h1]
    split at h
    · cases h
    · rename_i h2
      rw [if_neg h2]
      split at h
      · cases h
      · rename_i h3
        rw [if_neg h3]
theorem papp_ask {s : Stt} {kind : Int} {S : List Str} {n : Nat} {now mem last : Int} (h : (papp s kind S n now mem last).2.1 = none) : (papp s kind S n now mem last).2.2 = (false, []) := by
  unfold papp at h ⊢
  split
  · rfl
  · rename_i h1
    rw [if_neg h1] at h
    split
    · rfl
    · rename_i h2
      rw [if_neg h2] at h
      split
      · rfl
      · rename_i h3
        rw [if_neg h3] at h
        cases h
end Go.Proofs.Ytpibmjkbebkilaa

/- (*table.Table).of and its iterator: the keys of a group of a VLAN, in their order. -/
namespace Go.Proofs.Ytpibmjkbebkilaa
open Go.RowKit Go.Lib Go.Maps Go.Sort Go.Shelf
set_option maxRecDepth 20000
attribute [local go_sem] Oper.semAt_some

theorem of_in (n : Nat) (t : Option Addr) (v : Int) (g : ByteArray) (w : World) :
    CallsIn Fence.wide n Try.prog 28 #[.pointer t, .int .i64 v, .string g] w fun e w' => e = .returned (.func (.func 48) #[] #[.pointer (some ⟨w.heap.size, 0, none⟩), .pointer (some ⟨w.heap.size + 1, 0, none⟩), .pointer (some ⟨w.heap.size + 1 + 1, 0, none⟩)]) ∧
      w' = ((w.alloc (.cells #[.pointer t] 27)).alloc (.cells #[.int .i64 v] 3)).alloc (.cells #[.string g] 32) := by
  refine callsIn_of_wp Try.func28 rfl trivial ?_ rfl
  simp only [Try.ntmps28, List.size_toArray, List.length_cons, List.length_nil, Nat.reduceAdd, Nat.reduceSub, Array.replicate_succ, Array.replicate_zero, List.push_toArray, List.append_toArray, List.nil_append, List.cons_append]
  gi_wp2
  go_ret
  exact ⟨rfl, rfl⟩

/-- is a key one of that group of that VLAN? -/
def inOf (v : Int) (g : Str) (x : TK) : Bool := x.1 == v && x.2.1 == g
def selO (v : Int) (g : Str) (l : List TKo) : List TKo := l.filter fun x => inOf v g x.1
theorem selO_yes {v : Int} {g : Str} (l : List TKo) {x : TKo} (h : inOf v g x.1 = true) : selO v g (l ++ [x]) = selO v g l ++ [x] := by simp [selO, List.filter_append, h]
theorem selO_no {v : Int} {g : Str} (l : List TKo) {x : TKo} (h : inOf v g x.1 = false) : selO v g (l ++ [x]) = selO v g l := by simp [selO, List.filter_append, h]
theorem selO_len (v : Int) (g : Str) (l : List TKo) : (selO v g l).length ≤ l.length := List.length_filter_le _ _
theorem selO_map (v : Int) (g : Str) (l : List TKo) : (selO v g l).map Subtype.val = (l.map Subtype.val).filter (inOf v g) := by
  induction l with
  | nil => rfl
  | cons x l ih =>
    unfold selO at ih ⊢
    simp only [List.filter_cons, List.map_cons]
    cases inOf v g x.1 <;> simp [ih]

theorem RoundIn.any {m m' : Nat} {P : Program} {l : Nat} {f : FuncId} {tmps : Array Value} {assign body : Code} {w : World} {R : Ending → World → Prop}
    (h : RoundIn Fence.wide m P l f tmps assign body w R) : RoundIn Fence.wide m' P l f tmps assign body w R := ⟨h.1, fun c cs _ => h.2 c cs (fun d hd => by cases hd)⟩
theorem YieldAt.any {m : Nat} (m' : Nat) {P : Program} {l : Nat} {args : Array Value} {W : World} {R : Ending → World → Prop} (h : YieldAt Fence.wide m P l args W R) : YieldAt Fence.wide m' P l args W R := by
  obtain ⟨fn, tmps, assign, body, hy, hR⟩ := h
  exact ⟨fn, tmps, assign, body, hy, RoundIn.any hR⟩

set_option maxRecDepth 100000 in
set_option maxHeartbeats 4000000 in
theorem of_stops (n : Nat) (Bt N B : Nat) (t : Option Addr) (v : Int) (g : Str) (K : List TK) (w : World) (hs : Bt + 1 + 1 < w.heap.size) (ht : w.cell? ⟨Bt, 0, none⟩ = some (.pointer t)) (hv : w.cell? ⟨Bt + 1, 0, none⟩ = some (.int .i64 v)) (hg : w.cell? ⟨Bt + 1 + 1, 0, none⟩ = some (.string (bstr g))) (hB : B ≤ Bt)
    (hall : ∀ n Ba W, Below w.heap.size w W → Ba < W.heap.size → W.cell? ⟨Ba, 0, none⟩ = some (.pointer t) → SeqG Fence.wide n Try.prog 44 #[.pointer (some ⟨Ba, 0, none⟩)] (fun x : TKo => #[encT x.1]) B (fun ss => ss.map Subtype.val = K) (fun pre => pre.map Subtype.val <+: K) N W) :
    SeqG Fence.wide n Try.prog 48 #[.pointer (some ⟨Bt, 0, none⟩), .pointer (some ⟨Bt + 1, 0, none⟩), .pointer (some ⟨Bt + 1 + 1, 0, none⟩)] (fun x : TKo => #[encT x.1]) B (fun ss => ss.map Subtype.val = K.filter (inOf v g)) (fun pre => pre.map Subtype.val <+: K.filter (inOf v g)) N w := fun l J Jx W hW hJ hJx hY h0 => by
  have hsW : Bt + 1 + 1 < W.heap.size := Nat.lt_of_lt_of_le hs hW.size
  have ht' := (hW.cell (p := ⟨Bt, 0, none⟩) (by simp; omega)).trans ht
  have hv' := (hW.cell (p := ⟨Bt + 1, 0, none⟩) (by simp; omega)).trans hv
  have hg' := (hW.cell (p := ⟨Bt + 1 + 1, 0, none⟩) (by simp; omega)).trans hg
  have HA := Lib.hid (fun n Ba (W2 : World) (h1 : Below W.heap.size W W2) => hall n Ba W2 (hW.trans (h1.mono hW.size)))
  have HW := Lib.hid hW.size
  have HJ := Lib.hid hJ; have HJX := Lib.hid hJx; have HY := Lib.hid hY; have H0 := Lib.hid h0; have HB := Lib.hid hB; have HS := Lib.hid hsW
  have hBl : Bt < W.heap.size := by omega
  clear ht hv hg hW hs hall hJ hJx hY h0 hB hsW
  refine callsIn_of_wp_marks Try.func48 rfl trivial ?_ rfl
  simp only [Try.ntmps48, List.size_toArray, List.length_cons, List.length_nil, Nat.reduceAdd, Nat.reduceSub, Array.replicate_succ, Array.replicate_zero, List.push_toArray, List.append_toArray, List.nil_append, List.cons_append]
  gi_wp2_with (refine ⟨trivial, fun hd => (by cases hd), ?_⟩; gi_at_call 27; refine (tall_in _ _ _).mono ?_; rintro e w' ⟨rfl, rfl⟩)
  have bY := Boxed.new W 62 (.func (.yield l) #[] #[])
  have hb1 : Below W.heap.size W (W.alloc (.cells #[.func (.yield l) #[] #[]] 62)) := (Below.refl _ W).alloc (Nat.le_refl _) _
  have bT := Boxed.new (W.alloc (.cells #[.func (.yield l) #[] #[]] 62)) 27 (.pointer t)
  replace bY := bY.alloc (.cells #[.pointer t] 27)
  have hb0 : Below W.heap.size W ((W.alloc (.cells #[.func (.yield l) #[] #[]] 62)).alloc (.cells #[.pointer t] 27)) := hb1.alloc hb1.size _
  have hj0 : ∀ H, W.heap.size ≤ H → J H [] ((W.alloc (.cells #[.func (.yield l) #[] #[]] 62)).alloc (.cells #[.pointer t] 27)) := fun H hH => (HJ.out H).alloc _ ((HJ.out H).alloc _ (H0.out H hH))
  have hsz : ((W.alloc (.cells #[.func (.yield l) #[] #[]] 62)).alloc (.cells #[.pointer t] 27)).heap.size = W.heap.size + 2 := by rw [World.size_alloc, World.size_alloc]
  simp only [World.size_alloc] at bT
  obtain ⟨W0, hW0⟩ : ∃ W0, (W.alloc (.cells #[.func (.yield l) #[] #[]] 62)).alloc (.cells #[.pointer t] 27) = W0 := ⟨_, rfl⟩
  rw [hW0] at bY bT hb0 hsz hj0 ⊢
  clear hW0 hb1
  have hv0 := (hb0.cell (p := ⟨Bt + 1, 0, none⟩) (by have := HS.out; simp; omega)).trans hv'
  have hg0 := (hb0.cell (p := ⟨Bt + 1 + 1, 0, none⟩) (by have := HS.out; simp; omega)).trans hg'
  have hh : ∀ H, OwnFrom W0.heap.size (fun (pre : List TKo) W' => (J H (selO v g pre) W' ∧ W.heap.size ≤ W'.heap.size) ∧ Boxed W' W.heap.size 62 (.func (.yield l) #[] #[]) ∧ W'.cell? ⟨Bt + 1, 0, none⟩ = some (.int .i64 v) ∧ W'.cell? ⟨Bt + 1 + 1, 0, none⟩ = some (.string (bstr g))) := fun H s X Y row hx hgr hr => by
    have hne : ∀ {b : Nat} {c : Value}, X.cell? ⟨b, 0, none⟩ = some c → Y.cell? ⟨b, 0, none⟩ = some c := fun {b c} hc => hgr.cell hc (fun e => by
      obtain ⟨_, o, ho, hno⟩ := hr b e.symm
      unfold World.cell? at hc
      rw [show X.heap[b]? = some o from ho] at hc
      cases o <;> simp [Obj.isCells] at hc hno)
    exact ⟨⟨HJ.out H _ X Y row hx.1.1 hgr (fun r e => ⟨by have := (hr r e).1; omega, (hr r e).2⟩), Nat.le_trans hx.1.2 hgr.size⟩, boxed_own W.heap.size _ (fun _ : Unit => _) () X Y row hx.2.1 hgr (fun r e => (hr r e).2), hne hx.2.2.1, hne hx.2.2.2⟩
  refine wpIn_rangeG B rfl (fun hd => by cases hd) (gf := 44) (lb := #[.pointer (some ⟨W.heap.size + 1, 0, none⟩)]) rfl trivial (enters_of Try.func44 (by kernel_rfl) rfl)
    (HA.out _ _ W0 hb0 (by omega) bT.cell) (fun _ => rfl)
    (fun H pre W' => (J H (selO v g pre) W' ∧ W.heap.size ≤ W'.heap.size) ∧ Boxed W' W.heap.size 62 (.func (.yield l) #[] #[]) ∧ W'.cell? ⟨Bt + 1, 0, none⟩ = some (.int .i64 v) ∧ W'.cell? ⟨Bt + 1 + 1, 0, none⟩ = some (.string (bstr g)))
    (fun H c pre W' => c = .ret ∧ Jx H (selO v g pre) W')
    hh (fun H c s X Y row hx hgr hr => ⟨hx.1, HJX.out H _ X Y row hx.2 hgr (fun r e => ⟨by have := (hr r e).1; omega, (hr r e).2⟩)⟩)
    (fun H hH => ⟨⟨hj0 H (by omega), by omega⟩, bY, hv0, hg0⟩)
    (fun x a' W' => ∃ Bx, CBox W' Bx 46 #[.int .i64 x.1.1, .string (bstr x.1.2.1), .int .i64 x.1.2.2] ∧ a' = { tmps := #[.func (.yield l) #[] #[], .pointer (some ⟨Bt, 0, none⟩), .pointer (some ⟨Bt + 1, 0, none⟩), .pointer (some ⟨Bt + 1 + 1, 0, none⟩), .pointer (some ⟨W.heap.size, 0, none⟩), .pointer (some ⟨Bx, 0, none⟩), .pointer t, .func (.func 44) #[] #[.pointer (some ⟨W.heap.size + 1, 0, none⟩)], encT x.1, undef, undef, undef, undef, undef, undef, undef, undef, undef, undef, undef, undef, undef, undef, undef, undef], defers := [] })
    (fun x a' _ X Y row hs hg hr => by obtain ⟨Bx, h2, h3⟩ := hs; exact ⟨Bx, tcbox_own Bx _ _ () X Y row h2 hg (fun r e => (hr r e).2), h3⟩)
    ?assign ?body ?done ?stop
  case assign =>
    rintro l2 H pre ⟨⟨xv, xg, xp⟩, hx⟩ W2 Kx hH1 hH2 ⟨⟨hj, hjs⟩, hby, hcv, hcg⟩ hK
    have hbl := hby.lt
    simp only [encT]
    gi_wp2
    exact hK _ _ ((KeepsOthers.alloc _ _).from _) (KeepsR.alloc _ _ _ _) ⟨⟨(HJ.out H).alloc _ hj, by simp; omega⟩, hby.alloc _, ((Below.refl W2.heap.size W2).alloc (Nat.le_refl _) _).cell (p := ⟨Bt + 1, 0, none⟩) (World.block_lt_of_cell? W2 _ hcv) ▸ hcv, ((Below.refl W2.heap.size W2).alloc (Nat.le_refl _) _).cell (p := ⟨Bt + 1 + 1, 0, none⟩) (World.block_lt_of_cell? W2 _ hcg) ▸ hcg⟩ ⟨W2.heap.size, CBox.new _ rfl, rfl⟩
  case body =>
    rintro l2 H pre ⟨⟨xv, xg, xp⟩, hx⟩ a' W2 hl2 hH1 hH2 hr ⟨⟨hj, hjs⟩, hby, hcv, hcg⟩ ⟨Bx, bX, rfl⟩ hlt
    have cy := hby.cell
    obtain ⟨k0, _⟩ := bX.at_ 0 _ rfl
    obtain ⟨k1, _⟩ := bX.at_ 1 _ rfl
    obtain ⟨k2, _⟩ := bX.at_ 2 _ rfl
    have hbt := bstr_toList
    have HI := Lib.hid (show (J H (selO v g pre) W2 ∧ W.heap.size ≤ W2.heap.size) ∧ Boxed W2 W.heap.size 62 (.func (.yield l) #[] #[]) ∧ W2.cell? ⟨Bt + 1, 0, none⟩ = some (.int .i64 v) ∧ W2.cell? ⟨Bt + 1 + 1, 0, none⟩ = some (.string (bstr g)) from ⟨⟨hj, hjs⟩, hby, hcv, hcg⟩)
    have HW0 := Lib.hid hsz; have HH1 := Lib.hid hH1; have HH2 := Lib.hid hH2; have HLT := Lib.hid hlt
    clear hl2 hH1 hH2 hr hlt hjs hby hb0 hsz hj0 bY bT hv0 hg0 hh hv' hg' ht'
    cases hev : (xv == v)
    · have HN := Lib.hid (show inOf v g (xv, xg, xp) = false from by simp [inOf, hev])
      gi_wp2
      refine ⟨fun _ h => (by cases h), ?_⟩
      gi_wp2
      exact ⟨KeepsFrom.refl _ _, KeepsR.refl _ _ _, by dsimp only; rw [selO_no _ HN.out]; exact HI.out⟩
    · cases heg : (xg == g)
      · have HN := Lib.hid (show inOf v g (xv, xg, xp) = false from by simp [inOf, hev, heg])
        gi_wp2
        refine ⟨fun _ h => (by cases h), ?_⟩
        gi_wp2
        exact ⟨KeepsFrom.refl _ _, KeepsR.refl _ _ _, by dsimp only; rw [selO_no _ HN.out]; exact HI.out⟩
      · have HN := Lib.hid (show inOf v g (xv, xg, xp) = true from by simp [inOf, hev, heg])
        obtain ⟨fn, tmps, assign, body, hy, hR⟩ := YieldAt.any (n - 1 - 1 - 1) (HY.out H (selO v g pre) ⟨(xv, xg, xp), hx⟩ W2 (by have := HH1.out; have := HW0.out; omega) HH2.out hj (Nat.lt_of_le_of_lt (selO_len v g pre) HLT.out))
        dsimp only [encT] at hy
        clear hj
        gi_wp2
        refine ⟨fun hd => (by cases hd), (show RoundIn (Fence.wide.inRound l2) _ _ _ _ _ _ _ _ _ from hR).mono ?_⟩
        rintro e W3 (⟨rfl, hJ3, hk3, hf3⟩ | ⟨rfl, hJx3, hf3⟩)
        · have hkf : KeepsFrom W0.heap.size W2 W3 := ⟨hf3.size, fun j o hj hjo ho => hf3.same j o (by have := HW0.out; omega) hjo ho⟩
          obtain ⟨⟨_, hjs⟩, hby, hcv, hcg⟩ := HI.out
          have hHb : B ≤ W.heap.size ∧ W.heap.size < H ∧ Bt + 1 + 1 < H := by have h1 := HB.out; have h2 := HS.out; have h3 := HH1.out; have h4 := HW0.out; omega
          gi_wp2
          exact ⟨hkf, hk3, ⟨by rw [selO_yes _ HN.out]; exact hJ3, Nat.le_trans hjs hk3.1⟩, hk3.2 _ _ _ _ hHb.1 hHb.2.1 hby, hk3.cell (p := ⟨Bt + 1, 0, none⟩) (by have := HB.out; simp; omega) (by simp; omega) hcv, hk3.cell (p := ⟨Bt + 1 + 1, 0, none⟩) (by have := HB.out; simp; omega) (by simp; omega) hcg⟩
        · have hkf : KeepsFrom W0.heap.size W2 W3 := ⟨hf3.size, fun j o hj hjo ho => hf3.same j o (by have := HW0.out; omega) hjo ho⟩
          gi_wp2
          exact ⟨hkf, rfl, by rw [selO_yes _ HN.out]; exact hJx3⟩
  case done =>
    rintro D H xs W2 hD hDH hxs ⟨⟨hj, hjs⟩, hby, hcv, hcg⟩ hK
    gi_wp2
    refine ⟨by simp, .inl ⟨_, _, rfl, run_takeDeferred hK, ?_⟩⟩
    exact ⟨_, results_none rfl _ _ _, ⟨_, rfl⟩, .inl ⟨H, selO v g xs, by omega, by rw [selO_map, hxs], (HJ.out H).putObj _ hj (by omega) hK rfl⟩⟩
  case stop =>
    rintro D H c pre W2 hD hDH hSp ⟨rfl, hj⟩ hK
    gi_wp2
    refine ⟨by simp, .inl ⟨_, _, rfl, run_takeDeferred hK, ?_⟩⟩
    exact ⟨_, results_none rfl _ _ _, ⟨_, rfl⟩, .inr ⟨H, selO v g pre, by omega, by rw [selO_map]; exact List.IsPrefix.filter _ hSp, (HJX.out H).putObj _ hj (by omega) hK rfl⟩⟩
end Go.Proofs.Ytpibmjkbebkilaa
