/- Texts joined into one file: GApp, GLive, GPlain. -/
import Derived.Test.YtfloipdkhmgibaaS15
import Derived.Deep.CutBlock
import Derived.Test.YtfloipdkhmgibaaS10

/- group.Apply: what becomes of a state by a record. -/
namespace Go.Proofs.Ytfloipdkhmgibaa
open Go.RowKit Go.Lib Go.Maps Go.Sort
set_option maxRecDepth 20000

def inF (kind : Int) (ex : Bool) (at' : Int) (F : Str → Option Int) (S : List Str) (m : Int) : Str → Option Int :=
  if kind = 6 then (if ex then fillF F (S.filter (notBlk F)) at' else F)
  else if kind = 2 ∨ kind = 4 then excF F S (freshOf ex (kind == 4) at' m)
  else setF F S m
def inEx (kind : Int) (ex : Bool) : Bool := ex || kind == 2 || kind == 4
def inAt (kind at' m : Int) : Int := if kind = 2 ∨ kind = 4 then m else at'
def inG (kind : Int) (ex : Bool) : Bool := kind == 3 && ex
def inQ (kind : Int) (ex : Bool) (at' : Int) (F : Str → Option Int) (S : List Str) (m : Int) (a : Str) : Bool :=
  if kind = 6 then S.contains a && (if ex then notBlk F a else runF F a)
  else if kind = 2 ∨ kind = 4 then kind == 4 && runF (excF F S (freshOf ex (kind == 4) at' m)) a
  else kind == 3 && (runF F a && !S.contains a)

def may (now mem last : Int) : Bool := decide (1 ≤ now ∧ now ≤ 1099511627776 ∧ 1 ≤ mem ∧ mem ≤ 1000000 ∧ 1 ≤ last ∧ last ≤ 1000000)
/-- the error's number that is known ahead -/
def verdict (ok : Bool) (kind : Int) (n : Nat) (now mem last : Int) : Int :=
  if ok then (if may now mem last && decide (n ≤ 60) && decide (1 ≤ kind ∧ kind ≤ 6) then 0 else 1) else 3

def noState : Value := .agg #[.bool false, .int .i64 0, .slice none 0 0]
def noAsk : Value := .agg #[.bool false, .slice none 0 0]

/-- what Apply hands back -/
def RetApp (w : World) (ex : Bool) (at' : Int) (L : List Tmd) (kind : Int) (S : List Str) (n : Nat) (now mem last : Int) (e : Ending) (w' : World) : Prop :=
  Below w.heap.size w w' ∧
  ((verdict (pcheck ex at' L) kind n now mem last ≠ 0 ∧ e = .returned (.tuple #[noState, .bool false, noAsk, .int .i64 (verdict (pcheck ex at' L) kind n now mem last)])) ∨
   (verdict (pcheck ex at' L) kind n now mem last = 0 ∧ ∃ K, KeysOf' (inF kind ex at' (rd L) S (now + mem)) K ∧
     ((60 < K.length ∧ e = .returned (.tuple #[noState, .bool false, noAsk, .int .i64 1])) ∨
      (K.length ≤ 60 ∧ (inEx kind ex = false ∧ K = []) ∧ e = .returned (.tuple #[noState, .bool false, noAsk, .int .i64 0])) ∨
      (K.length ≤ 60 ∧ ¬ (inEx kind ex = false ∧ K = []) ∧ ∃ v L' u R, e = .returned (.tuple #[.agg #[.bool (inEx kind ex), .int .i64 (if inG kind ex then min (inAt kind at' (now + mem)) (now + last) else inAt kind at' (now + mem)), v], .bool true, .agg #[.bool (inG kind ex), u], .int .i64 0]) ∧
        Tms w' v L' ∧ Strs w' u R ∧ Rises (inQ kind ex at' (rd L) S (now + mem)) R ∧ Asc (soonF (inF kind ex at' (rd L) S (now + mem)) R (now + last)) L' ∧ Lies w.heap.size v ∧ Lies w.heap.size u))))

theorem Mp.count {w : World} {b n : Nat} {F : Str → Option Int} (h : Mp w b n F) : ∃ K, KeysOf' F K ∧ ∀ ty, (Builtin.len_ #[90] ty #[.map (some b)]).run Try.prog w = .ok (.int .i64 K.length) w := by
  obtain ⟨D, h, e⟩ := h
  refine ⟨(strKeys D).mergeSort fun x y => decide (x ≤ y), keys_sorted h e (List.Perm.refl _), fun ty => ?_⟩
  have hl : (strKeys D).length = Maps.size D := by obtain ⟨es, rfl⟩ := h.isMap; simp [strKeys, Maps.size]
  rw [List.length_mergeSort, hl]
  exact h.len Try.underlying90 ty

-- THE WALK
section
variable {w w' : World} {lo : Nat} {ex : Bool} {at' : Int} {v : Value} {kind : Int} {g : ByteArray} {rv : Value} {mem last : Int}
theorem below_end5 {B : Nat} {a w : World} (h : Below B a w) {lo : Nat} (hB : B ≤ lo + 1 + 1 + 1) (u0 u1 u2 u3 u4 : Value) : Below B a (((((w.setCell ⟨lo + 1 + 1 + 1, 0, none⟩ u0).setCell ⟨lo + 1 + 1 + 1, 1, none⟩ u1).setCell ⟨lo + 1 + 1 + 1, 2, none⟩ u2).setCell ⟨lo + 1 + 1 + 1 + 1, 0, none⟩ u3).setCell ⟨lo + 1 + 1 + 1 + 1, 1, none⟩ u4) :=
  ((((h.setCell hB u0).setCell hB u1).setCell hB u2).setCell (Nat.le_succ_of_le hB) u3).setCell (Nat.le_succ_of_le hB) u4
theorem Tms.end5 {w : World} {v : Value} {L : List Tmd} {l lo : Nat} (h : Tms w v L) (hl : Lies l v) (hlo : lo + 1 + 1 + 1 + 1 < l) (u0 u1 u2 u3 u4 : Value) : Tms (((((w.setCell ⟨lo + 1 + 1 + 1, 0, none⟩ u0).setCell ⟨lo + 1 + 1 + 1, 1, none⟩ u1).setCell ⟨lo + 1 + 1 + 1, 2, none⟩ u2).setCell ⟨lo + 1 + 1 + 1 + 1, 0, none⟩ u3).setCell ⟨lo + 1 + 1 + 1 + 1, 1, none⟩ u4) v L :=
  ((((h.far hl (p := ⟨lo + 1 + 1 + 1, 0, none⟩) (by simp; omega) u0).far hl (p := ⟨lo + 1 + 1 + 1, 1, none⟩) (by simp; omega) u1).far hl (p := ⟨lo + 1 + 1 + 1, 2, none⟩) (by simp; omega) u2).far hl (p := ⟨lo + 1 + 1 + 1 + 1, 0, none⟩) (by simp; omega) u3).far hl (p := ⟨lo + 1 + 1 + 1 + 1, 1, none⟩) (by simp; omega) u4
theorem Strs.end5 {w : World} {v : Value} {L : List Str} {l lo : Nat} (h : Strs w v L) (hl : Lies l v) (hlo : lo + 1 + 1 + 1 + 1 < l) (u0 u1 u2 u3 u4 : Value) : Strs (((((w.setCell ⟨lo + 1 + 1 + 1, 0, none⟩ u0).setCell ⟨lo + 1 + 1 + 1, 1, none⟩ u1).setCell ⟨lo + 1 + 1 + 1, 2, none⟩ u2).setCell ⟨lo + 1 + 1 + 1 + 1, 0, none⟩ u3).setCell ⟨lo + 1 + 1 + 1 + 1, 1, none⟩ u4) v L :=
  ((((h.far hl (p := ⟨lo + 1 + 1 + 1, 0, none⟩) (by simp; omega) u0).far hl (p := ⟨lo + 1 + 1 + 1, 1, none⟩) (by simp; omega) u1).far hl (p := ⟨lo + 1 + 1 + 1, 2, none⟩) (by simp; omega) u2).far hl (p := ⟨lo + 1 + 1 + 1 + 1, 0, none⟩) (by simp; omega) u3).far hl (p := ⟨lo + 1 + 1 + 1 + 1, 1, none⟩) (by simp; omega) u4
end

theorem may_eq (now mem last : Int) : may now mem last = ((decide (1 ≤ now) && decide (now ≤ 1099511627776)) && (decide (1 ≤ mem) && decide (mem ≤ 1000000)) && (decide (1 ≤ last) && decide (last ≤ 1000000))) := by
  unfold may
  rw [Bool.eq_iff_iff]
  simp only [Bool.and_eq_true, decide_eq_true_eq, and_assoc]

theorem Strs.apart {w : World} {v : Value} {L : List Str} (h : Strs w v L) {p : Addr} (hne : ∀ b, v.ownBlock = some b → b ≠ p.block) (u : Value) : Strs (w.setCell p u) v L := by
  obtain ⟨ao, cap, b, off, rfl, h0, h1, h2, h3⟩ := h
  refine ⟨ao, cap, b, off, rfl, h0, h1, h2, fun k hk => ?_⟩
  obtain ⟨hlt, hc⟩ := h3 k hk
  have hb : b ≠ p.block := by
    rcases h0 with rfl | rfl
    · simp at hk
    · exact hne b rfl
  refine ⟨by simpa using hlt, ?_⟩
  rw [World.cell?_setCell_other w p _ u (fun e => hb (by rw [e]))]
  exact hc

theorem bcell {B : Nat} {w w' : World} (hb : Below B w w') : (∀ b o, b < B → w'.cell? ⟨b, o, none⟩ = w.cell? ⟨b, o, none⟩) ∧ (∀ b o, b < B → w'.frozen? ⟨b, o, none⟩ = w.frozen? ⟨b, o, none⟩) :=
  ⟨fun b o h => hb.cell (p := ⟨b, o, none⟩) h, fun b o h => hb.frozen (p := ⟨b, o, none⟩) h⟩

/-- what slices.Sorted leaves -/
def SortedAt (w4 W : World) (C : List Str) (e : Ending) (W' : World) : Prop :=
  Below w4.heap.size w4 W ∧ ∃ v, e = .returned v ∧ Below W.heap.size W W' ∧ (∀ b, v.ownBlock = some b → W.heap.size ≤ b ∧ b < W'.heap.size) ∧ ∀ W2, Below W'.heap.size W' W2 → Calls Try.prog 70 #[v] W2 fun e w'' =>
        ∃ o, e = .returned o ∧ Strs w'' o (sasc C) ∧ W2.grownBy w'' v.ownBlock ∧ o.ownBlock = v.ownBlock

/-- what slices.Compact leaves: w4 all, W behind the making of the iterator, w6 sorted, W2 at the call -/
def CompactAt (w4 W w6 W2 : World) (C : List Str) (e : Ending) (w7 : World) : Prop :=
  ∃ oo oc, e = .returned (.slice oo (sasc C).length oc) ∧ Strs w7 (.slice oo (sasc C).length oc) (sasc C) ∧ (∀ b o, b < W.heap.size → w7.cell? ⟨b, o, none⟩ = W.cell? ⟨b, o, none⟩) ∧ (∀ b o, b < W.heap.size → w7.frozen? ⟨b, o, none⟩ = W.frozen? ⟨b, o, none⟩) ∧
    (∀ b o, w6.heap.size ≤ b → b < W2.heap.size → w7.cell? ⟨b, o, none⟩ = W2.cell? ⟨b, o, none⟩) ∧ (∀ b o, w6.heap.size ≤ b → b < W2.heap.size → w7.frozen? ⟨b, o, none⟩ = W2.frozen? ⟨b, o, none⟩) ∧
    (∀ b, (Value.slice oo (sasc C).length oc).ownBlock = some b → W.heap.size ≤ b ∧ b < w6.heap.size) ∧ Hid (Below w4.heap.size w4 w7 ∧ Below W.heap.size W w7 ∧ (∀ b, w6.heap.size ≤ b → b < W2.heap.size → w7.heap[b]? = W2.heap[b]?) ∧ W.heap.size ≤ w6.heap.size)

theorem compact_at {w4 W w6 W2 : World} {L : List Str} {v : Value} (_h1 : Below w4.heap.size w4 w6) (h0 : Below w4.heap.size w4 W) (h2 : Below W.heap.size W w6) (h3 : ∀ b, v.ownBlock = some b → W.heap.size ≤ b ∧ b < w6.heap.size) (h4 : Below w6.heap.size w6 W2)
    (hc : Calls Try.prog 70 #[v] W2 fun e w'' => ∃ o, e = .returned o ∧ Strs w'' o (sasc L) ∧ W2.grownBy w'' v.ownBlock ∧ o.ownBlock = v.ownBlock) : Calls Try.prog 70 #[v] W2 (CompactAt w4 W w6 W2 L) := by
  refine hc.mono ?_
  rintro e w7 ⟨o, rfl, hs, hg, hob⟩
  obtain ⟨oo, oc, rfl⟩ := hs.shape
  have hbW2 : Below W.heap.size W W2 := h2.trans (h4.mono h2.size)
  have hb7 : Below W.heap.size W w7 := hbW2.grown hg hbW2.size (fun k e => (h3 k e).1)
  have hh : ∀ b, w6.heap.size ≤ b → b < W2.heap.size → w7.heap[b]? = W2.heap[b]? := fun b h5 h6 => hg.block b h6 (fun e => by have := (h3 b e.symm).2; omega)
  exact ⟨oo, oc, rfl, hs, (bcell hb7).1, (bcell hb7).2, fun b o h5 h6 => World.cell?_of_block (w := W2) (hh b h5 h6), fun b o h5 h6 => World.frozen?_of_block (w := W2) (hh b h5 h6), fun b e => h3 b (hob ▸ e), Lib.hid ⟨h0.trans (hb7.mono h0.size), hb7, hh, h2.size⟩⟩

end Go.Proofs.Ytfloipdkhmgibaa

/- siphonlaw17.live, few: some answers that the document gives. -/
namespace Go.Proofs.Ytfloipdkhmgibaa
open Go.RowKit Go.Lib Go.Maps Go.Sort
set_option maxRecDepth 20000

theorem keys_unique {F : Str → Option Int} {K K' : List Str} (h : KeysOf' F K) (h' : KeysOf' F K') : K = K' :=
  srising_ext h.1 h'.1 (fun x => by rw [h.2, h'.2])
theorem asc_unique {F : Str → Option Int} {L L' : List Tmd} (h : Asc F L) (h' : Asc F L') : L = L' := by
  have e := keys_unique h.1 h'.1
  have hl : L.length = L'.length := by have := congrArg List.length e; simpa using this
  refine List.ext_getElem hl (fun i h1 h2 => ?_)
  have e1 : (L[i]).1 = (L'[i]).1 := by
    have : (L.map Prod.fst)[i]'(by simpa using h1) = (L'.map Prod.fst)[i]'(by simpa using h2) := by simp only [e]
    simpa using this
  have q1 := h.2 _ (List.getElem_mem h1)
  have q2 := h'.2 _ (List.getElem_mem h2)
  rw [e1, q2] at q1
  injection q1 with q1
  exact Prod.ext e1 q1.symm
theorem rises_unique {q : Str → Bool} {R R' : List Str} (h : Rises q R) (h' : Rises q R') : R = R' := srising_ext h.1 h'.1 (fun x => by rw [h.2, h'.2])

def sA : Str := [97]
def sB : Str := [98]
def sC : Str := [99]
def LA : List Tmd := [(sA, 0)]
def LB : List Tmd := [(sA, 0), (sB, 280)]
theorem bA : (⟨#[97]⟩ : ByteArray) = bstr sA := bstr_of _
theorem bB : (⟨#[98]⟩ : ByteArray) = bstr sB := bstr_of _
theorem bC : (⟨#[99]⟩ : ByteArray) = bstr sC := bstr_of _

theorem asc_of {F : Str → Option Int} {L : List Tmd} (h : (L.map Prod.fst).Pairwise (· < ·)) (he : ∀ a, F a = rd L a) : Asc F L := by
  have hn : (L.map Prod.fst).Nodup := h.imp (fun {x y} (hlt : x < y) (e : x = y) => by subst e; exact slt_irrefl _ hlt)
  obtain ⟨h1, h2⟩ := rd_nodup L hn
  refine ⟨⟨h, fun a => ?_⟩, fun t ht => by rw [he]; exact h1 t ht⟩
  rw [he]
  constructor
  · intro ha
    obtain ⟨t, ht, rfl⟩ := List.mem_map.1 ha
    rw [h1 t ht]; simp
  · intro ha
    by_cases hm : a ∈ L.map Prod.fst
    · exact hm
    · exact absurd (h2 a hm) ha

theorem sasc_one (a : Str) : sasc [a] = [a] := sasc_of_rising (by simp)

theorem live1 {K : List Str} {R : List Str} {L' : List Tmd} (hK : KeysOf' (inF 2 false 0 (rd []) (sasc [sA]) (10 + 260)) K) :
    K = [sA] ∧ (Rises (inQ 2 false 0 (rd []) (sasc [sA]) (10 + 260)) R → R = [] ∧ (Asc (soonF (inF 2 false 0 (rd []) (sasc [sA]) (10 + 260)) R (10 + 2)) L' → L' = LA)) := by
  rw [sasc_one] at *
  have hF : ∀ a, inF 2 false 0 (rd []) [sA] (10 + 260) a = rd LA a := by
    intro a
    simp [inF, excF, freshOf, rd, LA, upd]
  refine ⟨keys_unique hK (asc_of (L := LA) (by simp [LA]) hF).1, fun hR => ?_⟩
  have hR' : R = [] := rises_unique hR (rises_nil (fun a => by simp [inQ]))
  refine ⟨hR', fun hA => ?_⟩
  rw [hR', soonF_nil] at hA
  exact asc_unique hA (asc_of (by simp [LA]) hF)

theorem live2 {K : List Str} {R : List Str} {L' : List Tmd} (hK : KeysOf' (inF 3 true 270 (rd LA) (sasc [sB]) (20 + 260)) K) :
    K = [sA, sB] ∧ (Rises (inQ 3 true 270 (rd LA) (sasc [sB]) (20 + 260)) R → R = [] ∧ (Asc (soonF (inF 3 true 270 (rd LA) (sasc [sB]) (20 + 260)) R (20 + 2)) L' → L' = LB)) := by
  rw [sasc_one] at *
  have hF : ∀ a, inF 3 true 270 (rd LA) [sB] (20 + 260) a = rd LB a := by
    intro a
    simp [inF, setF, rd, LA, LB, upd]
  have hp : (LB.map Prod.fst).Pairwise (· < ·) := by simp [LB]; decide
  refine ⟨keys_unique hK (asc_of hp hF).1, fun hR => ?_⟩
  have hR' : R = [] := rises_unique hR (rises_nil (fun a => by
    simp [inQ, runF, rd, LA, upd]
    by_cases e : a = sA <;> simp [e]))
  refine ⟨hR', fun hA => ?_⟩
  rw [hR', soonF_nil] at hA
  exact asc_unique hA (asc_of hp hF)

theorem live_v1 : verdict (pcheck false 0 []) 2 1 10 260 2 = 0 := by decide +kernel
theorem live_v2 : verdict (pcheck true 270 LA) 3 1 20 260 2 = 0 := by decide +kernel
theorem live_a1 : padm true 22 LB 20 sA = false := by decide +kernel
theorem live_a2 : padm true 22 LB 21 sC = true := by decide +kernel
theorem live_a3 : padm true 22 LB 22 sC = false := by decide +kernel
theorem live_a4 : padm true 22 LB 22 sB = true := by decide +kernel
end Go.Proofs.Ytfloipdkhmgibaa

/- Plain laws of layer 17: what a state is behind a record and by time. -/
namespace Go.Proofs.Ytfloipdkhmgibaa
open Go.RowKit Go.Lib Go.Maps Go.Sort
set_option maxRecDepth 20000

theorem pw_of_next : ∀ {L : List Str}, (∀ k, k + 1 < L.length → L.getD k [] < L.getD (k + 1) []) → L.Pairwise (· < ·)
  | [], _ => List.Pairwise.nil
  | [a], _ => by simp
  | a :: b :: L, h => by
    have h0 : a < b := by have := h 0 (by simp); simpa using this
    have ih : (b :: L).Pairwise (· < ·) := pw_of_next (fun k hk => by have := h (k + 1) (by simp at hk ⊢; omega); simpa using this)
    refine List.pairwise_cons.2 ⟨fun x hx => ?_, ih⟩
    rcases List.mem_cons.1 hx with rfl | hx
    · exact h0
    · exact slt_trans h0 ((List.pairwise_cons.1 ih).1 x hx)

theorem getD_fst (L : List Tmd) (k : Nat) (h : k < L.length) : (L.map Prod.fst).getD k [] = (L.getD k default).1 := by
  simp [List.getD_eq_getElem?_getD, h]

/-- what pcheck says -/
theorem pcheck_iff {ex : Bool} {at' : Int} {L : List Tmd} : pcheck ex at' L = true ↔ L.length ≤ 60 ∧ 0 ≤ at' ∧ (ex = true ↔ 0 < at') ∧ (L.map Prod.fst).Pairwise (· < ·) ∧ ∀ t ∈ L, 0 ≤ t.2 ∧ (ex = false → t.2 ≠ 0) := by
  unfold pcheck
  simp only [Bool.and_eq_true, decide_eq_true_eq, beq_iff_eq, List.all_eq_true, List.mem_range]
  constructor
  · rintro ⟨⟨⟨h1, h2⟩, h3⟩, h4⟩
    refine ⟨h1, h2, by rw [h3]; simp, pw_of_next (fun k hk => ?_), fun t ht => ?_⟩
    · have hk' : k + 1 < L.length := by simpa using hk
      have := h4 (k + 1) hk'
      unfold okAt at this
      rw [getD_fst L k (by omega), getD_fst L (k + 1) hk']
      rw [Bool.and_eq_true] at this
      have h2 := this.2
      simp only [Bool.or_eq_true, decide_eq_true_eq, beq_iff_eq, Nat.add_sub_cancel] at h2
      rcases h2 with h2 | h2
      · omega
      · exact h2
    · obtain ⟨k, hk, rfl⟩ := List.getElem_of_mem ht
      have := h4 k hk
      unfold okAt at this
      simp only [List.getD_eq_getElem?_getD, List.getElem?_eq_getElem hk, Option.getD_some, Bool.and_eq_true, decide_eq_true_eq, Bool.or_eq_true] at this
      refine ⟨this.1.1, fun he => ?_⟩
      rcases this.1.2 with h | h
      · rw [he] at h; cases h
      · exact h
  · rintro ⟨h1, h2, h3, h4, h5⟩
    refine ⟨⟨⟨h1, h2⟩, ?_⟩, fun k hk => ?_⟩
    · cases ex
      · simp at h3; simp; omega
      · simp at h3; simp [h3]
    · unfold okAt
      have hm := h5 _ (List.getElem_mem hk)
      have e : L.getD k default = L[k] := by simp [List.getD_eq_getElem?_getD, hk]
      rw [e]
      simp only [Bool.and_eq_true, decide_eq_true_eq, Bool.or_eq_true]
      refine ⟨⟨hm.1, ?_⟩, ?_⟩
      · cases ex
        · exact .inr (hm.2 rfl)
        · exact .inl rfl
      · cases k with
        | zero => exact .inl rfl
        | succ j =>
          refine .inr ?_
          have := List.pairwise_iff_getElem.1 h4 j (j + 1) (by simp; omega) (by simpa using hk) (by omega)
          have e2 : L.getD (j + 1 - 1) default = L[j] := by simp [List.getD_eq_getElem?_getD, show j < L.length by omega]
          rw [e2]
          simpa using this

theorem pcheck_asc {ex : Bool} {at' : Int} {L : List Tmd} (h : pcheck ex at' L = true) : Asc (rd L) L := asc_of (pcheck_iff.1 h).2.2.2.1 (fun _ => rfl)

/-- the values of a state that may be -/
def GoodF (ex : Bool) (F : Str → Option Int) : Prop := ∀ a z, F a = some z → 0 ≤ z ∧ (ex = false → z ≠ 0)
theorem good_asc {ex : Bool} {F : Str → Option Int} {L : List Tmd} (hA : Asc F L) : (∀ t ∈ L, 0 ≤ t.2 ∧ (ex = false → t.2 ≠ 0)) ↔ GoodF ex F := by
  constructor
  · intro h a z hF
    obtain ⟨t, ht, rfl⟩ := List.mem_map.1 ((hA.1.2 a).2 (by simp [hF]))
    have := hA.2 t ht
    rw [hF] at this
    injection this with e
    rw [e]; exact h t ht
  · intro h t ht
    exact h t.1 t.2 (hA.2 t ht)
theorem pcheck_good {ex : Bool} {at' : Int} {L : List Tmd} (h : pcheck ex at' L = true) : GoodF ex (rd L) := (good_asc (pcheck_asc h)).1 (pcheck_iff.1 h).2.2.2.2
theorem pcheck_mk {ex : Bool} {at' : Int} {L : List Tmd} {F : Str → Option Int} (hA : Asc F L) (hl : L.length ≤ 60) (h0 : 0 ≤ at') (he : ex = true ↔ 0 < at') (hg : GoodF ex F) : pcheck ex at' L = true :=
  pcheck_iff.2 ⟨hl, h0, he, hA.1.1, (good_asc hA).2 hg⟩

theorem verdict_ok {ok : Bool} {kind : Int} {n : Nat} {now mem last : Int} (h : verdict ok kind n now mem last = 0) : ok = true ∧ 1 ≤ now ∧ now ≤ 1099511627776 ∧ 1 ≤ mem ∧ mem ≤ 1000000 ∧ 1 ≤ last ∧ last ≤ 1000000 ∧ n ≤ 60 ∧ 1 ≤ kind ∧ kind ≤ 6 := by
  unfold verdict at h
  cases ok
  · simp at h
  · simp only [if_true] at h
    by_cases hc : (may now mem last && decide (n ≤ 60) && decide (1 ≤ kind ∧ kind ≤ 6)) = true
    · unfold may at hc
      simp only [Bool.and_eq_true, decide_eq_true_eq] at hc
      obtain ⟨⟨⟨a1, a2, a3, a4, a5, a6⟩, b⟩, c, d⟩ := hc
      exact ⟨rfl, a1, a2, a3, a4, a5, a6, b, c, d⟩
    · rw [if_neg hc] at h; cases h

theorem kind_six {kind : Int} (h1 : 1 ≤ kind) (h2 : kind ≤ 6) : kind = 1 ∨ kind = 2 ∨ kind = 3 ∨ kind = 4 ∨ kind = 5 ∨ kind = 6 := by omega

theorem soonF_keys {F : Str → Option Int} {R : List Str} {z : Int} (a : Str) : soonF F R z a = none ↔ F a = none := by
  unfold soonF
  split
  · rename_i h
    rw [Bool.and_eq_true] at h
    have := runF_some h.2
    simp [this]
  · rfl

/-- the values behind a record -/
theorem good_in {kind : Int} {ex : Bool} {at' m : Int} {F : Str → Option Int} {S : List Str} (hm : 0 < m) (hk1 : 1 ≤ kind) (hk2 : kind ≤ 6) (h0 : 0 ≤ at') (he : ex = true ↔ 0 < at') (hg : GoodF ex F) : GoodF (inEx kind ex) (inF kind ex at' F S m) := by
  intro a z hz
  rcases kind_six hk1 hk2 with rfl | rfl | rfl | rfl | rfl | rfl
  · simp [inF, setF, inEx] at hz ⊢
    split at hz
    · injection hz with hz; subst hz; exact ⟨by omega, fun _ => by omega⟩
    · exact hg a z hz
  · simp [inF, excF, inEx] at hz ⊢
    obtain ⟨_, hz⟩ := hz
    cases hF : F a with
    | none => rw [hF] at hz; simp at hz; subst hz; unfold freshOf; split <;> simp <;> omega
    | some y => rw [hF] at hz; simp at hz; subst hz; exact (hg a y hF).1
  · simp [inF, setF, inEx] at hz ⊢
    split at hz
    · injection hz with hz; subst hz; exact ⟨by omega, fun _ => by omega⟩
    · exact hg a z hz
  · simp [inF, excF, inEx] at hz ⊢
    obtain ⟨_, hz⟩ := hz
    cases hF : F a with
    | none => rw [hF] at hz; simp at hz; subst hz; unfold freshOf; split <;> simp <;> omega
    | some y => rw [hF] at hz; simp at hz; subst hz; exact (hg a y hF).1
  · simp [inF, setF, inEx] at hz ⊢
    split at hz
    · injection hz with hz; subst hz; exact ⟨by omega, fun _ => by omega⟩
    · exact hg a z hz
  · cases ex
    · simp [inF, inEx] at hz ⊢
      exact ⟨(hg a z hz).1, (hg a z hz).2 rfl⟩
    · simp [inF, inEx, fillF] at hz ⊢
      split at hz
      · injection hz with hz; subst hz; exact h0
      · exact (hg a z hz).1

theorem good_soon {ex : Bool} {F : Str → Option Int} {R : List Str} {l : Int} (hl : 0 < l) (hg : GoodF ex F) : GoodF ex (soonF F R l) := by
  intro a z hz
  unfold soonF at hz
  split at hz
  · rename_i h
    rw [Bool.and_eq_true] at h
    injection hz with hz
    cases hF : F a with
    | none => exact absurd hF (runF_some h.2)
    | some y =>
      have := hg a y hF
      have hy : y ≠ 0 := by have := h.2; unfold runF at this; rw [hF] at this; simpa using this
      rw [hF] at hz
      simp at hz
      subst hz
      omega
  · exact hg a z hz

/-- the state behind a record may be -/
theorem app_check {ex : Bool} {at' : Int} {L : List Tmd} {kind : Int} {S : List Str} {n : Nat} {now mem last : Int} (hv : verdict (pcheck ex at' L) kind n now mem last = 0) {K : List Str} (hK : KeysOf' (inF kind ex at' (rd L) S (now + mem)) K) (h60 : K.length ≤ 60)
    {R : List Str} {L' : List Tmd} (hA : Asc (soonF (inF kind ex at' (rd L) S (now + mem)) R (now + last)) L') :
    pcheck (inEx kind ex) (if inG kind ex then min (inAt kind at' (now + mem)) (now + last) else inAt kind at' (now + mem)) L' = true := by
  obtain ⟨hp, h1, h2, h3, h4, h5, h6, h7, h8, h9⟩ := verdict_ok hv
  obtain ⟨p1, p2, p3, p4, p5⟩ := pcheck_iff.1 hp
  have hg := pcheck_good hp
  have hk : L'.map Prod.fst = K := keys_unique hA.1 ⟨hK.1, fun a => by rw [hK.2, Ne, Ne, soonF_keys]⟩
  have hl : L'.length ≤ 60 := by have := congrArg List.length hk; rw [List.length_map] at this; omega
  refine pcheck_mk hA hl ?_ ?_ (good_soon (by omega) (good_in (by omega) h8 h9 p2 p3 hg))
  · rcases kind_six h8 h9 with rfl | rfl | rfl | rfl | rfl | rfl <;> simp [inAt, inG] <;> first | omega | (split <;> omega)
  · rcases kind_six h8 h9 with rfl | rfl | rfl | rfl | rfl | rfl <;> simp [inAt, inG, inEx] <;> first | omega | exact p3 | skip
    cases ex
    · simp at p3 ⊢; omega
    · simp at p3 ⊢; omega

/-- by time -/
theorem exp_check {ex : Bool} {at' : Int} {L L' : List Tmd} {now : Int} (hp : pcheck ex at' L = true) (hA : Asc (exF (ex && decide (now < at')) now (rd L)) L') (hl : L'.length ≤ L.length) :
    pcheck (ex && decide (now < at')) (if (ex && decide (now < at')) then at' else 0) L' = true := by
  obtain ⟨p1, p2, p3, p4, p5⟩ := pcheck_iff.1 hp
  have hg := pcheck_good hp
  obtain ⟨e2, he2⟩ : ∃ e2, e2 = (ex && decide (now < at')) := ⟨_, rfl⟩
  rw [← he2] at hA ⊢
  refine pcheck_mk hA (by omega) ?_ ?_ (fun a z hz => ?_)
  · split <;> omega
  · cases e2
    · simp
    · have : ex = true := by
        cases ex
        · simp at he2
        · rfl
      simp [p3.1 this]
  · unfold exF at hz
    cases hF : rd L a with
    | none => rw [hF] at hz; cases hz
    | some y =>
      rw [hF] at hz
      have := hg a y hF
      simp only at hz
      split at hz
      · injection hz with hz
        subst hz
        refine ⟨this.1, fun h => ?_⟩
        cases ex
        · exact this.2 rfl
        · rename_i hn
          rw [he2] at h
          simp at h
          have := this.1
          have := p3.1 rfl
          omega
      · split at hz
        · rename_i h; injection hz with hz; subst hz; exact ⟨by omega, fun h' => by rw [h] at h'; cases h'⟩
        · cases hz

theorem exF_twice {e : Bool} {now : Int} {F : Str → Option Int} : exF e now (exF e now F) = exF e now F := by
  funext a
  unfold exF
  cases F a with
  | none => rfl
  | some z =>
    by_cases h : now < z
    · simp [h]
    · cases e
      · simp [h]
      · by_cases h0 : now < 0 <;> simp [h, h0]
end Go.Proofs.Ytfloipdkhmgibaa
