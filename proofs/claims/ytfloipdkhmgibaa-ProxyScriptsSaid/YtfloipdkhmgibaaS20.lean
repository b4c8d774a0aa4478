/- Texts joined into one file: PPx, PDefs, PIter. -/
import Derived.Test.YtfloipdkhmgibaaS19
import Derived.Test.YtfloipdkhmgibaaS04
import Derived.RangeFuncSeq
import Derived.RangeFuncWrites
import Derived.Sort.MapsRangeIn
import Derived.RegionIn

/- A proxy in memory ('Px'): what keeps it, what turns it. -/
namespace Go.Proofs.Ytfloipdkhmgibaa
open Go.RowKit Go.Lib Go.Sort
set_option maxRecDepth 20000
set_option maxRecDepth 20000

theorem Strs.kept_map {P : Program} {T : TypeId} {κ : Type} {K : KeyEnc P T κ} {w w' : World} {b n : Nat} {V : κ → Option Value} {v : Value} {L : List Str} (h : Strs w v L) (hm : VMap K w b n V) (hg : w.grownBy w' (some b)) : Strs w' v L := by
  refine h.grown' hg (fun hL e => ?_)
  obtain ⟨_, D, ⟨es, clock, hb, _⟩, _⟩ := hm
  obtain ⟨ao, cap, c, off, rfl, h0, _, _, h3⟩ := h
  rcases h0 with h0 | rfl
  · exact hL h0
  · obtain ⟨_, q⟩ := h3 0 (List.length_pos_iff.2 hL)
    simp [Value.ownBlock] at e
    subst e
    simp [World.cell?, hb] at q

theorem Px.below {w w' : World} {p b n : Nat} {room : Int} {G : Int × Str → Option (Bool × List Str)} (h : Px w p b n room G) (hb : Below w.heap.size w w') : Px w' p b n room G := by
  obtain ⟨h1, V, h2, h3⟩ := h
  refine ⟨h1.below hb h1.lt, V, h2.below hb h2.lt, fun k => ?_⟩
  have := h3 k
  cases hG : G k
  · rw [hG] at this; exact this
  · rw [hG] at this
    obtain ⟨v, e, hs⟩ := this
    exact ⟨v, e, hs.mono hb⟩
theorem Px.lt {w : World} {p b n : Nat} {room : Int} {G : Int × Str → Option (Bool × List Str)} (h : Px w p b n room G) : p < w.heap.size ∧ b < w.heap.size ∧ p ≠ b := by
  obtain ⟨h1, V, h2, h3⟩ := h
  refine ⟨h1.lt, h2.lt, fun e => ?_⟩
  subst e
  obtain ⟨_, D, ⟨es, clock, hb, _⟩, _⟩ := h2
  have h1' : w.heap[p]? = some (.cells _ _ (0, 0)) := h1
  rw [hb] at h1'
  cases h1'

/-- the map turned, nothing else: what G tells becomes G' where V' tells it -/
theorem Px.turned {w w' : World} {p b n m : Nat} {room : Int} {G' : Int × Str → Option (Bool × List Str)} {V V' : Int × Str → Option Value} (h1 : CBox w p 73 #[.int .i64 room, .map (some b)]) (h2 : VMap KP w b n V) (hne : p ≠ b) (hg : w.grownBy w' (some b)) (h2' : VMap KP w' b m V')
    (h3 : ∀ k, match G' k with | none => V' k = none | some f => ∃ v, V' k = some (.agg #[.bool f.1, v]) ∧ Strs w v f.2) : Px w' p b m room G' := by
  refine ⟨h1.grown hg (fun e => hne (by injection e)), V', h2', fun k => ?_⟩
  have := h3 k
  cases hG : G' k
  · rw [hG] at this; exact this
  · rw [hG] at this
    obtain ⟨v, e, hs⟩ := this
    exact ⟨v, e, hs.kept_map h2 hg⟩
end Go.Proofs.Ytfloipdkhmgibaa

/- What cells keep: 'CKeep'; what a proxy tells: 'ptell'. -/
namespace Go.Proofs.Ytfloipdkhmgibaa
open Go.RowKit Go.Lib Go.Sort
set_option maxRecDepth 20000

/-- whatever was cells is as it was -/
def CKeep (w w' : World) : Prop := w.heap.size ≤ w'.heap.size ∧ ∀ (j : Nat) (cs : Array Value) (T : TypeId) (fr : Nat × Nat), w.heap[j]? = some (.cells cs T fr) → w'.heap[j]? = some (.cells cs T fr)
theorem CKeep.refl (w : World) : CKeep w w := ⟨Nat.le_refl _, fun _ _ _ _ h => h⟩
theorem CKeep.trans {a b c : World} (h : CKeep a b) (k : CKeep b c) : CKeep a c := ⟨Nat.le_trans h.1 k.1, fun j cs T fr e => k.2 j cs T fr (h.2 j cs T fr e)⟩
theorem CKeep.of_below {w w' : World} (h : Below w.heap.size w w') : CKeep w w' := ⟨h.size, fun j _ _ _ e => (h.block j (Array.getElem?_eq_some_iff.1 e).1).trans e⟩
theorem CKeep.of_map {P : Program} {T : TypeId} {κ : Type} {K : KeyEnc P T κ} {w w' : World} {b n : Nat} {V : κ → Option Value} (hm : VMap K w b n V) (hg : w.grownBy w' (some b)) : CKeep w w' := by
  refine ⟨hg.size, fun j cs T fr e => (hg.block j (Array.getElem?_eq_some_iff.1 e).1 (fun e' => ?_)).trans e⟩
  injection e' with e'
  subst e'
  obtain ⟨_, D, ⟨es, clock, hb, _⟩, _⟩ := hm
  rw [hb] at e
  cases e
theorem CKeep.cell {w w' : World} (h : CKeep w w') {p : Addr} {v : Value} (hc : w.cell? p = some v) : w'.cell? p = some v := by
  unfold World.cell? at hc ⊢
  cases ho : w.heap[p.block]? with
  | none => rw [ho] at hc; cases hc
  | some o =>
    rw [ho] at hc
    cases o <;> simp at hc
    rw [h.2 _ _ _ _ ho]
    simpa using hc
theorem CKeep.box {w w' : World} (h : CKeep w w') {b : Nat} {T : TypeId} {cs : Array Value} (hb : CBox w b T cs) : CBox w' b T cs := h.2 _ _ _ _ hb
theorem CKeep.strs {w w' : World} (h : CKeep w w') {v : Value} {L : List Str} (hs : Strs w v L) : Strs w' v L := by
  obtain ⟨ao, cap, b, off, rfl, h0, h1, h2, h3⟩ := hs
  exact ⟨ao, cap, b, off, rfl, h0, h1, h2, fun k hk => by obtain ⟨hlt, hc⟩ := h3 k hk; exact ⟨Nat.lt_of_lt_of_le hlt h.1, h.cell hc⟩⟩

/-- a group of a VLAN, and what is told of it -/
abbrev Told := Int × Str → Option (Bool × List Str)
def TKeys (G : Told) (L : List (Int × Str)) : Prop := L.Nodup ∧ ∀ k, k ∈ L ↔ G k ≠ none
def updT (G : Told) (k : Int × Str) (f : Bool × List Str) : Told := fun x => if x = k then some f else G x
def delT (G : Told) (k : Int × Str) : Told := fun x => if x = k then none else G x
def oldT (G : Told) (k : Int × Str) : Bool × List Str := (G k).getD (false, [])

theorem TKeys.len {G : Told} {L M : List (Int × Str)} (h : TKeys G L) (h' : TKeys G M) : L.length = M.length :=
  ((List.perm_ext_iff_of_nodup h.1 h'.1).2 fun k => (h.2 k).trans (h'.2 k).symm).length_eq

/-- what is held of a proxy's map -/
def Holds' (w : World) (G : Told) (V : Int × Str → Option Value) : Prop := ∀ k, match G k with | none => V k = none | some f => ∃ v, V k = some (.agg #[.bool f.1, v]) ∧ Strs w v f.2

theorem Holds'.keep {w w' : World} {G : Told} {V : Int × Str → Option Value} (h : Holds' w G V) (hk : CKeep w w') : Holds' w' G V := fun k => by
  have := h k
  cases hG : G k
  · rw [hG] at this; exact this
  · rw [hG] at this
    obtain ⟨v, e, hs⟩ := this
    exact ⟨v, e, hk.strs hs⟩
theorem Holds'.keys {w : World} {G : Told} {V : Int × Str → Option Value} (h : Holds' w G V) {L : List (Int × Str)} (hL : KeysV V L) : TKeys G L := ⟨hL.1, fun k => (hL.2 k).trans (by
  have := h k
  cases hG : G k
  · rw [hG] at this; simp [this]
  · rw [hG] at this; obtain ⟨v, e, _⟩ := this; simp [e])⟩
theorem Holds'.at_ {w : World} {G : Told} {V : Int × Str → Option Value} (h : Holds' w G V) (k : Int × Str) : ∃ v, (V k).getD (.agg #[.bool false, .slice none 0 0]) = .agg #[.bool (oldT G k).1, v] ∧ Strs w v (oldT G k).2 ∧ (V k).isSome = (G k).isSome := by
  have := h k
  unfold oldT
  cases hG : G k
  · rw [hG] at this
    dsimp only at this
    rw [this]
    exact ⟨_, rfl, Strs.nil _, rfl⟩
  · rw [hG] at this
    obtain ⟨v, e, hs⟩ := this
    rw [e]
    exact ⟨v, rfl, hs, rfl⟩
theorem Holds'.del {w : World} {G : Told} {V : Int × Str → Option Value} (h : Holds' w G V) (k : Int × Str) : Holds' w (delT G k) (delV V k) := fun x => by
  have := h x
  unfold delT delV
  by_cases e : x = k
  · simp [e]
  · simp only [if_neg e]; exact this
theorem Holds'.upd {w : World} {G : Told} {V : Int × Str → Option Value} (h : Holds' w G V) (k : Int × Str) (f : Bool × List Str) (v : Value) (hs : Strs w v f.2) : Holds' w (updT G k f) (updV V k (.agg #[.bool f.1, v])) := fun x => by
  have := h x
  unfold updT updV
  by_cases e : x = k
  · simp only [if_pos e]; exact ⟨v, rfl, hs⟩
  · simp only [if_neg e]; exact this

/-- each filter that is told is small -/
def SmallT (G : Told) : Prop := ∀ k f, G k = some f → f.2.length ≤ 60
theorem SmallT.old {G : Told} (h : SmallT G) (k : Int × Str) : (oldT G k).2.length ≤ 60 := by
  unfold oldT
  cases hG : G k
  · simp
  · exact h k _ hG
theorem SmallT.del {G : Told} (h : SmallT G) (k : Int × Str) : SmallT (delT G k) := fun x f e => by
  unfold delT at e
  split at e
  · cases e
  · exact h x f e
theorem SmallT.upd {G : Told} (h : SmallT G) (k : Int × Str) (f : Bool × List Str) (hf : f.2.length ≤ 60) : SmallT (updT G k f) := fun x g e => by
  unfold updT at e
  split at e
  · injection e with e; subst e; exact hf
  · exact h x g e

/-- Tell of a good group: what it answers, and what is told behind it -/
def ptell (room : Int) (c : Nat) (G : Told) (k : Int × Str) (f : Bool × List Str) : List Rec × Int × Told :=
  if (!f.1 && decide (f.2 = [])) = true then (pdiff k.2 (oldT G k).1 (oldT G k).2 f.1 f.2, 0, delT G k)
  else if (G k).isSome = false ∧ room ≤ c then ([], 5, G)
  else (pdiff k.2 (oldT G k).1 (oldT G k).2 f.1 f.2, 0, updT G k f)



theorem Px.parts {w : World} {p b n : Nat} {room : Int} {G : Told} (h : Px w p b n room G) : CBox w p 73 #[.int .i64 room, .map (some b)] ∧ ∃ V, VMap KP w b n V ∧ Holds' w G V := h
theorem Px.of {w : World} {p b n : Nat} {room : Int} {G : Told} {V : Int × Str → Option Value} (h : CBox w p 73 #[.int .i64 room, .map (some b)]) (h2 : VMap KP w b n V) (h3 : Holds' w G V) : Px w p b n room G := ⟨h, V, h2, h3⟩
end Go.Proofs.Ytfloipdkhmgibaa

/- maps.Keys over a proxy's map: each key once, in some order. -/
namespace Go.Proofs.Ytfloipdkhmgibaa
open Go.RowKit Go.Lib Go.Maps Go.Sort Go.Shelf
set_option maxRecDepth 20000
attribute [local go_sem] Oper.semAt_some

def CollK {H : Type} (D0 : DataW H) (left : Lit → Bool) (ss : List (Int × Str)) : Prop := ss.Nodup ∧ ∀ x, x ∈ ss ↔ (okK x ∧ has D0 (litK x) = true ∧ left (litK x) = false)

theorem CollK.start {H : Type} (D0 : DataW H) : CollK D0 (has D0) [] := ⟨List.nodup_nil, fun x => by cases has D0 (litK x) <;> simp⟩
theorem CollK.step {H : Type} {D0 : DataW H} {left : Lit → Bool} {ss : List (Int × Str)} (h : CollK D0 left ss) {x : Int × Str} (hx : okK x) {y : DataW H} (hlk : left (litK x) = true) (hat : ∀ zd, D0.atKey (litK x) zd = y) : CollK D0 (fun z => left z && !z.sameKey (litK x)) (ss ++ [x]) := by
  have hhas : has D0 (litK x) = true := has_true_of_atKey hat
  refine ⟨?_, fun z => ?_⟩
  · rw [List.nodup_append]
    refine ⟨h.1, by simp, fun a ha b hb e => ?_⟩
    simp only [List.mem_singleton] at hb
    subst hb
    subst e
    have := ((h.2 a).1 ha).2.2
    rw [hlk] at this
    cases this
  · rw [List.mem_append, List.mem_singleton, h.2 z]
    by_cases e : z = x
    · subst e
      have : (litK z).sameKey (litK z) = true := WideAt.sameKey_self (KP.isKey hx)
      simp [hx, hhas, this]
    · constructor
      · rintro (⟨a, b, c⟩ | c)
        · exact ⟨a, b, by simp [c]⟩
        · exact absurd c e
      · rintro ⟨a, b, c⟩
        refine .inl ⟨a, b, ?_⟩
        have c' : (left (litK z) && !(litK z).sameKey (litK x)) = false := c
        rw [show (litK z).sameKey (litK x) = false from Maps.sameKey_ne (fun h => e (KP.lit_inj a hx h))] at c'
        simpa using c'
theorem CollK.keys {w : World} {b n : Nat} {V : Int × Str → Option Value} {D : DataW Value} {left : Lit → Bool} {ss : List (Int × Str)} (h : CollK D left ss) (hl : ∀ kl, left kl = false) (hown : w.ownsMap Try.prog 78 heldR b n D) (h0 : ∀ x, V x ≠ none → okK x) (e : ∀ x, okK x → lookV D (litK x) = V x) : KeysV V ss :=
  ⟨h.1, fun x => by
    rw [h.2 x]
    have hq : has D (litK x) = (lookV D (litK x)).isSome := lookV_has hown KP
    constructor
    · rintro ⟨a, b, _⟩ hn
      rw [e x a, hn, b] at hq
      cases hq
    · intro hx
      have a := h0 x hx
      rw [e x a] at hq
      refine ⟨a, ?_, hl _⟩
      rw [hq]
      cases hv : V x
      · exact absurd hv hx
      · rfl⟩

set_option maxRecDepth 100000 in
set_option maxHeartbeats 2000000 in
theorem pkeys_stops (n : Nat) (hn : 1 ≤ n) (Bm b N : Nat) (V : Int × Str → Option Value) (w : World) (hBm : Bm < w.heap.size) (hm : w.cell? ⟨Bm, 0, none⟩ = some (.map (some b))) (h : VMap KP w b N V) :
    SeqStopsK Fence.wide n Try.prog 76 #[.pointer (some ⟨Bm, 0, none⟩)] (fun x : Int × Str => #[encK x]) KeepsWalks (fun ss => KeysV V ss) (fun _ => True) N w := fun l J Jx W hW hJ _ hY h0 => by
  have hm' := (hW.cell (p := ⟨Bm, 0, none⟩) hBm).trans hm
  obtain ⟨hv0, D0, hown, he⟩ := h.below hW h.lt
  have hsz := hown.size_le
  clear hm h
  refine callsIn_of_wp Try.func76 rfl trivial ?_ rfl
  simp only [Try.ntmps76, List.size_toArray, List.length_cons, List.length_nil, Nat.reduceAdd, Nat.reduceSub, Array.replicate_succ, Array.replicate_zero, List.push_toArray, List.append_toArray, List.nil_append, List.cons_append]
  gi_wp2_with (first
    | (gi_at_range; refine wpListIn_range_own _ rfl _ 71 rfl 78 28 pk_law Try.underlying71 _ b N _ rfl hown ?_; intro w0 hrg0 hg0 hs0)
    | gi_in)
  try go_frame
  gi_loopw [3] (fun _ wr => ∃ (left : Lit → Bool) (cnt : Nat) (ss : List (Int × Str)), wr.ranges Try.prog 78 heldR b W.heap.size N D0 left cnt ∧ ss.length + cnt ≤ Maps.size D0 ∧ CollK D0 left ss ∧ J ss wr)
    (fun _ wr => wr.rangeLeft b W.heap.size)
  case atStart =>
    exact ⟨_, _, [], hrg0, by simp, CollK.start D0, hJ [] W w0 none h0 hg0 (fun r e => by cases e)⟩
  case round =>
    obtain ⟨left, cnt, ss, hrg, hcs, hC, hJs⟩ := hrel
    gi_wp2_with (first
      | (gi_at_next; refine wpListIn_next_ranges _ rfl _ rfl 78 pk_law heldR encK id (fun key kl hk => by obtain ⟨x, _, hx⟩ := pk_all key kl hk; exact ⟨x, hx⟩) (fun v _ _ => ⟨v, rfl⟩) b W.heap.size N _ _ _ rfl hrg ?_ ?_)
      | gi_in)
    · intro hc0 hl0
      gi_wp2
      go_end0
      exact ⟨⟨_, rfl⟩, .inl ⟨ss, hC.keys hl0 hown hv0 he, hJs⟩⟩
    · intro xv xg c kl yd yp w2 cnt2 hkey hlk hv hat hrg2 hlt hg2 hs2 hen
      obtain ⟨x', hxo, ex⟩ := pk_all _ _ hkey
      obtain rfl := pk_inj _ _ ex
      rw [pk_reads (xv, xg) hxo] at hkey
      injection hkey with hkey
      subst hkey
      have hen' : (Instr.entry (.pointer (some ⟨W.heap.size, 0, none⟩))).run Try.prog w2 = .ok (.tuple #[.agg #[.int .i64 xv, .string (bstr xg)], c]) w2 := hen
      have hJ2 : J ss (w2.alloc (.cells #[.int .i64 xv, .string (bstr xg)] 78)) := hJ ss w2 _ none (hJ ss wr w2 (some W.heap.size) hJs hg2 (fun r e => by cases e; exact ⟨Nat.le_refl _, hrg.iter_walk⟩)) (World.grownBy_alloc _ _ _) (fun r e => by cases e)
      have hrg2' := hrg2.alloc (.cells #[.int .i64 xv, .string (bstr xg)] 78)
      obtain ⟨fn, tmps, assign, body, hy, hR⟩ := hY ss (xv, xg) _ hJ2 (by omega)
      have hR' := hR
      dsimp only [encK] at hy
      clear hs2 hen hR
      gi_wp2
      refine hR'.mono ?_
      have hC2 := hC.step hxo hlk hat
      rintro e W3 (⟨rfl, hJ3, hk3⟩ | ⟨rfl, hJx3⟩)
      · gi_wp2
        have hrg3 := hrg2'.of_walks hk3
        go_roundw
        case rel => exact ⟨_, cnt2, ss ++ [(xv, xg)], hrg3, by simp; omega, hC2, hJ3⟩
        case measure => rw [hrg3.left_eq, hrg.left_eq]; exact hlt
      · gi_wp2
        refine bodyPost_ret (results_none rfl _ _ _) rfl ?_
        exact ⟨⟨_, rfl⟩, .inr ⟨ss ++ [(xv, xg)], trivial, hJx3⟩⟩
end Go.Proofs.Ytfloipdkhmgibaa
