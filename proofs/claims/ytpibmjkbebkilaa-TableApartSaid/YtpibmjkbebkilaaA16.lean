/- Texts joined into one file: GOpen, VMap, TKey. -/
import Derived.Test.YtpibmjkbebkilaaA04
import Derived.ProofKit
import Derived.OpenShut
import Derived.SizedLaws
import Derived.Lib.SmallJoins
import Derived.Deep.SlicePairs
import Derived.Test.YtpibmjkbebkilaaA01
import Derived.Maps.OwnSet
import Derived.Maps.OwnOps
import Derived.Maps.RangeWalk
import Derived.Sort.KeysCollected
import Derived.Test.YtpibmjkbebkilaaA05
import Derived.DeepKeys4

/- Opening what came in: states, records, cases. -/
namespace Go.Proofs.Ytpibmjkbebkilaa
open Go.ChangeShapes Go.WideShapes Go.ChangeAt Go.RowKit Go.Joins Go.Deep
set_option maxRecDepth 20000

set_option maxRecDepth 100000

theorem bytesAd : Try.prog.bytesOf 32 = 16 := by kernel_rfl
theorem cellsAd : Try.prog.cellsOf 32 = 1 := by kernel_rfl

/-- a slice of strings that came in -/
theorem open_Strs {H : Type} {enc : TypeId × Value → H} {w : World} {base : Nat} {spare : Nat → Bool} {held : Bool} {fuel : Nat} {cs : List Value} {x : DataW H × List MemPlace}
    (h : DataW.trod enc Try.prog w base spare held fuel 33 cs = some x) (hsz : (DataW.weights Try.prog 33 x.1).all (· ≤ reachBytes) = true) : ∃ v L, cs = [v] ∧ Strs w v L := by
  rcases open_strings Try.underlying33 Try.underlying32 cellsAd h with ⟨rfl, _⟩ | ⟨a, len, cap, ss, rfl, _, hl, hm, hz, rfl, hc, hwf⟩
  · exact ⟨_, [], rfl, Strs.nil w⟩
  · have hle : len ≤ ss.length := by rw [hz]; split <;> omega
    have hb : len ≤ 8796093022208 := by
      simp only [DataW.weights, Try.underlying33, List.all_cons, Bool.and_eq_true, bytesAd, reachBytes] at hsz
      have := hsz.1
      simp [strs] at this
      omega
    have hlen : ((ss.take len).map fun s => s.data.toList).length = len := by simp; omega
    refine ⟨_, (ss.take len).map (fun s => s.data.toList), rfl, some a, cap, a.block, a.off, by rw [hlen], ?_, by rw [hlen]; omega, ?_, fun k hk => ?_⟩
    · by_cases h0 : (ss.take len).map (fun s => s.data.toList) = []
      · exact .inl h0
      · refine .inr ?_
        have h1 : 0 < ss.length := by
          cases ss with
          | nil => simp at h0
          | cons _ _ => simp
        have := hc 0 h1
        obtain ⟨b, off, spot⟩ := a
        cases spot with
        | none => rfl
        | some s => simp [Addr.add, World.cell?] at this; split at this <;> simp at this
    · intro x hx
      obtain ⟨s, hs, rfl⟩ := List.mem_map.1 hx
      exact hwf s (List.mem_of_mem_take hs)
    · rw [hlen] at hk
      have hk' := hc k (by omega)
      have e : (a.add k) = ⟨a.block, a.off + k, none⟩ := by
        obtain ⟨b, off, spot⟩ := a
        unfold Addr.add
        split
        · subst_vars
          cases spot with
          | none => rfl
          | some s => simp [Addr.add, World.cell?] at hk'; split at hk' <;> simp at hk'
        · rfl
      rw [e] at hk'
      refine ⟨World.block_lt_of_cell? w ⟨a.block, a.off + k, none⟩ hk', ?_⟩
      rw [hk']
      have hks : k < ss.length := by omega
      simp [List.getD_eq_getElem?_getD, hks, hk, encStr]

theorem weights_part {H : Type} {P : Program} {t : TypeId} {fs : Array Field} {parts : List (DataW H)} (hs : P.underlying t = some (.struct fs)) (h : (DataW.weights P t (.agg parts)).all (· ≤ reachBytes) = true)
    (j : Nat) (f : Field) (d : DataW H) (hf : fs[j]? = some f) (hd : parts[j]? = some d) : (DataW.weights P f.type d).all (· ≤ reachBytes) = true := by
  simp only [DataW.weights, hs] at h
  exact List.all_eq_true.2 (fun n hn => List.all_eq_true.1 h n (DataW.weights_mem_each (j := j) (t := f.type) (by simp; exact ⟨f, by simpa using hf, rfl⟩) hd n hn))

theorem weights_arg {H : Type} {P : Program} {ts : List TypeId} {ds : List (DataW H)} (h : (DataW.weightsEach P ts ds).all (· ≤ reachBytes) = true) (j : Nat) (t : TypeId) (d : DataW H) (ht : ts[j]? = some t) (hd : ds[j]? = some d) :
    (DataW.weights P t d).all (· ≤ reachBytes) = true :=
  List.all_eq_true.2 (fun n hn => List.all_eq_true.1 h n (DataW.weights_mem_each ht hd n hn))

theorem bytesTm : Try.prog.bytesOf 88 = 24 := by kernel_rfl
theorem cellsTm : Try.prog.cellsOf 88 = 2 := by kernel_rfl
theorem cellsIt : Try.prog.cellsOf 3 = 1 := by kernel_rfl

section
variable {H : Type} {enc : TypeId × Value → H} {w : World} {base : Nat} {spare : Nat → Bool} {held : Bool} {fuel : Nat} {cs : List Value} {x : DataW H × List MemPlace}

/-- a slice of sources with times that came in -/
theorem open_Tms (h : DataW.trod enc Try.prog w base spare held fuel 50 cs = some x) (hsz : (DataW.weights Try.prog 50 x.1).all (· ≤ reachBytes) = true) : ∃ v L, cs = [v] ∧ Tms w v L := by
  rcases open_slice_pairs Try.underlying50 Try.underlying88 cellsTm rfl rfl cellsAd cellsIt h with ⟨rfl, _⟩ | ⟨a, len, cap, m, n, V0, V1, D0, D1, P0, P1, rfl, hb, hl, hm, hmm, rfl, hx⟩
  · exact ⟨_, [], rfl, Tms.nil w⟩
  · have hlm : len ≤ m := by rw [hmm]; split <;> omega
    have hbd : len ≤ 5864062014634 := by
      simp only [DataW.weights, Try.underlying50, List.all_cons, Bool.and_eq_true, bytesTm, reachBytes] at hsz
      have := hsz.1
      simp at this
      omega
    have each : ∀ i, i < len → ∃ q : Str × Int, w.cell? (a.add (i * 2)) = some (.string (bstr q.1)) ∧ w.cell? (a.add (i * 2 + 1)) = some (.int .i64 q.2) ∧ q.1.length ≤ maxLen ∧ (Lit.int .i64 q.2).wf = true := by
      intro i hi
      obtain ⟨c0, c1, t0, t1⟩ := hx i (by omega)
      obtain ⟨s, e0, _, hs⟩ := DataW.trod_string Try.underlying32 t0
      obtain ⟨z, e1, _, hz⟩ := DataW.trod_int Try.underlying3 t1
      simp only [List.cons.injEq, and_true] at e0 e1
      refine ⟨(s.data.toList, z), ?_, ?_, hs, hz⟩
      · rw [c0, e0, ← bstr_of]
      · rw [c1, e1]
    obtain ⟨q, hq⟩ := choose_lt each
    obtain ⟨b, off, spot⟩ := a
    have hll : ((List.range len).map q).length = len := by simp
    by_cases h0 : len = 0
    · subst h0
      exact ⟨_, [], rfl, some ⟨b, off, spot⟩, cap, b, off, rfl, .inl rfl, by simp, by simp, fun k hk => by simp at hk⟩
    · have hsp : spot = none := by
        cases spot with
        | none => rfl
        | some s =>
          exfalso
          have := (hq 0 (by omega)).1
          simp [Addr.add, World.cell?] at this
          try (split at this <;> simp at this)
          try omega
      subst hsp
      refine ⟨_, (List.range len).map q, rfl, some ⟨b, off, none⟩, cap, b, off, by rw [hll], .inr rfl, by rw [hll]; exact hbd, fun t ht => ?_, fun k hk => ?_⟩
      · obtain ⟨i, hi, rfl⟩ := List.mem_map.1 ht
        exact (hq i (List.mem_range.1 hi)).2.2
      · rw [hll] at hk
        obtain ⟨h1, h2, _⟩ := hq k hk
        rw [add_lit] at h1 h2
        have eg : ((List.range len).map q).getD k default = q k := by simp [List.getD_eq_getElem?_getD, hk]
        rw [eg]
        exact ⟨World.block_lt_of_cell? w ⟨b, off + k * 2, none⟩ h1, h1, by rw [show off + k * 2 + 1 = off + (k * 2 + 1) from by omega]; exact h2⟩

theorem open_stateC (h : DataW.trod enc Try.prog w base spare held fuel 52 cs = some x) (hsz : (DataW.weights Try.prog 52 x.1).all (· ≤ reachBytes) = true) :
    ∃ ex at' v L, cs = [.bool ex, .int .i64 at', v] ∧ Tms w v L ∧ (Lit.int .i64 at').wf = true := by
  obtain ⟨xs, n, _, rfl, hcl, hlen, hf⟩ := DataW.trod_struct Try.underlying52 h
  match xs, hlen with
  | [y0, y1, y2], _ =>
    have hc3 : cs.length = 3 := hcl.trans (by kernel_rfl)
    match cs, hc3 with
    | [c0, c1, c2], _ =>
      have g0 := hf 0 _ rfl
      have g1 := hf 1 _ rfl
      have g2 := hf 2 _ rfl
      have k0 : Try.prog.cellsOf 4 = 1 := by kernel_rfl
      have k2 : Try.prog.cellsOf 50 = 1 := by kernel_rfl
      simp [cellsIt, k0, k2] at g0 g1 g2
      obtain ⟨e, e0, _⟩ := DataW.trod_bool Try.underlying4 g0
      obtain ⟨a, e1, _, wa⟩ := DataW.trod_int Try.underlying3 g1
      obtain ⟨v, L, e2, hT⟩ := open_Tms g2 (weights_part Try.underlying52 hsz 2 _ _ rfl rfl)
      simp only [List.cons.injEq, and_true] at e0 e1 e2
      subst e0 e1 e2
      exact ⟨e, a, _, L, rfl, hT, wa⟩

theorem open_recC (h : DataW.trod enc Try.prog w base spare held fuel 35 cs = some x) (hsz : (DataW.weights Try.prog 35 x.1).all (· ≤ reachBytes) = true) :
    ∃ kind g v L, cs = [.int .i64 kind, .string g, v] ∧ Strs w v L := by
  obtain ⟨xs, n, _, rfl, hcl, hlen, hf⟩ := DataW.trod_struct Try.underlying35 h
  match xs, hlen with
  | [y0, y1, y2], _ =>
    have hc3 : cs.length = 3 := hcl.trans (by kernel_rfl)
    match cs, hc3 with
    | [c0, c1, c2], _ =>
      have g0 := hf 0 _ rfl
      have g1 := hf 1 _ rfl
      have g2 := hf 2 _ rfl
      have k2 : Try.prog.cellsOf 33 = 1 := by kernel_rfl
      simp [cellsIt, cellsAd, k2] at g0 g1 g2
      obtain ⟨k, e0, _, _⟩ := DataW.trod_int Try.underlying3 g0
      obtain ⟨s, e1, _, _⟩ := DataW.trod_string Try.underlying32 g1
      obtain ⟨v, L, e2, hT⟩ := open_Strs g2 (weights_part Try.underlying35 hsz 2 _ _ rfl rfl)
      simp only [List.cons.injEq, and_true] at e0 e1 e2
      subst e0 e1 e2
      exact ⟨k, s, _, L, rfl, hT⟩

theorem open_timesC (h : DataW.trod enc Try.prog w base spare held fuel 23 cs = some x) :
    ∃ mem last, cs = [.int .i64 mem, .int .i64 last] := by
  obtain ⟨xs, n, _, rfl, hcl, hlen, hf⟩ := DataW.trod_struct Try.underlying23 h
  match xs, hlen with
  | [y0, y1], _ =>
    have hc3 : cs.length = 2 := hcl.trans (by kernel_rfl)
    match cs, hc3 with
    | [c0, c1], _ =>
      have g0 := hf 0 _ rfl
      have g1 := hf 1 _ rfl
      simp [cellsIt] at g0 g1
      obtain ⟨k, e0, _, _⟩ := DataW.trod_int Try.underlying3 g0
      obtain ⟨l, e1, _, _⟩ := DataW.trod_int Try.underlying3 g1
      simp only [List.cons.injEq, and_true] at e0 e1
      subst e0 e1
      exact ⟨k, l, rfl⟩

end

theorem open_state {H : Type} {enc : TypeId × Value → H} {w : World} {base : Nat} {spare : Nat → Bool} {held : Bool} {r : Reach} {b0 : Nat} {v : Value} {d : DataW H} {p : List MemPlace}
    (hv : Value.okWide Try.prog w r b0 52 v) (h : DataW.Trod enc Try.prog w base spare held 52 v d p) (hsz : (DataW.weights Try.prog 52 d).all (· ≤ reachBytes) = true) :
    ∃ ex at' u L, v = .agg #[.bool ex, .int .i64 at', u] ∧ Tms w u L ∧ (Lit.int .i64 at').wf = true := by
  obtain ⟨cs, rfl, _⟩ := okWide_struct Try.underlying52 hv
  obtain ⟨fuel, hf⟩ := h
  obtain ⟨ex, at', u, L, e, hT, wa⟩ := open_stateC hf hsz
  refine ⟨ex, at', u, L, ?_, hT, wa⟩
  have : cs.toList = [.bool ex, .int .i64 at', u] := e
  congr 1
  exact Array.toList_inj.1 this

end Go.Proofs.Ytpibmjkbebkilaa

/- A map in memory, whatever its keys and its elements ('VMap'): what it tells is a plain function of its keys. -/
namespace Go.Proofs.Ytpibmjkbebkilaa
open Go.RowKit Go.Lib
set_option maxRecDepth 20000
open Go.Maps (Keyed has IsMap has_put_same has_put_other has_del_same has_del_other atKey_put_same atKey_put_other atKey_del_same atKey_del_other atKey_of_not_has has_true_of_atKey)

/-- how the keys of type T are spelt: κ is what they are in plain words -/
structure KeyEnc (P : Program) (T : TypeId) (κ : Type) where
  enc : κ → Value
  ok : κ → Prop
  lit : κ → Lit
  reads : ∀ x, ok x → keyOf P T (enc x) = some (lit x)
  all : ∀ v l, keyOf P T v = some l → ∃ x, ok x ∧ v = enc x
  inj : ∀ x y, enc x = enc y → x = y
  law : Keyed P T

/-- every element is held as it is -/
def heldR (v : Value) : Option (DataW Value × List MemPlace) := some (.held v, [])
def lookV (D : DataW Value) (l : Lit) : Option Value := if has D l then (match D.atKey l .nil with | .held v => some v | _ => none) else none

section
variable {P : Program} {T : TypeId} {κ : Type}

theorem KeyEnc.lit_inj (K : KeyEnc P T κ) {x y : κ} (hx : K.ok x) (hy : K.ok y) (h : K.lit x = K.lit y) : x = y :=
  K.inj x y (K.law.inj (K.reads x hx) (by rw [h]; exact K.reads y hy))
theorem KeyEnc.isKey (K : KeyEnc P T κ) {x : κ} (hx : K.ok x) : WideAt.IsKeyLit (K.lit x) := K.law.key (K.reads x hx)

/-- block b is a map of at most n entries that tells F -/
def VMap (K : KeyEnc P T κ) (w : World) (b n : Nat) (F : κ → Option Value) : Prop :=
  (∀ x, F x ≠ none → K.ok x) ∧ ∃ D : DataW Value, w.ownsMap P T heldR b n D ∧ ∀ x, K.ok x → lookV D (K.lit x) = F x

def updV [DecidableEq κ] (F : κ → Option Value) (a : κ) (z : Value) : κ → Option Value := fun x => if x = a then some z else F x
def delV [DecidableEq κ] (F : κ → Option Value) (a : κ) : κ → Option Value := fun x => if x = a then none else F x

variable {K : KeyEnc P T κ} {w : World} {b n : Nat} {F : κ → Option Value}
theorem VMap.lt (h : VMap K w b n F) : b < w.heap.size := by
  obtain ⟨_, D, h, _⟩ := h
  exact h.lt
theorem VMap.kept {w' : World} {row : Option Nat} (h : VMap K w b n F) (hg : w.grownBy w' row) (hne : some b ≠ row) : VMap K w' b n F := by
  obtain ⟨h0, D, h, e⟩ := h
  exact ⟨h0, D, h.kept hg hne, e⟩
theorem VMap.same {w' : World} (h : VMap K w b n F) (e : w'.heap[b]? = w.heap[b]?) : VMap K w' b n F := by
  obtain ⟨h0, D, ⟨es, clock, h1, h2⟩, e'⟩ := h
  exact ⟨h0, D, ⟨es, clock, e.trans h1, h2⟩, e'⟩
theorem VMap.below {w' : World} {B : Nat} (h : VMap K w b n F) (hb : Below B w w') (hlt : b < B) : VMap K w' b n F := h.same (hb.block b hlt)
theorem VMap.set (h : VMap K w b n F) {p : Addr} (hp : b ≠ p.block) (u : Value) : VMap K (w.setCell p u) b n F := by
  obtain ⟨h0, D, h, e⟩ := h
  exact ⟨h0, D, h.setCell hp u, e⟩
theorem VMap.made (K : KeyEnc P T κ) (w : World) : VMap K (w.alloc (.map #[] 0)) w.heap.size 0 (fun _ => none) :=
  ⟨fun _ h => absurd rfl h, .map [], World.ownsMap_made w _ _ _, fun a _ => by simp [lookV, has]⟩
theorem VMap.up {m : Nat} (h : VMap K w b n F) (hm : n ≤ m) : VMap K w b m F := by
  obtain ⟨h0, D, h, e⟩ := h
  exact ⟨h0, D, h.mono hm, e⟩

theorem lookV_has {D : DataW Value} (h : w.ownsMap P T heldR b n D) (K : KeyEnc P T κ) {x : κ} : has D (K.lit x) = (lookV D (K.lit x)).isSome := by
  unfold lookV
  cases hh : has D (K.lit x)
  · simp
  · obtain ⟨es, clock, hb, Ft, _, rfl⟩ := h
    rw [Maps.has_eq, List.any_eq_true] at hh
    obtain ⟨p, hp, hs⟩ := hh
    simp only [if_true]
    cases hf : (List.find? (fun p => p.1.sameKey (K.lit x)) (List.foldr DataW.insert [] (List.map (WideElems.rg P T heldR) es.toList)))
    · exact absurd hs (by have := List.find?_eq_none.1 hf p hp; simpa using this)
    · rename_i q
      have hq := List.mem_of_find?_eq_some hf
      rw [Go.mem_sorted, List.mem_map] at hq
      obtain ⟨x0, hx0, rfl⟩ := hq
      obtain ⟨y, hy⟩ := Ft.reads x0 hx0
      have e2 : (WideElems.rg P T heldR x0).2 = .held x0.val := by
        rw [WideElems.rg_of hy]
        obtain ⟨z, hz, he⟩ := WideElems.rd_val hy
        simp only [heldR, Option.some.injEq] at hz
        rw [he, ← hz]
      simp only [DataW.atKey, hf, e2]
      rfl

theorem atKey_any {D : DataW Value} (hD : IsMap D) {l : Lit} (hd : has D l = true) (z z' : DataW Value) : D.atKey l z = D.atKey l z' := by
  obtain ⟨es, rfl⟩ := hD
  simp only [DataW.atKey]
  cases hf : (es.find? fun p => p.1.sameKey l)
  · rw [Maps.has_eq, List.any_eq_true] at hd
    obtain ⟨p, hp, hs⟩ := hd
    exact absurd hs (by have := List.find?_eq_none.1 hf p hp; simpa using this)
  · rfl
theorem lookV_at {D : DataW Value} (hD : IsMap D) {l : Lit} {v : Value} {z : Value} (hv : D.atKey l (.held z) = .held v) : (lookV D l).getD z = v := by
  unfold lookV
  cases hd : has D l
  · rw [atKey_of_not_has hd] at hv
    injection hv
  · rw [atKey_any hD hd .nil (.held z), hv]; rfl

theorem VMap.get {t e : TypeId} (h : VMap K w b n F) (ht : P.underlying t = some (.map T e)) {z : Value} (hz : (zeroValue e).run P w = .ok z w) (x : κ) (hx : K.ok x) :
    (Instr.lookup t (.map (some b)) (K.enc x) false).run P w = .ok ((F x).getD z) w := by
  obtain ⟨_, D, h, e⟩ := h
  obtain ⟨v, ps, hr, hv⟩ := h.lookup K.law ht hz (zd := .held z) (zp := []) rfl (K.reads x hx)
  simp only [heldR, Option.some.injEq, Prod.mk.injEq] at hv
  rw [hr, ← e x hx, lookV_at h.isMap hv.1.symm]
theorem VMap.getOk {t e : TypeId} (h : VMap K w b n F) (ht : P.underlying t = some (.map T e)) {z : Value} (hz : (zeroValue e).run P w = .ok z w) (x : κ) (hx : K.ok x) :
    (Instr.lookup t (.map (some b)) (K.enc x) true).run P w = .ok (.tuple #[(F x).getD z, .bool (F x).isSome]) w := by
  obtain ⟨_, D, h, e⟩ := h
  obtain ⟨v, ps, hr, hv⟩ := h.look_ok K.law ht hz (zd := .held z) (zp := []) rfl (K.reads x hx)
  simp only [heldR, Option.some.injEq, Prod.mk.injEq] at hv
  rw [hr, ← e x hx, lookV_at h.isMap hv.1.symm, lookV_has h K]

theorem lookV_put [DecidableEq κ] {D : DataW Value} (hD : IsMap D) (K : KeyEnc P T κ) {a x : κ} (ha : K.ok a) (hx : K.ok x) (z : Value) : lookV (D.put (K.lit a) (.held z)) (K.lit x) = updV (fun x => lookV D (K.lit x)) a z x := by
  unfold lookV updV
  by_cases e : x = a
  · subst e
    rw [has_put_same hD (K.isKey hx), atKey_put_same hD (K.isKey hx)]
    simp
  · have hne : K.lit x ≠ K.lit a := fun h => e (K.lit_inj hx ha h)
    rw [has_put_other hne, atKey_put_other hne, if_neg e]
theorem lookV_del [DecidableEq κ] {D : DataW Value} (K : KeyEnc P T κ) {a x : κ} (ha : K.ok a) (hx : K.ok x) : lookV (D.del (K.lit a)) (K.lit x) = delV (fun x => lookV D (K.lit x)) a x := by
  unfold lookV delV
  by_cases e : x = a
  · subst e
    rw [has_del_same]
    simp
  · have hne : K.lit x ≠ K.lit a := fun h => e (K.lit_inj hx ha h)
    rw [if_neg e]
    simp only [has_del_other hne, atKey_del_other hne]

theorem VMap.put [DecidableEq κ] {t e : TypeId} (h : VMap K w b n F) (ht : P.underlying t = some (.map T e)) (x : κ) (hx : K.ok x) (z : Value) (hn : n < maxLen) :
    ∃ w', (Instr.mapUpdate t (.map (some b)) (K.enc x) z).run P w = .ok () w' ∧ VMap K w' b (n + 1) (updV F x z) ∧ w.mapTurned w' b := by
  obtain ⟨h0, D, h, e⟩ := h
  obtain ⟨w', hr, h', hg⟩ := h.store K.law ht hn (K.reads x hx) (val := z) (d := .held z) (ps := []) rfl
  refine ⟨w', hr, ⟨fun y hy => ?_, _, h', fun y hy => ?_⟩, hg⟩
  · unfold updV at hy
    split at hy
    · subst_vars; exact hx
    · exact h0 y hy
  · rw [lookV_put h.isMap K hx hy]
    unfold updV
    dsimp only
    rw [e y hy]
theorem VMap.drop [DecidableEq κ] {t e : TypeId} (h : VMap K w b n F) (ht : P.underlying t = some (.map T e)) (x : κ) (hx : K.ok x) (ty : TypeId) :
    ∃ w', (Builtin.delete_ #[t, T] ty #[.map (some b), K.enc x]).run P w = .ok (.tuple #[]) w' ∧ VMap K w' b n (delV F x) ∧ w.mapTurned w' b := by
  obtain ⟨h0, D, h, e⟩ := h
  obtain ⟨w', hr, h', hg⟩ := h.drop K.law ht (K.reads x hx) ty
  refine ⟨w', hr, ⟨fun y hy => ?_, _, h', fun y hy => ?_⟩, hg⟩
  · unfold delV at hy
    split at hy
    · exact absurd rfl hy
    · exact h0 y hy
  · rw [lookV_del K hx hy]
    unfold delV
    dsimp only
    rw [e y hy]

/-- the keys of F: each once, in some order -/
def KeysV (F : κ → Option Value) (L : List κ) : Prop := L.Nodup ∧ ∀ x, x ∈ L ↔ F x ≠ none

theorem VMap.count {t e : TypeId} (h : VMap K w b n F) (ht : P.underlying t = some (.map T e)) : ∃ L, KeysV F L ∧ L.length ≤ n ∧ ∀ ty, (Builtin.len_ #[t] ty #[.map (some b)]).run P w = .ok (.int .i64 L.length) w := by
  obtain ⟨h0, D, h, e⟩ := h
  have hsz := h.size_le
  have hlen := fun ty => h.len ht ty
  obtain ⟨es0, e0, hp⟩ := h.tidy K.law
  obtain ⟨es, he, hk⟩ := h.keysOf
  rw [he] at e0
  injection e0 with e0
  subst e0
  have hc : ∀ p ∈ es, ∃ x, K.ok x ∧ p.1 = K.lit x := fun p hp => by
    obtain ⟨v, hv⟩ := hk p hp
    obtain ⟨x, hx, rfl⟩ := K.all v _ hv
    rw [K.reads x hx] at hv
    exact ⟨x, hx, by injection hv with hv; exact hv.symm⟩
  obtain ⟨f, hf⟩ : ∃ f : Lit × DataW Value → Option κ, ∀ p ∈ es, ∃ x, f p = some x ∧ K.ok x ∧ p.1 = K.lit x := by
    classical
    refine ⟨fun p => if h : ∃ x, K.ok x ∧ p.1 = K.lit x then some h.choose else none, fun p hp => ?_⟩
    have hx := hc p hp
    exact ⟨hx.choose, by simp [hx], hx.choose_spec⟩
  have hmem : ∀ x, x ∈ es.filterMap f ↔ F x ≠ none := by
    intro x
    rw [List.mem_filterMap]
    constructor
    · rintro ⟨p, hp, hx⟩
      obtain ⟨y, hy, hok, hl⟩ := hf p hp
      rw [hx] at hy
      injection hy with hy
      subst hy
      rw [← e x hok]
      have := lookV_has (x := x) h K
      have hh : has D (K.lit x) = true := by
        rw [he, Maps.has_eq, List.any_eq_true]
        exact ⟨p, hp, by rw [hl]; exact WideAt.sameKey_self (K.isKey hok)⟩
      rw [hh] at this
      intro hn
      rw [hn] at this
      cases this
    · intro hx
      have hok := h0 x hx
      have := lookV_has (x := x) h K
      rw [e x hok] at this
      have hh : has D (K.lit x) = true := by rw [this]; cases hv : F x <;> simp_all
      rw [he, Maps.has_eq, List.any_eq_true] at hh
      obtain ⟨p, hp, hs⟩ := hh
      obtain ⟨y, hy, hoy, hl⟩ := hf p hp
      refine ⟨p, hp, ?_⟩
      rw [hy]
      by_cases ex : y = x
      · rw [ex]
      · rw [hl, Maps.sameKey_ne (fun h => ex (K.lit_inj hoy hok h))] at hs
        cases hs
  have hall : (es.filterMap f).length = es.length := by
    rw [List.length_filterMap_eq_countP, List.countP_eq_length]
    intro p hp
    obtain ⟨y, hy, _⟩ := hf p hp
    simp [hy]
  refine ⟨es.filterMap f, ⟨?_, hmem⟩, ?_, ?_⟩
  · refine List.pairwise_filterMap.2 (hp.imp_of_mem fun {p q} hp' hq' hne a ha b' hb e => hne ?_)
    subst e
    obtain ⟨x, hx, _, h1⟩ := hf p hp'
    obtain ⟨y, hy, _, h2⟩ := hf q hq'
    rw [hx] at ha
    rw [hy] at hb
    injection ha with ha
    injection hb with hb
    rw [h1, h2, ha, hb]
  · rw [hall]; rw [he] at hsz; exact hsz
  · intro ty
    rw [hall]
    have := hlen ty
    rw [he] at this
    exact this
end
end Go.Proofs.Ytpibmjkbebkilaa

/- The keys of a table's map: a VLAN, a group, a port. -/
namespace Go.Proofs.Ytpibmjkbebkilaa
open Go.RowKit Go.Lib Go.Maps
set_option maxRecDepth 20000

theorem tk_wide : (match Try.prog.underlying 46 with | some (.array _ _) | some (.struct _) => true | _ => false) = true := by kernel_rfl
theorem tk_laid : laidOutB Try.prog = true := by kernel_rfl
theorem tk_row : 46 < Try.prog.types.size := of_decide_eq_true (by kernel_rfl)
set_option maxRecDepth 100000 in
theorem tk_law : Keyed Try.prog 46 := Keyed.of_law (deep_law_laid tk_laid (m := 9) (by decide) tk_row (by kernel_rfl) tk_wide)
theorem tk_is : Try.prog.keyType 46 = true := by kernel_rfl
theorem tk_cells : Try.prog.cellsOf 46 = 3 := by kernel_rfl
theorem tk_ci : Try.prog.cellsOf 3 = 1 := by kernel_rfl
theorem tk_ca : Try.prog.cellsOf 32 = 1 := by kernel_rfl
theorem tk_size : ∃ n, Try.prog.types.size = n + 1 := ⟨Try.prog.types.size - 1, by kernel_rfl⟩

def encT (x : Int × Str × Int) : Value := .agg #[.int .i64 x.1, .string (bstr x.2.1), .int .i64 x.2.2]
def okT (x : Int × Str × Int) : Prop := (Lit.int .i64 x.1).wf = true ∧ x.2.1.length ≤ maxLen ∧ (Lit.int .i64 x.2.2).wf = true
def litT (x : Int × Str × Int) : Lit := .string (keyBytes [.int .i64 x.1, .string x.2.1, .int .i64 x.2.2])

set_option maxRecDepth 100000 in
theorem tk_reads (x : Int × Str × Int) (h : okT x) : keyOf Try.prog 46 (encT x) = some (litT x) := by
  obtain ⟨n, hn⟩ := tk_size
  have hs : (bstr x.2.1).size ≤ maxLen := by rw [bstr_size]; exact h.2.1
  have hd : (bstr x.2.1).data.toList = x.2.1 := bstr_data x.2.1
  unfold keyOf encT litT
  rw [Try.underlying46]
  simp only [tk_is, Bool.true_and]
  have hf : Value.formed Try.prog 46 (.agg #[.int .i64 x.1, .string (bstr x.2.1), .int .i64 x.2.2]) = true := by
    simp [Value.formed, Try.underlying46, tk_cells]
  rw [if_pos hf, hn]
  simp [Program.keyLits, Value.cells, Try.underlying46, tk_cells, tk_ci, tk_ca, Try.underlying3, Try.underlying32, h.1, h.2.2, hs, hd]

set_option maxRecDepth 100000 in
theorem tk_all (v : Value) (l : Lit) (h : keyOf Try.prog 46 v = some l) : ∃ x, okT x ∧ v = encT x := by
  obtain ⟨n, hn⟩ := tk_size
  unfold keyOf at h
  rw [Try.underlying46] at h
  simp only [tk_is, Bool.true_and] at h
  split at h
  · rename_i hf
    cases v <;> simp [Value.formed, Try.underlying46, tk_cells] at hf
    rename_i cs
    obtain ⟨a, b, c, rfl⟩ : ∃ a b c, cs = #[a, b, c] := by
      obtain ⟨l⟩ := cs
      match l, hf with
      | [a, b, c], _ => exact ⟨a, b, c, rfl⟩
    rw [hn] at h
    simp [Program.keyLits, Value.cells, Try.underlying46, tk_cells, tk_ci, tk_ca, Try.underlying3, Try.underlying32] at h
    cases a <;> simp at h
    rename_i q z
    by_cases hq : q = .i64 ∧ (Lit.int .i64 z).wf = true
    · rw [if_pos hq] at h
      obtain ⟨rfl, hz⟩ := hq
      cases b <;> simp at h
      rename_i t
      by_cases ht : t.size ≤ maxLen
      · rw [if_pos ht] at h
        cases c <;> simp at h
        rename_i q' z'
        by_cases hq' : q' = .i64 ∧ (Lit.int .i64 z').wf = true
        · obtain ⟨rfl, hz'⟩ := hq'
          exact ⟨(z, t.data.toList, z'), ⟨hz, by simpa using ht, hz'⟩, by simp [encT, bstr]⟩
        · rw [if_neg hq'] at h; simp at h
      · rw [if_neg ht] at h; simp at h
    · rw [if_neg hq] at h; simp at h
  · cases h

theorem tk_inj (x y : Int × Str × Int) (h : encT x = encT y) : x = y := by
  obtain ⟨a, b, e⟩ := x
  obtain ⟨c, d, f⟩ := y
  simp only [encT] at h
  have h1 : a = c := by injection h with h; simp at h; exact h.1
  have h2 : bstr b = bstr d := by injection h with h; simp at h; exact h.2.1
  have h3 : e = f := by injection h with h; simp at h; exact h.2.2
  rw [h1, bstr_inj h2, h3]

/-- a VLAN, a group and a port as a key -/
def KT : KeyEnc Try.prog 46 (Int × Str × Int) := ⟨encT, okT, litT, tk_reads, tk_all, tk_inj, tk_law⟩
end Go.Proofs.Ytpibmjkbebkilaa
