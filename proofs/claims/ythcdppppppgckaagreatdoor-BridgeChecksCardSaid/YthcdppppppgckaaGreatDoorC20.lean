/- Texts joined into one file: GStep, GRapp, GRexp, VMap. -/
import Derived.Test.YthcdppppppgckaaGreatDoorC19
import Derived.Test.YthcdppppppgckaaGreatDoorC18
import Derived.Test.YthcdppppppgckaaGreatDoorC17
import Derived.Test.YthcdppppppgckaaGreatDoorC04
import Derived.Maps.OwnSet
import Derived.Maps.OwnOps
import Derived.Maps.RangeWalk
import Derived.Sort.KeysCollected

namespace Go.Proofs.YthcdppppppgckaaGreatDoor
open Go.RowKit Go.Lib Go.Maps Go.Sort
set_option maxRecDepth 20000

def RetStep (w : World) (ex : Bool) (at' : Int) (F : Str → Option Int) (g : Bool) (q : Str → Bool) (e : Ending) (w' : World) : Prop :=
 ∃ v L u R, e = .returned (.tuple #[.agg #[.bool ex, .int .i64 at', v], .agg #[.bool g, u]]) ∧ Tms w' v L ∧ Asc F L ∧ Strs w' u R ∧ Rises q R ∧ R.length ≤ 60 ∧ Below w.heap.size w w'
theorem RetSA.step {w : World} {ex : Bool} {at' : Int} {F : Str → Option Int} {g : Bool} {R : List Str} {q : Str → Bool} {e : Ending} {w' : World} (h : RetSA w ex at' F g R e w') (hR : Rises q R) (hl : R.length ≤ 60) : RetStep w ex at' F g q e w' := by
 obtain ⟨v, L, u, h1, h2, h3, h4, h5⟩ := h
 exact ⟨v, L, u, R, h1, h2, h3, h4, hR, hl, h5⟩


theorem CBox.inv {w : World} {b : Nat} {T : TypeId} {cs : Array Value} (h : CBox w b T cs) {i : Nat} {u : Value} (hc : w.cell? ⟨b, i, none⟩ = some u) : cs[i]? = some u := by
 have h' : w.heap[b]? = some (.cells cs T (0, 0)) := h
 simpa [World.cell?, h'] using hc
theorem Tms.ne_box {w : World} {v : Value} {L : List Tmd} {b : Nat} {T : TypeId} {cs : Array Value} (h : Tms w v L) (hb : CBox w b T cs) (hs : ∀ (i : Nat) (s : ByteArray), cs[i]? ≠ some (Value.string s)) : L ≠ [] → ∀ c, v.ownBlock = some c → c ≠ b := by
 intro hL c e he
 subst he
 obtain ⟨ao, cap, d, off, rfl, h0, h1, h2, h3⟩ := h
 rcases h0 with h0 | rfl
 · exact absurd h0 hL
 · obtain ⟨_, q, _⟩ := h3 0 (List.length_pos_iff.2 hL)
   simp [Value.ownBlock] at e
   subst e
   exact hs _ _ (hb.inv q)
theorem Strs.ne_box {w : World} {v : Value} {L : List Str} {b : Nat} {T : TypeId} {cs : Array Value} (h : Strs w v L) (hb : CBox w b T cs) (hs : ∀ (i : Nat) (s : ByteArray), cs[i]? ≠ some (Value.string s)) : L ≠ [] → ∀ c, v.ownBlock = some c → c ≠ b := by
 intro hL c e he
 subst he
 obtain ⟨ao, cap, d, off, rfl, h0, h1, h2, h3⟩ := h
 rcases h0 with h0 | rfl
 · exact absurd h0 hL
 · obtain ⟨_, q⟩ := h3 0 (List.length_pos_iff.2 hL)
   simp [Value.ownBlock] at e
   subst e
   exact hs _ _ (hb.inv q)
theorem ns3 (a : Bool) (z : Int) (o : Option Addr) (n c : Nat) : ∀ (i : Nat) (s : ByteArray), (#[.bool a, .int .i64 z, .slice o n c] : Array Value)[i]? ≠ some (Value.string s) := by
 intro i s
 match i with
 | 0 => simp
 | 1 => simp
 | 2 => simp
 | _ + 3 => simp

def exTail (e2 : Bool) (now : Int) (t : Tmd) : List Tmd := if now < t.2 then [t] else if e2 then [(t.1, 0)] else []
def exL (e2 : Bool) (now : Int) (L : List Tmd) : List Tmd := L.flatMap (exTail e2 now)
theorem exTail_sub (e2 : Bool) (now : Int) (t : Tmd) : ((exTail e2 now t).map Prod.fst).Sublist [t.1] := by
 unfold exTail
 split
 · exact List.Sublist.refl _
 · split
   · exact List.Sublist.refl _
   · exact List.nil_sublist _
theorem exL_sub (e2 : Bool) (now : Int) : ∀ L : List Tmd, ((exL e2 now L).map Prod.fst).Sublist (L.map Prod.fst)
 | [] => List.Sublist.refl _
 | t :: L => by
   unfold exL
   rw [List.flatMap_cons, List.map_append, List.map_cons]
   exact List.Sublist.append (exTail_sub e2 now t) (exL_sub e2 now L)
theorem exL_mem {e2 : Bool} {now : Int} {L : List Tmd} {u : Tmd} (h : u ∈ exL e2 now L) : ∃ t ∈ L, u.1 = t.1 ∧ ((now < t.2 ∧ u.2 = t.2) ∨ (¬ now < t.2 ∧ e2 = true ∧ u.2 = 0)) := by
 obtain ⟨t, ht, hu⟩ := List.mem_flatMap.1 h
 refine ⟨t, ht, ?_⟩
 unfold exTail at hu
 split at hu
 · rename_i hn
   rw [List.mem_singleton] at hu
   subst hu
   exact ⟨rfl, .inl ⟨hn, rfl⟩⟩
 · rename_i hn
   split at hu
   · rename_i he
     rw [List.mem_singleton] at hu
     subst hu
     exact ⟨rfl, .inr ⟨hn, he, rfl⟩⟩
   · cases hu
theorem asc_ex (e2 : Bool) (now : Int) {F : Str → Option Int} {L : List Tmd} (h : Asc F L) : Asc (exF e2 now F) (exL e2 now L) := by
 have hv : ∀ u ∈ exL e2 now L, exF e2 now F u.1 = some u.2 := by
  intro u hu
  obtain ⟨t, ht, h1, h2⟩ := exL_mem hu
  have hF := h.2 t ht
  unfold exF
  rw [h1, hF]
  rcases h2 with ⟨h2, h3⟩ | ⟨h2, h3, h4⟩
  · simp [h2, h3]
  · simp [h2, h3, h4]
 refine ⟨⟨h.1.1.sublist (exL_sub e2 now L), fun a => ?_⟩, hv⟩
 constructor
 · intro ha
   obtain ⟨u, hu, rfl⟩ := List.mem_map.1 ha
   rw [hv u hu]; simp
 · intro ha
   have hF : F a ≠ none := by intro e; apply ha; unfold exF; rw [e]
   obtain ⟨t, ht, rfl⟩ := List.mem_map.1 ((h.1.2 a).2 hF)
   have hF' := h.2 t ht
   unfold exF at ha
   rw [hF'] at ha
   by_cases hn : now < t.2
   · exact List.mem_map.2 ⟨t, List.mem_flatMap.2 ⟨t, ht, by simp [exTail, hn]⟩, rfl⟩
   · cases e2
     · simp [hn] at ha
     · exact List.mem_map.2 ⟨(t.1, 0), List.mem_flatMap.2 ⟨t, ht, by simp [exTail, hn]⟩, rfl⟩

end Go.Proofs.YthcdppppppgckaaGreatDoor

namespace Go.Proofs.YthcdppppppgckaaGreatDoor
open Go.RowKit Go.Lib
set_option maxRecDepth 20000
open Go.Maps (Keyed has IsMap has_put_same has_put_other has_del_same has_del_other atKey_put_same atKey_put_other atKey_del_same atKey_del_other atKey_of_not_has has_true_of_atKey)

structure KeyEnc (P : Program) (T : TypeId) (κ : Type) where
 enc : κ → Value
 ok : κ → Prop
 lit : κ → Lit
 reads : ∀ x, ok x → keyOf P T (enc x) = some (lit x)
 all : ∀ v l, keyOf P T v = some l → ∃ x, ok x ∧ v = enc x
 inj : ∀ x y, enc x = enc y → x = y
 law : Keyed P T

def heldR (v : Value) : Option (DataW Value × List MemPlace) := some (.held v, [])
def lookV (D : DataW Value) (l : Lit) : Option Value := if has D l then (match D.atKey l .nil with | .held v => some v | _ => none) else none

section
variable {P : Program} {T : TypeId} {κ : Type}

theorem KeyEnc.lit_inj (K : KeyEnc P T κ) {x y : κ} (hx : K.ok x) (hy : K.ok y) (h : K.lit x = K.lit y) : x = y :=
 K.inj x y (K.law.inj (K.reads x hx) (by rw [h]; exact K.reads y hy))
theorem KeyEnc.isKey (K : KeyEnc P T κ) {x : κ} (hx : K.ok x) : WideAt.IsKeyLit (K.lit x) := K.law.key (K.reads x hx)

def VMap (K : KeyEnc P T κ) (w : World) (b n : Nat) (F : κ → Option Value) : Prop :=
 (∀ x, F x ≠ none → K.ok x) ∧ ∃ D : DataW Value, w.ownsMap P T heldR b n D ∧ ∀ x, K.ok x → lookV D (K.lit x) = F x

def updV [DecidableEq κ] (F : κ → Option Value) (a : κ) (z : Value) : κ → Option Value := fun x => if x = a then some z else F x
def delV [DecidableEq κ] (F : κ → Option Value) (a : κ) : κ → Option Value := fun x => if x = a then none else F x

variable {K : KeyEnc P T κ} {w : World} {b n : Nat} {F : κ → Option Value}
theorem VMap.lt (h : VMap K w b n F) : b < w.heap.size := by
 obtain ⟨_, D, h, _⟩ := h
 exact h.lt
theorem VMap.kept {w' : World} {row : Option Nat} (h : VMap K w b n F) (hg : w.grownBy w' row) (hne : some b ≠ row) : VMap K w' b n F := by
 obtain ⟨h0, D, h, e⟩ := h
 exact ⟨h0, D, h.kept hg hne, e⟩
theorem VMap.same {w' : World} (h : VMap K w b n F) (e : w'.heap[b]? = w.heap[b]?) : VMap K w' b n F := by
 obtain ⟨h0, D, ⟨es, clock, h1, h2⟩, e'⟩ := h
 exact ⟨h0, D, ⟨es, clock, e.trans h1, h2⟩, e'⟩
theorem VMap.below {w' : World} {B : Nat} (h : VMap K w b n F) (hb : Below B w w') (hlt : b < B) : VMap K w' b n F := h.same (hb.block b hlt)
theorem VMap.set (h : VMap K w b n F) {p : Addr} (hp : b ≠ p.block) (u : Value) : VMap K (w.setCell p u) b n F := by
 obtain ⟨h0, D, h, e⟩ := h
 exact ⟨h0, D, h.setCell hp u, e⟩
theorem VMap.made (K : KeyEnc P T κ) (w : World) : VMap K (w.alloc (.map #[] 0)) w.heap.size 0 (fun _ => none) :=
 ⟨fun _ h => absurd rfl h, .map [], World.ownsMap_made w _ _ _, fun a _ => by simp [lookV, has]⟩
theorem VMap.up {m : Nat} (h : VMap K w b n F) (hm : n ≤ m) : VMap K w b m F := by
 obtain ⟨h0, D, h, e⟩ := h
 exact ⟨h0, D, h.mono hm, e⟩

theorem lookV_has {D : DataW Value} (h : w.ownsMap P T heldR b n D) (K : KeyEnc P T κ) {x : κ} : has D (K.lit x) = (lookV D (K.lit x)).isSome := by
 unfold lookV
 cases hh : has D (K.lit x)
 · simp
 · obtain ⟨es, clock, hb, Ft, _, rfl⟩ := h
   rw [Maps.has_eq, List.any_eq_true] at hh
   obtain ⟨p, hp, hs⟩ := hh
   simp only [if_true]
   cases hf : (List.find? (fun p => p.1.sameKey (K.lit x)) (List.foldr DataW.insert [] (List.map (WideElems.rg P T heldR) es.toList)))
   · exact absurd hs (by have := List.find?_eq_none.1 hf p hp; simpa using this)
   · rename_i q
     have hq := List.mem_of_find?_eq_some hf
     rw [Go.mem_sorted, List.mem_map] at hq
     obtain ⟨x0, hx0, rfl⟩ := hq
     obtain ⟨y, hy⟩ := Ft.reads x0 hx0
     have e2 : (WideElems.rg P T heldR x0).2 = .held x0.val := by
      rw [WideElems.rg_of hy]
      obtain ⟨z, hz, he⟩ := WideElems.rd_val hy
      simp only [heldR, Option.some.injEq] at hz
      rw [he, ← hz]
     simp only [DataW.atKey, hf, e2]
     rfl

theorem atKey_any {D : DataW Value} (hD : IsMap D) {l : Lit} (hd : has D l = true) (z z' : DataW Value) : D.atKey l z = D.atKey l z' := by
 obtain ⟨es, rfl⟩ := hD
 simp only [DataW.atKey]
 cases hf : (es.find? fun p => p.1.sameKey l)
 · rw [Maps.has_eq, List.any_eq_true] at hd
   obtain ⟨p, hp, hs⟩ := hd
   exact absurd hs (by have := List.find?_eq_none.1 hf p hp; simpa using this)
 · rfl
theorem lookV_at {D : DataW Value} (hD : IsMap D) {l : Lit} {v : Value} {z : Value} (hv : D.atKey l (.held z) = .held v) : (lookV D l).getD z = v := by
 unfold lookV
 cases hd : has D l
 · rw [atKey_of_not_has hd] at hv
   injection hv
 · rw [atKey_any hD hd .nil (.held z), hv]; rfl

theorem VMap.get {t e : TypeId} (h : VMap K w b n F) (ht : P.underlying t = some (.map T e)) {z : Value} (hz : (zeroValue e).run P w = .ok z w) (x : κ) (hx : K.ok x) :
 (Instr.lookup t (.map (some b)) (K.enc x) false).run P w = .ok ((F x).getD z) w := by
 obtain ⟨_, D, h, e⟩ := h
 obtain ⟨v, ps, hr, hv⟩ := h.lookup K.law ht hz (zd := .held z) (zp := []) rfl (K.reads x hx)
 simp only [heldR, Option.some.injEq, Prod.mk.injEq] at hv
 rw [hr, ← e x hx, lookV_at h.isMap hv.1.symm]
theorem VMap.getOk {t e : TypeId} (h : VMap K w b n F) (ht : P.underlying t = some (.map T e)) {z : Value} (hz : (zeroValue e).run P w = .ok z w) (x : κ) (hx : K.ok x) :
 (Instr.lookup t (.map (some b)) (K.enc x) true).run P w = .ok (.tuple #[(F x).getD z, .bool (F x).isSome]) w := by
 obtain ⟨_, D, h, e⟩ := h
 obtain ⟨v, ps, hr, hv⟩ := h.look_ok K.law ht hz (zd := .held z) (zp := []) rfl (K.reads x hx)
 simp only [heldR, Option.some.injEq, Prod.mk.injEq] at hv
 rw [hr, ← e x hx, lookV_at h.isMap hv.1.symm, lookV_has h K]

theorem lookV_put [DecidableEq κ] {D : DataW Value} (hD : IsMap D) (K : KeyEnc P T κ) {a x : κ} (ha : K.ok a) (hx : K.ok x) (z : Value) : lookV (D.put (K.lit a) (.held z)) (K.lit x) = updV (fun x => lookV D (K.lit x)) a z x := by
 unfold lookV updV
 by_cases e : x = a
 · subst e
   rw [has_put_same hD (K.isKey hx), atKey_put_same hD (K.isKey hx)]
   simp
 · have hne : K.lit x ≠ K.lit a := fun h => e (K.lit_inj hx ha h)
   rw [has_put_other hne, atKey_put_other hne, if_neg e]
theorem lookV_del [DecidableEq κ] {D : DataW Value} (K : KeyEnc P T κ) {a x : κ} (ha : K.ok a) (hx : K.ok x) : lookV (D.del (K.lit a)) (K.lit x) = delV (fun x => lookV D (K.lit x)) a x := by
 unfold lookV delV
 by_cases e : x = a
 · subst e
   rw [has_del_same]
   simp
 · have hne : K.lit x ≠ K.lit a := fun h => e (K.lit_inj hx ha h)
   rw [if_neg e]
   simp only [has_del_other hne, atKey_del_other hne]

theorem VMap.put [DecidableEq κ] {t e : TypeId} (h : VMap K w b n F) (ht : P.underlying t = some (.map T e)) (x : κ) (hx : K.ok x) (z : Value) (hn : n < maxLen) :
 ∃ w', (Instr.mapUpdate t (.map (some b)) (K.enc x) z).run P w = .ok () w' ∧ VMap K w' b (n + 1) (updV F x z) ∧ w.mapTurned w' b := by
 obtain ⟨h0, D, h, e⟩ := h
 obtain ⟨w', hr, h', hg⟩ := h.store K.law ht hn (K.reads x hx) (val := z) (d := .held z) (ps := []) rfl
 refine ⟨w', hr, ⟨fun y hy => ?_, _, h', fun y hy => ?_⟩, hg⟩
 · unfold updV at hy
   split at hy
   · subst_vars; exact hx
   · exact h0 y hy
 · rw [lookV_put h.isMap K hx hy]
   unfold updV
   dsimp only
   rw [e y hy]
theorem VMap.drop [DecidableEq κ] {t e : TypeId} (h : VMap K w b n F) (ht : P.underlying t = some (.map T e)) (x : κ) (hx : K.ok x) (ty : TypeId) :
 ∃ w', (Builtin.delete_ #[t, T] ty #[.map (some b), K.enc x]).run P w = .ok (.tuple #[]) w' ∧ VMap K w' b n (delV F x) ∧ w.mapTurned w' b := by
 obtain ⟨h0, D, h, e⟩ := h
 obtain ⟨w', hr, h', hg⟩ := h.drop K.law ht (K.reads x hx) ty
 refine ⟨w', hr, ⟨fun y hy => ?_, _, h', fun y hy => ?_⟩, hg⟩
 · unfold delV at hy
   split at hy
   · exact absurd rfl hy
   · exact h0 y hy
 · rw [lookV_del K hx hy]
   unfold delV
   dsimp only
   rw [e y hy]

def KeysV (F : κ → Option Value) (L : List κ) : Prop := L.Nodup ∧ ∀ x, x ∈ L ↔ F x ≠ none

theorem VMap.count {t e : TypeId} (h : VMap K w b n F) (ht : P.underlying t = some (.map T e)) : ∃ L, KeysV F L ∧ L.length ≤ n ∧ ∀ ty, (Builtin.len_ #[t] ty #[.map (some b)]).run P w = .ok (.int .i64 L.length) w := by
 obtain ⟨h0, D, h, e⟩ := h
 have hsz := h.size_le
 have hlen := fun ty => h.len ht ty
 obtain ⟨es0, e0, hp⟩ := h.tidy K.law
 obtain ⟨es, he, hk⟩ := h.keysOf
 rw [he] at e0
 injection e0 with e0
 subst e0
 have hc : ∀ p ∈ es, ∃ x, K.ok x ∧ p.1 = K.lit x := fun p hp => by
  obtain ⟨v, hv⟩ := hk p hp
  obtain ⟨x, hx, rfl⟩ := K.all v _ hv
  rw [K.reads x hx] at hv
  exact ⟨x, hx, by injection hv with hv; exact hv.symm⟩
 obtain ⟨f, hf⟩ : ∃ f : Lit × DataW Value → Option κ, ∀ p ∈ es, ∃ x, f p = some x ∧ K.ok x ∧ p.1 = K.lit x := by
  classical
  refine ⟨fun p => if h : ∃ x, K.ok x ∧ p.1 = K.lit x then some h.choose else none, fun p hp => ?_⟩
  have hx := hc p hp
  exact ⟨hx.choose, by simp [hx], hx.choose_spec⟩
 have hmem : ∀ x, x ∈ es.filterMap f ↔ F x ≠ none := by
  intro x
  rw [List.mem_filterMap]
  constructor
  · rintro ⟨p, hp, hx⟩
    obtain ⟨y, hy, hok, hl⟩ := hf p hp
    rw [hx] at hy
    injection hy with hy
    subst hy
    rw [← e x hok]
    have := lookV_has (x := x) h K
    have hh : has D (K.lit x) = true := by
     rw [he, Maps.has_eq, List.any_eq_true]
     exact ⟨p, hp, by rw [hl]; exact WideAt.sameKey_self (K.isKey hok)⟩
    rw [hh] at this
    intro hn
    rw [hn] at this
    cases this
  · intro hx
    have hok := h0 x hx
    have := lookV_has (x := x) h K
    rw [e x hok] at this
    have hh : has D (K.lit x) = true := by rw [this]; cases hv : F x <;> simp_all
    rw [he, Maps.has_eq, List.any_eq_true] at hh
    obtain ⟨p, hp, hs⟩ := hh
    obtain ⟨y, hy, hoy, hl⟩ := hf p hp
    refine ⟨p, hp, ?_⟩
    rw [hy]
    by_cases ex : y = x
    · rw [ex]
    · rw [hl, Maps.sameKey_ne (fun h => ex (K.lit_inj hoy hok h))] at hs
      cases hs
 have hall : (es.filterMap f).length = es.length := by
  rw [List.length_filterMap_eq_countP, List.countP_eq_length]
  intro p hp
  obtain ⟨y, hy, _⟩ := hf p hp
  simp [hy]
 refine ⟨es.filterMap f, ⟨?_, hmem⟩, ?_, ?_⟩
 · refine List.pairwise_filterMap.2 (hp.imp_of_mem fun {p q} hp' hq' hne a ha b' hb e => hne ?_)
   subst e
   obtain ⟨x, hx, _, h1⟩ := hf p hp'
   obtain ⟨y, hy, _, h2⟩ := hf q hq'
   rw [hx] at ha
   rw [hy] at hb
   injection ha with ha
   injection hb with hb
   rw [h1, h2, ha, hb]
 · rw [hall]; rw [he] at hsz; exact hsz
 · intro ty
   rw [hall]
   have := hlen ty
   rw [he] at this
   exact this
end
end Go.Proofs.YthcdppppppgckaaGreatDoor
