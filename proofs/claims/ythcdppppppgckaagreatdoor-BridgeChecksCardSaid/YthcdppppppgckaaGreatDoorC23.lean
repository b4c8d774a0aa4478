/- Texts joined into one file: TLaw, TIt, TTab, TExp. -/
import Derived.Test.YthcdppppppgckaaGreatDoorC22
import Derived.Test.YthcdppppppgckaaGreatDoorC16
import Derived.Test.YthcdppppppgckaaGreatDoorC19
import Derived.Test.YthcdppppppgckaaGreatDoorC20
import Derived.Test.YthcdppppppgckaaGreatDoorC14

namespace Go.Proofs.YthcdppppppgckaaGreatDoor
open Go.RowKit Go.Lib Go.Maps Go.Sort Go.Shelf
set_option maxRecDepth 20000

def KeepsR (B H : Nat) (X Y : World) : Prop := X.heap.size ≤ Y.heap.size ∧ ∀ (j : Nat) (cs : Array Value) (T : TypeId) (fr : Nat × Nat), B ≤ j → j < H → X.heap[j]? = some (.cells cs T fr) → Y.heap[j]? = some (.cells cs T fr)
theorem KeepsR.refl (B H : Nat) (X : World) : KeepsR B H X X := ⟨Nat.le_refl _, fun _ _ _ _ _ _ h => h⟩
theorem KeepsR.trans {B H : Nat} {X Y Z : World} (h : KeepsR B H X Y) (k : KeepsR B H Y Z) : KeepsR B H X Z :=
 ⟨Nat.le_trans h.1 k.1, fun j cs T fr hB hH e => k.2 j cs T fr hB hH (h.2 j cs T fr hB hH e)⟩
theorem KeepsR.grown {B H : Nat} {X Y : World} {row : Option Nat} (hg : X.grownBy Y row) (hrow : ∀ r, row = some r → r < B ∨ H ≤ r) : KeepsR B H X Y :=
 ⟨hg.size, fun j cs T fr hB hH e => (hg.block j (Array.getElem?_eq_some_iff.1 e).1 (fun e' => by have := hrow j e'.symm; omega)).trans e⟩
theorem KeepsR.alloc (B H : Nat) (X : World) (o : Obj) : KeepsR B H X (X.alloc o) := KeepsR.grown (World.grownBy_alloc X o none) (fun r e => by cases e)
theorem KeepsR.put {B H : Nat} {X : World} {l : Nat} {o : Obj} (o' : Obj) (hl : X.heap[l]? = some o) (ho : o.isCells = false) : KeepsR B H X (X.putObj l o') :=
 ⟨by simp, fun j cs T fr _ _ e => by
  by_cases h : j = l
  · subst h; rw [hl] at e; injection e with e; subst e; cases ho
  · exact (World.putObj_heap_other h).trans e⟩
theorem KeepsR.cell {B H : Nat} {X Y : World} (h : KeepsR B H X Y) {p : Addr} {v : Value} (hB : B ≤ p.block) (hH : p.block < H) (hc : X.cell? p = some v) : Y.cell? p = some v := by
 unfold World.cell? at hc ⊢
 cases ho : X.heap[p.block]? with
 | none => rw [ho] at hc; cases hc
 | some o =>
   rw [ho] at hc
   cases o <;> simp at hc
   rw [h.2 _ _ _ _ hB hH ho]
   simpa using hc

def SeqG {α : Type} (F : Fence) (n : Nat) (P : Program) (g : Nat) (lb : Array Value) (encs : α → Array Value) (B : Nat) (S Sp : List α → Prop) (N : Nat) (w : World) : Prop :=
 ∀ (l : Nat) (J Jx : Nat → List α → World → Prop) (W : World), Below w.heap.size w W → (∀ H, OwnFrom W.heap.size (J H)) → (∀ H, OwnFrom W.heap.size (Jx H)) →
   (∀ H pre x W1, W.heap.size ≤ H → H ≤ W1.heap.size → J H pre W1 → pre.length < N → YieldAt F (n - 1) P l (encs x) W1 fun e W' =>
     (e = .returned (.bool true) ∧ J H (pre ++ [x]) W' ∧ KeepsR B H W1 W' ∧ KeepsFrom W.heap.size W1 W') ∨ (e = .returned (.bool false) ∧ Jx H (pre ++ [x]) W' ∧ KeepsFrom W.heap.size W1 W')) →
   (∀ H, W.heap.size ≤ H → J H [] W) →
   CallsIn F n P g (#[.func (.yield l) #[] #[]] ++ lb) W fun e W' => (∃ v, e = .returned v) ∧ ((∃ H xs, W.heap.size ≤ H ∧ S xs ∧ J H xs W') ∨ (∃ H pre, W.heap.size ≤ H ∧ Sp pre ∧ Jx H pre W'))

variable {F : Fence} {n : Nat} {P : Program}
set_option maxHeartbeats 1000000 in
theorem wpIn_rangeG {α : Type} {g : Operand} {ps : Array Tmp} {assign body : Code} {Q : Exit → Act → World → Prop} {a : Act} {w : World} (B : Nat)
 (hro : F.round = none) (h1 : F.depth.isSome = true → 1 ≤ n) {gf : Nat} {lb : Array Value} (hg : a.eval g = .func (.func gf) #[] lb) (hFg : F.fn gf) (eg : ∀ args w, (callFunc gf args).run P w = .ok (.enter gf args) w)
 {encs : α → Array Value} {S Sp : List α → Prop} {N : Nat} (hseq : SeqG F (n - 1) P gf lb encs B S Sp N w) (hps : ∀ x, (encs x).size = ps.size)
 (I : Nat → List α → World → Prop) (Ix : Nat → Code → List α → World → Prop) (hI : ∀ H, OwnFrom w.heap.size (I H)) (hIx : ∀ H c, OwnFrom w.heap.size (Ix H c)) (h0 : ∀ H, w.heap.size ≤ H → I H [] w)
 (Ax : α → Act → World → Prop) (hAx : ∀ x a', OwnFrom w.heap.size (fun (_ : Unit) W => Ax x a' W))
 (hassign : ∀ (l H : Nat) (pre : List α) (x : α) (W : World) (K : Act → World → Prop), w.heap.size ≤ H → H ≤ W.heap.size → I H pre W → (∀ a' W', KeepsFrom w.heap.size W W' → KeepsR B H W W' → I H pre W' → Ax x a' W' → K a' W') →
   assign.wpIn (F.inRound l) (n - 1 - 1) P (Exit.then K (fun _ _ _ => False)) { tmps := (ps.zip (encs x)).foldl (fun t (p, v) => t.setIfInBounds p v) a.tmps, defers := [] } W)
 (hbody : ∀ (l H : Nat) (pre : List α) (x : α) (a' : Act) (W : World), w.heap.size ≤ l → w.heap.size ≤ H → H ≤ W.heap.size → (∃ r, W.heap[l]? = some (.loop r)) → I H pre W → Ax x a' W → pre.length < N → body.wpIn (F.inRound l) (n - 1 - 1) P (ownPostG w.heap.size (KeepsR B H) (I H) (Ix H) (pre ++ [x]) W) a' W)
 (hdone : ∀ (D H : Nat) (xs : List α) (W : World), w.heap.size ≤ D → w.heap.size ≤ H → S xs → I H xs W → W.heap[D]? = some (.deferred (some [])) → Q .normal { a with defers := { target := .collected D, args := #[] } :: a.defers } W)
 (hstop : ∀ (D H : Nat) (c : Code) (pre : List α) (W : World), w.heap.size ≤ D → w.heap.size ≤ H → Sp pre → Ix H c pre W → W.heap[D]? = some (.deferred (some [])) → c.wpIn F n P Q { a with defers := { target := .collected D, args := #[] } :: a.defers } W) :
 (Code.rangeFunc g ps assign body).wpIn F n P Q a w := by
 refine wpIn_rangeFunc fun fn hfn => ?_
 rw [hro]
 obtain ⟨rec, hrec⟩ : ∃ rec : LoopState → Option Code → Loop, rec = fun st pe => { state := st, pending := pe, fn, tmps := a.tmps, params := ps, assign, body, defers := w.heap.size } := ⟨_, rfl⟩
 obtain ⟨R, hR⟩ : ∃ R, R = w.heap.size + 1 := ⟨_, rfl⟩
 obtain ⟨V, hV⟩ : ∃ V, V = (w.alloc (.deferred (some []))).alloc (.loop (rec .ready none)) := ⟨_, rfl⟩
 have hVs : V.heap.size = w.heap.size + 2 := by rw [hV]; simp
 have hVl : V.heap[R]? = some (.loop (rec .ready none)) := by rw [hV, hR]; exact heap_new _ _ _ (by simp)
 have hVd : V.heap[w.heap.size]? = some (.deferred (some [])) := by rw [hV]; exact (Below.heap_alloc _ _ _ (by simp)).trans (World.alloc_heap_new w _)
 have hVb : Below w.heap.size w V := by rw [hV]; exact (((Below.refl _ w).alloc (Nat.le_refl _) _).alloc (by simp) _)
 have hVI : ∀ H, V.heap.size ≤ H → I H [] V := fun H hH => by rw [hV]; exact (hI H).alloc _ ((hI H).alloc _ (h0 H (by omega)))
 -- the two blocks of the loop's own
 obtain ⟨Bk, hBk⟩ : ∃ Bk : LoopState → Option Code → World → Prop, Bk = fun st pe W => W.heap[R]? = some (.loop (rec st pe)) ∧ W.heap[w.heap.size]? = some (.deferred (some [])) := ⟨_, rfl⟩
 have keep : ∀ st pe X Y row, Bk st pe X → X.grownBy Y row → (∀ r, row = some r → V.heap.size ≤ r) → Bk st pe Y := fun st pe X Y row h hgr hr => by
  rw [hBk] at h ⊢
  refine ⟨(hgr.block R (Array.getElem?_eq_some_iff.1 h.1).1 fun e => ?_).trans h.1, (hgr.block _ (Array.getElem?_eq_some_iff.1 h.2).1 fun e => ?_).trans h.2⟩
  · have := hr R e.symm; omega
  · have := hr _ e.symm; omega
 refine ⟨R, [{ target := .collected w.heap.size, args := #[] }], V, { target := .fn (.func gf) lb, args := #[.func (.yield R) #[] #[]] }, V, gf, #[.func (.yield R) #[] #[]] ++ lb, V, ?_, ?_, ?_, ?_, h1, ?_⟩
 · rw [hR, hV, hrec]; exact run_enterLoop_outer _ _ _ _ _
 · simp only [resolve, hg]
   simp [go_sem]
 · intro f' hf'; simp [Target.leads] at hf'; subst hf'; exact hFg
 · simp [invoke, go_sem, eg]
 refine (hseq R (fun H pre W => I H pre W ∧ Bk .ready none W) (fun H pre W => ∃ c, Ix H c pre W ∧ Bk .done (some c) W) V hVb ?_ ?_ ?_ ?_).mono ?_
 · exact fun H s X Y row h hgr hr => ⟨hI H s X Y row h.1 hgr (fun r e => ⟨by have := (hr r e).1; omega, (hr r e).2⟩), keep _ _ X Y row h.2 hgr (fun r e => (hr r e).1)⟩
 · rintro H s X Y row ⟨c, h, hk⟩ hgr hr
   exact ⟨c, hIx H c s X Y row h hgr (fun r e => ⟨by have := (hr r e).1; omega, (hr r e).2⟩), keep _ _ X Y row hk hgr (fun r e => (hr r e).1)⟩
 · -- a round
   rintro H pre x W1 hVH hHW ⟨hi, hb⟩ hlen
   rw [hBk] at hb
   obtain ⟨hl, hd⟩ := hb
   have hy := run_yield (P := P) (args := encs x) hl (by rw [hrec]; exact hps x)
   rw [hrec] at hy
   refine ⟨fn, _, assign, body, hy, roundIn_of_wpIn hfn (hassign _ H pre x W1 _ (by omega) hHW hi ?_)⟩
   intro a' W2 hf2 hr2 hi2 hx2
   have hl2 := hf2.same _ _ (by omega) hl rfl
   have hd2 := hf2.same _ _ (Nat.le_refl _) hd rfl
   have hlt2 : R < W2.heap.size := (Array.getElem?_eq_some_iff.1 hl2).1
   refine ⟨_, run_beginRound hl2 (by rw [hrec]), ?_⟩
   obtain ⟨W3, hW3⟩ : ∃ W3, W3 = W2.putObj R (.loop { rec .ready none with state := .busy }) := ⟨_, rfl⟩
   have hl3 : W3.heap[R]? = some (.loop { rec .ready none with state := .busy }) := by rw [hW3]; exact World.putObj_heap_same hlt2
   have hd3 : W3.heap[w.heap.size]? = some (.deferred (some [])) := by rw [hW3]; exact (World.putObj_heap_other (by omega)).trans hd2
   have hr3 : KeepsR B H W2 W3 := by rw [hW3]; exact KeepsR.put _ hl2 rfl
   have hf3 : KeepsFrom V.heap.size W1 W3 := ⟨by rw [hW3]; simp; exact hf2.size, fun j o hj hjo ho => by rw [hW3]; exact (World.putObj_heap_other (by omega)).trans (hf2.same j o (by omega) hjo ho)⟩
   have hi3 : I H pre W3 := by rw [hW3]; exact (hI H).putObj _ hi2 (by omega) hl2 rfl
   have hx3 : Ax x a' W3 := by rw [hW3]; exact (hAx x a').putObj (s := ()) _ hx2 (by omega) hl2 rfl
   rw [← hW3]
   clear hW3
   refine wpIn_mono (hbody _ H pre x a' W3 (by omega) (by omega) (by have h2 := hr2.1; have h3 := hr3.1; omega) ⟨_, hl3⟩ hi3 hx3 hlen) ?_
   have fin : ∀ (jump : Option Code) (W4 : World), KeepsFrom w.heap.size W3 W4 → ∃ W5, (Instr.endRound R jump).run P W4 = .ok (.bool jump.isNone) W5 ∧ W4.heap[R]? = some (.loop { rec .ready none with state := .busy }) ∧ W5 = W4.putObj R (.loop (rec (if jump.isNone then .ready else .done) jump)) ∧ Bk (if jump.isNone then .ready else .done) jump W5 ∧ KeepsFrom V.heap.size W1 W5 := fun jump W4 h4 => by
    have hl4 := h4.same _ _ (by omega) hl3 rfl
    have hlt4 : R < W4.heap.size := (Array.getElem?_eq_some_iff.1 hl4).1
    have he := run_endRound (P := P) jump hl4
    rw [hrec] at he hl4
    refine ⟨_, he, by rw [hrec]; exact hl4, by rw [hrec], ?_, ?_⟩
    · rw [hBk, hrec]
      exact ⟨World.putObj_heap_same hlt4, (World.putObj_heap_other (by omega)).trans (h4.same _ _ (Nat.le_refl _) hd3 rfl)⟩
    · exact ⟨by simp; exact Nat.le_trans hf3.size h4.size, fun j o hj hjo ho => (World.putObj_heap_other (by omega)).trans (h4.same j o (by omega) (hf3.same j o hj hjo ho) ho)⟩
   have stop : ∀ (c : Code) (W4 : World), KeepsFrom w.heap.size W3 W4 → Ix H c (pre ++ [x]) W4 → ∃ v W5, (Instr.endRound R (some c)).run P W4 = .ok v W5 ∧ ((Ending.returned v = .returned (.bool true) ∧ (I H (pre ++ [x]) W5 ∧ Bk .ready none W5) ∧ KeepsR B H W1 W5 ∧ KeepsFrom V.heap.size W1 W5) ∨ (Ending.returned v = .returned (.bool false) ∧ (∃ c, Ix H c (pre ++ [x]) W5 ∧ Bk .done (some c) W5) ∧ KeepsFrom V.heap.size W1 W5)) := fun c W4 h4 hi4 => by
    obtain ⟨W5, he, hl4, h5, hb5, hf5⟩ := fin (some c) W4 h4
    exact ⟨_, W5, he, .inr ⟨rfl, ⟨c, by rw [h5]; exact (hIx H c).putObj _ hi4 (by omega) hl4 rfl, hb5⟩, hf5⟩⟩
   rintro e a4 W4 hp
   cases e with
   | normal =>
     obtain ⟨h4, hr4, hi4⟩ := hp
     obtain ⟨W5, he, hl4, h5, hb5, hf5⟩ := fin none W4 h4
     refine ⟨_, W5, he, .inl ⟨rfl, ⟨by rw [h5]; exact (hI H).putObj _ hi4 (by omega) hl4 rfl, hb5⟩, hr2.trans (hr3.trans (hr4.trans ?_)), hf5⟩⟩
     rw [h5]
     exact KeepsR.put _ hl4 rfl
   | ret => exact stop .ret W4 hp.1 hp.2
   | exit id => exact stop (.exit id) W4 hp.1 hp.2
   | goto t => exact stop (.goto t) W4 hp.1 hp.2
   | panic ch => exact hp.elim
   | outgrown => exact hp.elim
 · exact fun H hH => ⟨hVI H hH, by rw [hBk]; exact ⟨hVl, hVd⟩⟩
 · rintro e W2 ⟨⟨v, rfl⟩, (⟨H, xs, hVH, hS, hi, hb⟩ | ⟨H, pre, hVH, hSp, c, hi, hb⟩)⟩
   · rw [hBk] at hb
     obtain ⟨hl, hd⟩ := hb
     have he := run_endLoop (P := P) hl (by rw [hrec]; simp)
     rw [hrec] at he
     exact ⟨none, _, he, hdone _ H xs _ (Nat.le_refl _) (by omega) hS ((hI H).putObj _ hi (by omega) hl rfl) ((World.putObj_heap_other (by omega)).trans hd)⟩
   · rw [hBk] at hb
     obtain ⟨hl, hd⟩ := hb
     have he := run_endLoop (P := P) hl (by rw [hrec]; simp)
     rw [hrec] at he
     exact ⟨some c, _, he, hstop _ H c pre _ (Nat.le_refl _) (by omega) hSp ((hIx H c).putObj _ hi (by omega) hl rfl) ((World.putObj_heap_other (by omega)).trans hd)⟩

attribute [local go_sem] Oper.semAt_some

abbrev TKo := { x : TK // okT x }

theorem tlt_unique {K L : List TK} (h : K.Pairwise tltP) (h' : L.Pairwise tltP) (he : ∀ x, x ∈ K ↔ x ∈ L) : K = L := by
 have n1 : K.Nodup := h.imp fun {a b} q e => by subst e; exact tltP.irrefl a q
 have n2 : L.Nodup := h'.imp fun {a b} q e => by subst e; exact tltP.irrefl a q
 refine List.Perm.eq_of_pairwise (fun a b _ _ h1 h2 => ?_) h h' ((List.perm_ext_iff_of_nodup n1 n2).2 he)
 exact absurd (tltP.trans h1 h2) (tltP.irrefl a)

theorem Kts.keepR {w w' : World} {v : Value} {K : List TK} {B H : Nat} (h : Kts w v K) (hl : Lies B v) (hH : w.heap.size ≤ H ∨ ∀ b, v.ownBlock = some b → b < H) (hk : KeepsR B H w w') : Kts w' v K := by
 obtain ⟨ao, cap, b, off, rfl, h0, h1⟩ := h
 refine ⟨ao, cap, b, off, rfl, h0, fun k hlt => ?_⟩
 obtain ⟨a, c0, c1, c2⟩ := h1 k hlt
 rcases h0 with rfl | rfl
 · simp at hlt
 · have hB : B ≤ b := hl b rfl
   have hb : b < H := by
    rcases hH with hH | hH
    · omega
    · exact hH b rfl
   exact ⟨Nat.lt_of_lt_of_le a hk.1, hk.cell (p := ⟨b, off + k * 3, none⟩) hB hb c0, hk.cell (p := ⟨b, off + k * 3 + 1, none⟩) hB hb c1, hk.cell (p := ⟨b, off + k * 3 + 2, none⟩) hB hb c2⟩
theorem Kts.in_ {w : World} {v : Value} {K : List TK} (h : Kts w v K) (hK : K ≠ []) : ∀ b, v.ownBlock = some b → b < w.heap.size := by
 obtain ⟨ao, cap, b, off, rfl, h0, h1⟩ := h
 rcases h0 with rfl | rfl
 · exact absurd rfl hK
 · intro c e
   injection e with e
   subst e
   exact (h1 0 (List.length_pos_iff.2 hK)).1

theorem grown_none {w w' : World} (h : Below w.heap.size w w') : w.grownBy w' none := ⟨h.os, h.tape, h.output, h.size, fun k hk _ => h.block k hk⟩

set_option maxRecDepth 100000 in
set_option maxHeartbeats 2000000 in
theorem tall_stops (n : Nat) (Ba p b N B : Nat) (c0 c1 c2 ov : Value) (V : TK → Option Value) (K : List TK) (w : World) (hBa : Ba < w.heap.size) (ha : w.cell? ⟨Ba, 0, none⟩ = some (.pointer (some ⟨p, 0, none⟩)))
 (hp : CBox w p 155 #[c0, c1, c2, .map (some b), ov]) (h : VMap KT w b N V) (hN : N ≤ 1000000) (hK : KeysV V K) (hKs : K.Pairwise tltP) (hB : B ≤ w.heap.size) :
 SeqG Fence.wide n Tryz.prog 160 #[.pointer (some ⟨Ba, 0, none⟩)] (fun x : TKo => #[encT x.1]) B (fun ss => ss.map Subtype.val = K) (fun pre => pre.map Subtype.val <+: K) N w := fun l J Jx W hW hJ hJx hY h0 => by
 have hBaW : Ba < W.heap.size := Nat.lt_of_lt_of_le hBa hW.size
 have ha' := (hW.cell (p := ⟨Ba, 0, none⟩) hBa).trans ha
 have hpW := hp.below hW hp.lt
 have hV := h.below hW h.lt
 obtain ⟨x3, _⟩ := hpW.at_ 3 _ rfl
 have hb1 : Below W.heap.size W (W.alloc (.cells #[.map (some b)] 152)) := (Below.refl _ _).alloc (Nat.le_refl _) _
 have HB1 := Lib.hid hb1
 have HS := Lib.hid ((callsIn_wide (n := n - 1)).2 (tsorted_any W.heap.size b N V (W.alloc (.cells #[.map (some b)] 152)) (by simp) ((show CBox (W.alloc (.cells #[.map (some b)] 152)) W.heap.size _ _ from CBox.new _ rfl).at_ 0 _ rfl).1 (hV.below hb1 hV.lt) hN))
 have HBW := Lib.hid (show B ≤ W.heap.size from Nat.le_trans hB hW.size)
 have HK := Lib.hid (show ∀ K', KeysV V K' → K'.Pairwise tltP → K' = K from fun K' h1 h2 => tlt_unique h2 hKs fun x => (h1.2 x).trans (hK.2 x).symm)
 have HOK := Lib.hid (show ∀ x ∈ K, okT x from fun x hx => h.1 x ((hK.2 x).1 hx))
 have HJ := Lib.hid hJ; have HY := Lib.hid hY; have H0 := Lib.hid h0
 clear hp hpW h hV hb1 ha hW hBa hB hK hKs hY hJ hJx h0
 refine callsIn_of_wp Tryz.func160 rfl trivial ?_ rfl
 simp only [Tryz.ntmps160, List.size_toArray, List.length_cons, List.length_nil, Nat.reduceAdd, Nat.reduceSub, Array.replicate_succ, Array.replicate_zero, List.push_toArray, List.append_toArray, List.nil_append, List.cons_append]
 gi_wp2_with (first
  | (refine ⟨trivial, fun hd => (by cases hd), ?_⟩; gi_at_call 162; refine (tkeys_in _ _ _).mono ?_; rintro e w1 ⟨rfl, rfl⟩)
  | (refine ⟨trivial, fun hd => (by cases hd), ?_⟩; gi_at_call 161; refine HS.out.mono ?_; rintro e w2 ⟨u, K', rfl, hk, hkv, hks, hkn, hb2, hli⟩; obtain rfl := HK.out K' hkv hks; have HL := Lib.hid (And.intro hk (And.intro hli hb2)); have HKN := Lib.hid hkn; obtain ⟨kb, koff, klen, kidx, kc⟩ := hk.facts; clear hk hkv hks hkn hb2 hli HS kidx kc))
 have hH : W.heap.size ≤ w2.heap.size := Nat.le_trans HB1.out.size HL.out.2.2.size
 have hJ0 : J w2.heap.size [] w2 := HJ.out _ [] W w2 none (H0.out _ hH) (grown_none (HB1.out.trans (HL.out.2.2.mono HB1.out.size))) (fun r e => by cases e)
 have HH := Lib.hid hH
 have HKI := Lib.hid HL.out.1
 have HLI := Lib.hid (show Lies B u from fun k e => by have := HL.out.2.1 k e; simp at this; have := HBW.out; omega)
 have hkb : K'.length ≤ 1000000 := Nat.le_trans HKN.out hN
 clear hH
 gi_loopw [14] (fun i wr => ∃ (k : Nat) (pre : List TKo), k ≤ K'.length ∧ i = .int .i64 k ∧ pre.map Subtype.val = K'.take k ∧ J w2.heap.size pre wr ∧ Kts wr u K' ∧ w2.heap.size ≤ wr.heap.size) (fun i _ => K'.length - (intOf i).toNat)
 case atStart => exact ⟨0, [], Nat.zero_le _, rfl, rfl, hJ0, HKI.out, Nat.le_refl _⟩
 case round =>
  obtain ⟨k, pre, hk, rfl, hpre, hJs, hks, hsz⟩ := hrel
  by_cases hlt : k < K'.length
  · obtain ⟨⟨xv, xg, xp⟩, ht⟩ : ∃ t : TK, t = K'.getD k default := ⟨_, rfl⟩
    have htk : K'[k] = (xv, xg, xp) := by rw [ht]; simp [List.getD_eq_getElem?_getD, hlt]
    have hok : okT (xv, xg, xp) := HOK.out _ (by rw [← htk]; exact List.getElem_mem hlt)
    obtain ⟨kb', koff', _, kidx, kc⟩ := hks.facts
    have hp := kidx k hlt
    obtain ⟨_, d0, d1, d2⟩ := kc k hlt
    rw [← ht] at d0 d1 d2
    have HT := Lib.hid (show (pre ++ [(⟨(xv, xg, xp), hok⟩ : TKo)]).map Subtype.val = K'.take (k + 1) from by rw [List.map_append, hpre, take_snoc K' k hlt, htk]; rfl)
    have HPL := Lib.hid (show pre.length < N from by have : (pre.map Subtype.val).length = k := by rw [hpre, List.length_take]; omega
                                                     have := HKN.out; simp at *; omega)
    have hJ2 : J w2.heap.size pre (wr.alloc (.cells #[.int .i64 xv, .string (bstr xg), .int .i64 xp] 177)) := (HJ.out _).alloc _ hJs
    have hks2 : Kts (wr.alloc (.cells #[.int .i64 xv, .string (bstr xg), .int .i64 xp] 177)) u K' := hks.mono ((Below.refl _ _).alloc (Nat.le_refl _) _)
    obtain ⟨fn, tmps, assign, body, hy, hR⟩ := HY.out w2.heap.size pre ⟨(xv, xg, xp), hok⟩ _ HH.out (by simp; omega) hJ2 HPL.out
    have HKS := Lib.hid hks2
    dsimp only [encT] at hy
    clear kidx kc ht htk hks hks2 hJs hJ2 hpre
    gi_wp2
    refine ⟨fun hd => (by cases hd), hR.mono ?_⟩
    rintro e W3 (⟨rfl, hJ3, hk3, hf3⟩ | ⟨rfl, hJx3, hf3⟩)
    · gi_wp2
      go_roundw
      case rel => exact ⟨k + 1, pre ++ [⟨(xv, xg, xp), hok⟩], by omega, by simp, HT.out, hJ3, HKS.out.keepR HLI.out (.inr (HKI.out.in_ (by intro e; rw [e] at hlt; simp at hlt))) hk3, by have := hk3.1; simp at this; omega⟩
      case measure => simp [intOf]; omega
    · gi_wp2
      refine bodyPost_ret (results_none rfl _ _ _) rfl ?_
      exact ⟨⟨_, rfl⟩, .inr ⟨_, _, HH.out, by rw [HT.out]; exact List.take_prefix _ _, hJx3⟩⟩
  · obtain rfl : k = K'.length := by omega
    gi_wp2
    go_end0
    exact ⟨⟨_, rfl⟩, .inl ⟨_, pre, HH.out, by simpa using hpre, hJs⟩⟩

set_option maxRecDepth 100000 in
theorem tall_stops_nil (n : Nat) (Ba N B : Nat) (w : World) (hBa : Ba < w.heap.size) (ha : w.cell? ⟨Ba, 0, none⟩ = some (.pointer none)) :
 SeqG Fence.wide n Tryz.prog 160 #[.pointer (some ⟨Ba, 0, none⟩)] (fun x : TKo => #[encT x.1]) B (fun ss => ss.map Subtype.val = []) (fun pre => pre.map Subtype.val <+: []) N w := fun l J Jx W hW hJ hJx hY h0 => by
 have ha' := (hW.cell (p := ⟨Ba, 0, none⟩) hBa).trans ha
 have H0 := Lib.hid h0
 clear hY hJ hJx h0 ha hW
 refine callsIn_of_wp Tryz.func160 rfl trivial ?_ rfl
 simp only [Tryz.ntmps160, List.size_toArray, List.length_cons, List.length_nil, Nat.reduceAdd, Nat.reduceSub, Array.replicate_succ, Array.replicate_zero, List.push_toArray, List.append_toArray, List.nil_append, List.cons_append]
 gi_wp2
 refine bodyPost_ret (results_none rfl _ _ _) rfl ?_
 exact ⟨⟨_, rfl⟩, .inl ⟨_, [], Nat.le_refl _, rfl, H0.out _ (Nat.le_refl _)⟩⟩
end Go.Proofs.YthcdppppppgckaaGreatDoor

namespace Go.Proofs.YthcdppppppgckaaGreatDoor
open Go.RowKit Go.Lib Go.Maps Go.Sort
set_option maxRecDepth 20000

def KI : KeyEnc Tryz.prog 3 Int where
 enc := Value.int .i64
 ok x := (Lit.int .i64 x).wf = true
 lit := Lit.int .i64
 reads _ h := keyOf_int_mk Tryz.underlying3 h
 all _ _ h := by obtain ⟨x, e, _, hw⟩ := Maps.keyOf_int_inv Tryz.underlying3 h; exact ⟨x, hw, e⟩
 inj _ _ h := by injection h
 law := int_keyed Tryz.underlying3

abbrev Stt := Bool × Int × List Tmd
abbrev Tst := TK → Option Stt
def encS (s : Stt) (v : Value) : Value := .agg #[.bool s.1, .int .i64 s.2.1, v]
def noS : Stt := (false, 0, [])

theorem CKeep.tms {w w' : World} (h : CKeep w w') {v : Value} {L : List Tmd} (hs : Tms w v L) : Tms w' v L := by
 obtain ⟨ao, cap, b, off, rfl, h0, h1, h2, h3⟩ := hs
 exact ⟨ao, cap, b, off, rfl, h0, h1, h2, fun k hk => by obtain ⟨hlt, c0, c1⟩ := h3 k hk; exact ⟨Nat.lt_of_lt_of_le hlt h.1, h.cell c0, h.cell c1⟩⟩
theorem CKeep.drew (w : World) : CKeep w w.drew := ⟨Nat.le_refl _, fun _ _ _ _ h => h⟩

def HoldT (w : World) (F : Tst) (V : TK → Option Value) : Prop := ∀ k, match F k with | none => V k = none | some s => ∃ v, V k = some (encS s v) ∧ Tms w v s.2.2 ∧ (Lit.int .i64 s.2.1).wf = true
def HoldO (O : Int → Option Int) (U : Int → Option Value) : Prop := ∀ x, U x = (O x).map (Value.int .i64)

def updS (F : Tst) (k : TK) (s : Stt) : Tst := fun x => if x = k then some s else F x
def delS (F : Tst) (k : TK) : Tst := fun x => if x = k then none else F x
def oldS (F : Tst) (k : TK) : Stt := (F k).getD noS
def updO (O : Int → Option Int) (v now : Int) : Int → Option Int := fun x => if x = v then some now else O x

theorem HoldT.keep {w w' : World} {F : Tst} {V : TK → Option Value} (h : HoldT w F V) (hk : CKeep w w') : HoldT w' F V := fun k => by
 have := h k
 cases hG : F k
 · rw [hG] at this; exact this
 · rw [hG] at this
   obtain ⟨v, e, hs, hw⟩ := this
   exact ⟨v, e, hk.tms hs, hw⟩
theorem HoldT.dom {w : World} {F : Tst} {V : TK → Option Value} (h : HoldT w F V) (k : TK) : V k ≠ none ↔ F k ≠ none := by
 have := h k
 cases hG : F k
 · rw [hG] at this; simp [this]
 · rw [hG] at this; obtain ⟨v, e, _⟩ := this; simp [e]
def KeysS (F : Tst) (K : List TK) : Prop := K.Pairwise tltP ∧ ∀ x, x ∈ K ↔ F x ≠ none
theorem KeysS.nodup {F : Tst} {K : List TK} (h : KeysS F K) : K.Nodup := h.1.imp fun {a _} q e => by subst e; exact tltP.irrefl a q
theorem KeysS.unique {F : Tst} {K L : List TK} (h : KeysS F K) (h' : KeysS F L) : K = L := tlt_unique h.1 h'.1 fun x => (h.2 x).trans (h'.2 x).symm
theorem HoldT.keys {w : World} {F : Tst} {V : TK → Option Value} (h : HoldT w F V) {K : List TK} (hK : KeysS F K) : KeysV V K := ⟨hK.nodup, fun x => (hK.2 x).trans (h.dom x).symm⟩
theorem HoldT.at_ {w : World} {F : Tst} {V : TK → Option Value} (h : HoldT w F V) (k : TK) : ∃ v, (V k).getD noState = encS (oldS F k) v ∧ Tms w v (oldS F k).2.2 ∧ (V k).isSome = (F k).isSome ∧ (Lit.int .i64 (oldS F k).2.1).wf = true := by
 have := h k
 unfold oldS
 cases hG : F k
 · rw [hG] at this
   dsimp only at this
   rw [this]
   exact ⟨_, rfl, Tms.nil _, rfl, by decide⟩
 · rw [hG] at this
   obtain ⟨v, e, hs, hw⟩ := this
   rw [e]
   exact ⟨v, rfl, hs, rfl, hw⟩
theorem HoldT.del {w : World} {F : Tst} {V : TK → Option Value} (h : HoldT w F V) (k : TK) : HoldT w (delS F k) (delV V k) := fun x => by
 have := h x
 unfold delS delV
 by_cases e : x = k
 · simp [e]
 · simp only [if_neg e]; exact this
theorem HoldT.upd {w : World} {F : Tst} {V : TK → Option Value} (h : HoldT w F V) (k : TK) (s : Stt) (v : Value) (hs : Tms w v s.2.2) (hw : (Lit.int .i64 s.2.1).wf = true) : HoldT w (updS F k s) (updV V k (encS s v)) := fun x => by
 have := h x
 unfold updS updV
 by_cases e : x = k
 · simp only [if_pos e]; exact ⟨v, rfl, hs, hw⟩
 · simp only [if_neg e]; exact this
theorem HoldO.upd {O : Int → Option Int} {U : Int → Option Value} (h : HoldO O U) (v now : Int) : HoldO (updO O v now) (updV U v (.int .i64 now)) := fun x => by
 have := h x
 unfold updO updV
 by_cases e : x = v
 · simp [e]
 · simp only [if_neg e]; exact this

structure Tb (w : World) (p b o n m : Nat) (room M L : Int) (F : Tst) (O : Int → Option Int) : Prop where
 box : CBox w p 155 #[.int .i64 room, .int .i64 M, .int .i64 L, .map (some b), .map (some o)]
 states : ∃ V, VMap KT w b n V ∧ HoldT w F V
 overs : ∃ U, VMap KI w o m U ∧ HoldO O U
 ne : b ≠ o

structure MTurn (b o : Nat) (w w' : World) : Prop where
 os : w'.os = w.os
 tape : w'.tape = w.tape
 output : w'.output = w.output
 size : w.heap.size ≤ w'.heap.size
 block : ∀ k, k < w.heap.size → k ≠ b → k ≠ o → w'.heap[k]? = w.heap[k]?

theorem MTurn.of_below {b o : Nat} {w w' : World} (h : Below w.heap.size w w') : MTurn b o w w' := ⟨h.os, h.tape, h.output, h.size, fun k hk _ _ => h.block k hk⟩
theorem MTurn.refl (b o : Nat) (w : World) : MTurn b o w w := .of_below (Below.refl _ _)
theorem MTurn.trans {b o : Nat} {x y z : World} (h : MTurn b o x y) (k : MTurn b o y z) : MTurn b o x z :=
 ⟨k.os.trans h.os, k.tape.trans h.tape, k.output.trans h.output, Nat.le_trans h.size k.size, fun i hi h1 h2 => (k.block i (Nat.lt_of_lt_of_le hi h.size) h1 h2).trans (h.block i hi h1 h2)⟩
theorem MTurn.of_grown {b o : Nat} {w w' : World} {row : Option Nat} (h : w.grownBy w' row) (hr : ∀ r, row = some r → r = b ∨ r = o ∨ w.heap.size ≤ r) : MTurn b o w w' :=
 ⟨h.os, h.tape, h.output, h.size, fun k hk h1 h2 => h.block k hk fun e => by rcases hr k e.symm with q | q | q <;> omega⟩
theorem MTurn.below {b o B : Nat} {w w' : World} (h : MTurn b o w w') (hB : B ≤ w.heap.size) (hb : B ≤ b) (ho : B ≤ o) : Below B w w' :=
 ⟨h.os, h.tape, h.output, h.size, fun k hk => h.block k (by omega) (by omega) (by omega)⟩
theorem MTurn.after {b o : Nat} {x y z : World} (h : Below x.heap.size x y) (k : MTurn b o y z) : MTurn b o x z := (MTurn.of_below h).trans k

theorem VMap.map_is {P : Program} {T : TypeId} {κ : Type} {K : KeyEnc P T κ} {w : World} {b n : Nat} {F : κ → Option Value} (h : VMap K w b n F) : ∃ es c, w.heap[b]? = some (.map es c) := by
 obtain ⟨_, D, ⟨es, clock, hb, _⟩, _⟩ := h
 exact ⟨es, clock, hb⟩

section
variable {w w' : World} {p b o n m : Nat} {room M L : Int} {F : Tst} {O : Int → Option Int}
theorem Tb.lt (h : Tb w p b o n m room M L F O) : p < w.heap.size ∧ b < w.heap.size ∧ o < w.heap.size := by
 obtain ⟨_, hV, _⟩ := h.states
 obtain ⟨_, hU, _⟩ := h.overs
 exact ⟨h.box.lt, hV.lt, hU.lt⟩
theorem Tb.apart (h : Tb w p b o n m room M L F O) : p ≠ b ∧ p ≠ o ∧ b ≠ o := by
 obtain ⟨_, hV, _⟩ := h.states
 obtain ⟨_, hU, _⟩ := h.overs
 obtain ⟨es, c, e⟩ := hV.map_is
 obtain ⟨es', c', e'⟩ := hU.map_is
 have hb : w.heap[p]? = some _ := h.box
 refine ⟨fun q => ?_, fun q => ?_, h.ne⟩
 · rw [q, e] at hb; cases hb
 · rw [q, e'] at hb; cases hb
theorem Tb.ckeep (h : Tb w p b o n m room M L F O) (ht : MTurn b o w w') : CKeep w w' := by
 obtain ⟨_, hV, _⟩ := h.states
 obtain ⟨_, hU, _⟩ := h.overs
 obtain ⟨es, c, e⟩ := hV.map_is
 obtain ⟨es', c', e'⟩ := hU.map_is
 refine ⟨ht.size, fun j cs T fr ej => (ht.block j (Array.getElem?_eq_some_iff.1 ej).1 (fun q => ?_) (fun q => ?_)).trans ej⟩
 · rw [q, e] at ej; cases ej
 · rw [q, e'] at ej; cases ej
theorem Tb.mono (h : Tb w p b o n m room M L F O) (hb : Below w.heap.size w w') : Tb w' p b o n m room M L F O := by
 obtain ⟨V, hV, hH⟩ := h.states
 obtain ⟨U, hU, hO⟩ := h.overs
 exact ⟨h.box.below hb h.box.lt, ⟨V, hV.below hb hV.lt, hH.keep (CKeep.of_below hb)⟩, ⟨U, hU.below hb hU.lt, hO⟩, h.ne⟩
theorem Tb.up {n' m' : Nat} (h : Tb w p b o n m room M L F O) (hn : n ≤ n') (hm : m ≤ m') : Tb w p b o n' m' room M L F O := by
 obtain ⟨V, hV, hH⟩ := h.states
 obtain ⟨U, hU, hO⟩ := h.overs
 exact ⟨h.box, ⟨V, hV.up hn, hH⟩, ⟨U, hU.up hm, hO⟩, h.ne⟩
theorem Tb.turned {V' : TK → Option Value} {F' : Tst} {n' : Nat} (h : Tb w p b o n m room M L F O) (ht : w.grownBy w' (some b)) (hV : VMap KT w' b n' V') (hH : HoldT w F' V') : Tb w' p b o n' m room M L F' O := by
 obtain ⟨U, hU, hO⟩ := h.overs
 obtain ⟨h1, h2, h3⟩ := h.apart
 exact ⟨h.box.grown ht (fun e => h1 (by injection e)), ⟨V', hV, hH.keep (h.ckeep (.of_grown ht fun r e => by injection e with e; exact .inl e.symm))⟩, ⟨U, hU.kept ht (fun e => h3 (by injection e with e; exact e.symm)), hO⟩, h.ne⟩
theorem Tb.keys (h : Tb w p b o n m room M L F O) : ∃ K, KeysS F K ∧ K.length ≤ n ∧ (∀ x ∈ K, okT x) ∧ ∀ ty, (Builtin.len_ #[152] ty #[.map (some b)]).run Tryz.prog w = .ok (.int .i64 K.length) w := by
 obtain ⟨V, hV, hH⟩ := h.states
 obtain ⟨K, hK, hn, hl⟩ := hV.count Tryz.underlying152
 have hp := List.mergeSort_perm K (fun x y => !ltOf cmpT y x)
 have hs : (K.mergeSort fun x y => !ltOf cmpT y x).Pairwise fun x y => (!ltOf cmpT y x) = true := by
  refine List.pairwise_mergeSort (fun a b c h1 h2 => ?_) (fun a b => ?_) K
  · have e1 : ¬ tltP b a := fun q => by have := (ltOf_cmpT b a).2 q; simp [this] at h1
    have e2 : ¬ tltP c b := fun q => by have := (ltOf_cmpT c b).2 q; simp [this] at h2
    have e3 : ¬ tltP c a := fun q => by
     rcases tltP.or a b with r | r | r
     · exact e2 (tltP.trans q r)
     · subst r; exact e2 q
     · exact e1 r
    cases hx : ltOf cmpT c a
    · rfl
    · exact absurd ((ltOf_cmpT c a).1 hx) e3
  · cases hx : ltOf cmpT b a
    · simp
    · cases hy : ltOf cmpT a b
      · simp
      · exact absurd (tltP.trans ((ltOf_cmpT _ _).1 hx) ((ltOf_cmpT _ _).1 hy)) (tltP.irrefl _)
 have hnd := hp.nodup_iff.2 hK.1
 refine ⟨K.mergeSort fun x y => !ltOf cmpT y x, ⟨?_, fun x => by rw [hp.mem_iff, hK.2 x]; exact hH.dom x⟩, by rw [hp.length_eq]; exact hn, fun x hx => hV.1 x ((hK.2 x).1 (hp.mem_iff.1 hx)), fun ty => by rw [hp.length_eq]; exact hl ty⟩
 refine (List.Pairwise.and hs hnd).imp fun {a b} q => ?_
 rcases tltP.or a b with r | r | r
 · exact r
 · exact absurd r q.2
 · have := (ltOf_cmpT b a).2 r
   simp [this] at q
end

def pexp (s : Stt) (now : Int) : Stt × Bool :=
 if pcheck s.1 s.2.1 s.2.2 then ((s.1 && decide (now < s.2.1), if (s.1 && decide (now < s.2.1)) then s.2.1 else 0, exL (s.1 && decide (now < s.2.1)) now s.2.2), (s.1 && decide (now < s.2.1)) || !(exL (s.1 && decide (now < s.2.1)) now s.2.2).isEmpty) else (noS, false)

theorem pexp_wf (s : Stt) (now : Int) (h : (Lit.int .i64 s.2.1).wf = true) : (Lit.int .i64 (pexp s now).1.2.1).wf = true := by
 unfold pexp
 split
 · dsimp only
   split
   · exact h
   · decide
 · decide

def RetPexp (w : World) (t : Stt × Bool) (e : Ending) (w' : World) : Prop :=
 ∃ v, e = .returned (.tuple #[encS t.1 v, .bool t.2]) ∧ Tms w' v t.1.2.2 ∧ Below w.heap.size w w'
theorem RetExp.plain {w : World} {s : Stt} {now : Int} {e : Ending} {w' : World} (h : RetExp w s.1 s.2.1 s.2.2 now (s.1 && decide (now < s.2.1)) e w') : RetPexp w (pexp s now) e w' := by
 rcases h with ⟨hf, rfl, hb⟩ | ⟨hp, v, L', rfl, hT, hA, _, _, hb⟩
 · unfold pexp
   rw [if_neg (by rw [hf]; simp)]
   exact ⟨_, rfl, Tms.nil _, hb⟩
 · have : L' = exL (s.1 && decide (now < s.2.1)) now s.2.2 := asc_unique hA (asc_ex _ now (pcheck_asc hp))
   subst this
   unfold pexp
   rw [if_pos hp]
   exact ⟨v, rfl, hT, hb⟩
theorem expire_st (s : Stt) (v : Value) (now : Int) (w : World) (h : Tms w v s.2.2) : Calls Tryz.prog 130 #[encS s v, .int .i64 now] w (RetPexp w (pexp s now)) :=
 (expire_any s.1 s.2.1 v s.2.2 now w h).mono fun _ _ h => h.plain
open Classical in
noncomputable def ascOf (F : Str → Option Int) : List Tmd := if h : ∃ L, Asc F L then h.choose else []
theorem ascOf_eq {F : Str → Option Int} {L : List Tmd} (h : Asc F L) : ascOf F = L := by
 have hx : ∃ L, Asc F L := ⟨L, h⟩
 unfold ascOf
 rw [dif_pos hx]
 exact asc_unique hx.choose_spec h
open Classical in
noncomputable def riseOf (q : Str → Bool) : List Str := if h : ∃ R, Rises q R then h.choose else []
theorem riseOf_eq {q : Str → Bool} {R : List Str} (h : Rises q R) : riseOf q = R := by
 have hx : ∃ R, Rises q R := ⟨R, h⟩
 unfold riseOf
 rw [dif_pos hx]
 exact rises_unique hx.choose_spec h

noncomputable def papp (s : Stt) (kind : Int) (S : List Str) (n : Nat) (now mem last : Int) : Int × Option Stt × (Bool × List Str) :=
 if verdict (pcheck s.1 s.2.1 s.2.2) kind n now mem last ≠ 0 then (verdict (pcheck s.1 s.2.1 s.2.2) kind n now mem last, none, (false, []))
 else if 60 < (ascOf (inF kind s.1 s.2.1 (rd s.2.2) S (now + mem))).length then (1, none, (false, []))
 else if inEx kind s.1 = false ∧ ascOf (inF kind s.1 s.2.1 (rd s.2.2) S (now + mem)) = [] then (0, none, (false, []))
 else (0, some (inEx kind s.1, if inG kind s.1 then min (inAt kind s.2.1 (now + mem)) (now + last) else inAt kind s.2.1 (now + mem),
  ascOf (soonF (inF kind s.1 s.2.1 (rd s.2.2) S (now + mem)) (riseOf (inQ kind s.1 s.2.1 (rd s.2.2) S (now + mem))) (now + last))),
  (inG kind s.1, riseOf (inQ kind s.1 s.2.1 (rd s.2.2) S (now + mem))))

def RetPapp (w : World) (t : Int × Option Stt × (Bool × List Str)) (e : Ending) (w' : World) : Prop :=
 ∃ v u, e = .returned (.tuple #[encS (t.2.1.getD noS) v, .bool t.2.1.isSome, .agg #[.bool t.2.2.1, u], .int .i64 t.1]) ∧ Tms w' v (t.2.1.getD noS).2.2 ∧ Strs w' u t.2.2.2 ∧ Below w.heap.size w w' ∧
   ∀ q, t.2.1 = some q → pcheck q.1 q.2.1 q.2.2 = true ∧ (Lit.int .i64 q.2.1).wf = true

theorem RetApp.plain {w : World} {s : Stt} {kind : Int} {S : List Str} {n : Nat} {now mem last : Int} {e : Ending} {w' : World} (hw : (Lit.int .i64 s.2.1).wf = true) (h : RetApp w s.1 s.2.1 s.2.2 kind S n now mem last e w') : RetPapp w (papp s kind S n now mem last) e w' := by
 obtain ⟨hb, h⟩ := h
 rcases h with ⟨hv, rfl⟩ | ⟨hv, K, hK, h⟩
 · unfold papp
   rw [if_pos hv]
   exact ⟨_, _, rfl, Tms.nil _, Strs.nil _, hb, fun q hq => by cases hq⟩
 · have ha := ascOf_eq (asc_with hK)
   have hl : (withF (inF kind s.1 s.2.1 (rd s.2.2) S (now + mem)) K).length = K.length := by unfold withF; rw [List.length_map]
   have hn : withF (inF kind s.1 s.2.1 (rd s.2.2) S (now + mem)) K = [] ↔ K = [] := by rw [← List.length_eq_zero_iff, hl, List.length_eq_zero_iff]
   unfold papp
   rw [if_neg (by rw [hv]; simp), ha, hl]
   rcases h with ⟨h1, rfl⟩ | ⟨h1, h2, rfl⟩ | ⟨h1, h2, v, L', u, R, rfl, hT, hU, hR, hA, _, _⟩
   · rw [if_pos h1]
     exact ⟨_, _, rfl, Tms.nil _, Strs.nil _, hb, fun q hq => by cases hq⟩
   · rw [if_neg (by omega), if_pos ⟨h2.1, hn.2 h2.2⟩]
     exact ⟨_, _, rfl, Tms.nil _, Strs.nil _, hb, fun q hq => by cases hq⟩
   · rw [if_neg (by omega), if_neg (fun h => h2 ⟨h.1, hn.1 h.2⟩), riseOf_eq hR, ascOf_eq hA]
     refine ⟨v, u, rfl, hT, hU, hb, fun q hq => ?_⟩
     injection hq with hq
     subst hq
     refine ⟨app_check hv hK h1 hA, ?_⟩
     obtain ⟨_, v1, v2, v3, v4, v5, v6, _⟩ := verdict_ok hv
     simp only [Lit.wf, IntKind.min, IntKind.max, IntKind.bits, IntKind.signed] at hw ⊢
     unfold inAt
     simp at hw ⊢
     split <;> split <;> omega

end Go.Proofs.YthcdppppppgckaaGreatDoor
