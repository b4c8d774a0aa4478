/- Texts joined into one file: PPlain, POpen, PAfter. -/
import Derived.Test.YtfloipdkhmgibaaS22
import Derived.Test.YtfloipdkhmgibaaS17
import Derived.Test.YtfloipdkhmgibaaS18
import Derived.Deep.RegionWith

/- What is let through, in plain words: filters of states, and what many let through together. -/
namespace Go.Proofs.Ytfloipdkhmgibaa
open Go.RowKit Go.Lib Go.Maps Go.Sort
set_option maxRecDepth 20000

theorem nm_has {F : Str → Option Int} {L : List Tmd} (h : Asc F L) (blk : Bool) (a : Str) : (nmL L blk).contains a = (match F a with | none => false | some z => (z == 0) == blk) := by
  rw [Bool.eq_iff_iff, List.contains_iff_mem]
  unfold nmL
  constructor
  · intro hm
    obtain ⟨t, ht, rfl⟩ := List.mem_map.1 hm
    obtain ⟨ht, hb⟩ := List.mem_filter.1 ht
    rw [h.2 t ht]
    exact hb
  · intro hm
    cases hF : F a
    · rw [hF] at hm; cases hm
    · rename_i z
      rw [hF] at hm
      obtain ⟨t, ht, rfl⟩ := List.mem_map.1 ((h.1.2 a).2 (by rw [hF]; simp))
      have := h.2 t ht
      rw [hF] at this
      injection this with e
      subst e
      exact List.mem_map.2 ⟨t, List.mem_filter.2 ⟨ht, hm⟩, rfl⟩
theorem nm_blk {F : Str → Option Int} {L : List Tmd} (h : Asc F L) (a : Str) : (nmL L true).contains a = (F a == some 0) := by
  rw [nm_has h]
  cases F a <;> simp
theorem nm_run {F : Str → Option Int} {L : List Tmd} (h : Asc F L) (a : Str) : (nmL L false).contains a = ((F a).getD 0 != 0) := by
  rw [nm_has h]
  cases F a
  · rfl
  · rename_i z
    show ((z == 0) == false) = !(z == 0)
    cases (z == 0) <;> rfl

theorem adm_fil (ex : Bool) (at' : Int) (L : List Tmd) (now : Int) (x : Str) : adm (pfil ex at' L now).1 (pfil ex at' L now).2 x = padm ex at' L now x := by
  unfold pfil padm
  cases hp : pcheck ex at' L
  · simp [adm]
  · have hF := pcheck_asc hp
    have hA := asc_ex (ex && decide (now < at')) now hF
    cases he : (ex && decide (now < at'))
    · rw [he] at hA
      simp only [if_true, Bool.true_and, Bool.false_eq_true, if_false]
      unfold adm
      rw [nm_run hA]
      simp
    · rw [he] at hA
      simp only [if_true, Bool.true_and]
      unfold adm
      rw [nm_blk hA]
      simp
theorem asc_pairs {F : Str → Option Int} {L : List Tmd} (h : Asc F L) : (L.map Prod.fst).Pairwise (· < ·) := h.1.1
theorem pfil_asc (ex : Bool) (at' : Int) (L : List Tmd) (now : Int) : (pfil ex at' L now).2.Pairwise (· < ·) := by
  unfold pfil
  cases hp : pcheck ex at' L
  · simp
  · have hA := asc_ex (ex && decide (now < at')) now (pcheck_asc hp)
    simp only [if_true]
    unfold nmL
    exact (asc_pairs hA).sublist (List.Sublist.map _ List.filter_sublist)
def pf (now : Int) (s : Stt) : Bool × List Str := pfil s.1 s.2.1 s.2.2 now
theorem pOrF_adm (f g : Bool × List Str) (x : Str) : adm (pOrF f g).1 (pOrF f g).2 x = (adm f.1 f.2 x || adm g.1 g.2 x) := or_adm f.1 f.2 g.1 g.2 x
theorem sasc_pairs (L : List Str) : (sasc L).Pairwise (· < ·) := sasc_rising L
theorem pOrF_asc (f g : Bool × List Str) : (pOrF f g).2.Pairwise (· < ·) := sasc_pairs _
theorem fold_adm (now : Int) (x : Str) : ∀ (R : List Stt) (f : Bool × List Str), adm (R.foldl (fun f s => pOrF f (pf now s)) f).1 (R.foldl (fun f s => pOrF f (pf now s)) f).2 x = (adm f.1 f.2 x || R.any fun s => padm s.1 s.2.1 s.2.2 now x)
  | [], f => by simp
  | s :: R, f => by
    rw [List.foldl_cons, fold_adm now x R, pOrF_adm, List.any_cons]
    unfold pf
    rw [adm_fil, Bool.or_assoc]
theorem fold_ex (now : Int) : ∀ (R : List Stt) (f : Bool × List Str), (R.foldl (fun f s => pOrF f (pf now s)) f).1 = (f.1 || R.any fun s => (pf now s).1)
  | [], f => by simp
  | s :: R, f => by rw [List.foldl_cons, fold_ex now R, List.any_cons]; simp [pOrF, Bool.or_assoc]
theorem fold_asc (now : Int) : ∀ (R : List Stt) (f : Bool × List Str), f.2.Pairwise (· < ·) → (R.foldl (fun f s => pOrF f (pf now s)) f).2.Pairwise (· < ·)
  | [], f, h => h
  | s :: R, f, _ => by rw [List.foldl_cons]; exact fold_asc now R _ (pOrF_asc _ _)
theorem adm_false' (x : Str) : adm false [] x = false := by simp [adm]
theorem pmerge_adm (now : Int) (R : List Stt) (x : Str) : adm (pmerge now R).1 (pmerge now R).2 x = R.any fun s => padm s.1 s.2.1 s.2.2 now x := by
  have := fold_adm now x R (false, [])
  rw [adm_false', Bool.false_or] at this
  exact this
theorem pmerge_ex (now : Int) (R : List Stt) : (pmerge now R).1 = R.any fun s => (pf now s).1 := by
  have := fold_ex now R (false, [])
  rw [Bool.false_or] at this
  exact this
theorem pmerge_asc (now : Int) (R : List Stt) : (pmerge now R).2.Pairwise (· < ·) := fold_asc now R (false, []) List.Pairwise.nil
theorem pmerge_twice (now : Int) (R : List Stt) : (pmerge now R).1 = (pmerge now (R.reverse ++ R)).1 ∧ (pmerge now R).2 = (pmerge now (R.reverse ++ R)).2 :=
  fil_same (by rw [pmerge_ex, pmerge_ex]; simp) (pmerge_asc _ _) (pmerge_asc _ _) (fun x => by rw [pmerge_adm, pmerge_adm]; simp)
theorem pmerge_one (now : Int) (s : Stt) : (pmerge now [s]).1 = (pfil s.1 s.2.1 s.2.2 now).1 ∧ (pmerge now [s]).2 = (pfil s.1 s.2.1 s.2.2 now).2 :=
  fil_same (by rw [pmerge_ex]; simp [pf]) (pmerge_asc _ _) (pfil_asc _ _ _ _) (fun x => by rw [pmerge_adm, adm_fil]; simp)
end Go.Proofs.Ytfloipdkhmgibaa

/- Opening what came in: slices of structs, whatever their elements; states, filters. -/
namespace Go.Proofs.Ytfloipdkhmgibaa
open Go.ChangeShapes Go.WideShapes Go.ChangeAt Go.RowKit Go.Joins Go.Deep
set_option maxRecDepth 20000

set_option maxRecDepth 100000

theorem weights_all {H : Type} {P : Program} {e : TypeId} {d : DataW H} : ∀ {l : List (DataW H)}, d ∈ l → ∀ n ∈ DataW.weights P e d, n ∈ DataW.weightsAll P e l
  | x :: l, hd, n, hn => by
    rw [DataW.weightsAll, List.mem_append]
    rcases List.mem_cons.1 hd with rfl | hd
    · exact .inl hn
    · exact .inr (weights_all hd n hn)
theorem weights_elem {H : Type} {P : Program} {t e : TypeId} {elems rest : List (DataW H)} (ht : P.underlying t = some (.slice e)) (h : (DataW.weights P t (.slice elems rest)).all (· ≤ reachBytes) = true) :
    elems.length * P.bytesOf e ≤ reachBytes ∧ ∀ d ∈ elems, (DataW.weights P e d).all (· ≤ reachBytes) = true := by
  simp only [DataW.weights, ht, List.all_cons, Bool.and_eq_true, decide_eq_true_eq, List.all_append] at h
  refine ⟨Nat.le_trans (Nat.mul_le_mul_right _ (Nat.le_add_right _ _)) h.1, fun d hd => List.all_eq_true.2 fun n hn => List.all_eq_true.1 h.2.1 n (weights_all hd n hn)⟩

section
variable {H : Type} {enc : TypeId × Value → H} {w : World} {base : Nat} {spare : Nat → Bool} {held : Bool} {fuel : Nat} {cs : List Value} {x : DataW H × List MemPlace}

/-- a slice of elements of sz cells that came in: Q tells an element from its cells -/
theorem open_elems {α : Type} [Inhabited α] {P : Program} {t e : TypeId} {sz : Nat} (ht : P.underlying t = some (.slice e)) (hs : P.cellsOf e = sz) (h0 : 0 < sz) (Q : List Value → α → Prop)
    (hQ : ∀ n cs' y, DataW.trod enc P w base spare held n e cs' = some y → (DataW.weights P e y.1).all (· ≤ reachBytes) = true → ∃ q, Q cs' q)
    (h : DataW.trod enc P w base spare held fuel t cs = some x) (hsz : (DataW.weights P t x.1).all (· ≤ reachBytes) = true) :
    ∃ ao cap b off, ∃ L : List α, cs = [.slice ao L.length cap] ∧ (L = [] ∨ ao = some ⟨b, off, none⟩) ∧ L.length * P.bytesOf e ≤ reachBytes ∧ L.length ≤ cap ∧
      ∀ k, (hk : k < L.length) → ∃ cs', cs'.length = sz ∧ (∀ i, i < sz → w.cell? ⟨b, off + (k * sz + i), none⟩ = cs'[i]?) ∧ b < w.heap.size ∧ Q cs' L[k] := by
  rcases open_slice ht h with ⟨rfl, rfl⟩ | ⟨a, len, cap, m, n, D, Pl, rfl, hb, hl, hm, hmm, rfl, hx⟩
  · exact ⟨none, 0, 0, 0, [], rfl, .inl rfl, by simp, by simp, fun k hk => by simp at hk⟩
  · have hlm : len ≤ m := by rw [hmm]; split <;> omega
    obtain ⟨hw1, hw2⟩ := weights_elem ht hsz
    rw [List.length_map, List.length_range] at hw1
    have each : ∀ k, k < len → ∃ p : α × List Value, p.2.length = sz ∧ (∀ i, i < sz → w.cell? (a.add (k * sz + i)) = p.2[i]?) ∧ Q p.2 p.1 := by
      intro k hk
      obtain ⟨cs', h1, h2⟩ := hx k (by omega)
      rw [hs] at h1
      obtain ⟨_, hlen, hcell⟩ := World.cells?_some h1
      obtain ⟨q, hq⟩ := hQ _ _ _ h2 (hw2 _ (List.mem_map.2 ⟨k, List.mem_range.2 hk, rfl⟩))
      exact ⟨(q, cs'), hlen, fun i hi => by rw [← hcell i hi, add_add], hq⟩
    obtain ⟨q, hq⟩ := choose_lt each
    have hll : ((List.range len).map fun k => (q k).1).length = len := by simp
    obtain ⟨b, off, spot⟩ := a
    by_cases hl0 : len = 0
    · subst hl0
      exact ⟨some ⟨b, off, spot⟩, cap, b, off, [], rfl, .inl rfl, by simp, by simp, fun k hk => by simp at hk⟩
    · have hsome : ∀ k, k < len → ∀ i, i < sz → ∃ u, (q k).2[i]? = some u := fun k hk i hi => ⟨_, List.getElem?_eq_getElem (by rw [(hq k hk).1]; exact hi)⟩
      have hsp : spot = none := by
        cases spot with
        | none => rfl
        | some s =>
          exfalso
          obtain ⟨u, hu⟩ := hsome 0 (by omega) 0 h0
          have := (hq 0 (by omega)).2.1 0 h0
          rw [hu] at this
          simp [Addr.add, World.cell?] at this
          try (split at this <;> simp at this)
          try omega
      subst hsp
      refine ⟨some ⟨b, off, none⟩, cap, b, off, (List.range len).map fun k => (q k).1, by rw [hll], .inr rfl, by rw [hll]; exact hw1, by rw [hll]; exact hl, fun k hk => ?_⟩
      rw [hll] at hk
      obtain ⟨h1, h2, h3⟩ := hq k hk
      refine ⟨(q k).2, h1, fun i hi => by rw [← h2 i hi, add_lit], ?_, by simpa using h3⟩
      obtain ⟨u, hu⟩ := hsome k hk 0 h0
      have h4 := h2 0 h0
      rw [hu, add_lit] at h4
      exact World.block_lt_of_cell? w ⟨b, off + (k * sz + 0), none⟩ h4

theorem bytesSt : Try.prog.bytesOf 32 = 40 := by kernel_rfl
theorem cellsSt : Try.prog.cellsOf 32 = 3 := by kernel_rfl

/-- a slice of states that came in -/
theorem open_StsC (h : DataW.trod enc Try.prog w base spare held fuel 22 cs = some x) (hsz : (DataW.weights Try.prog 22 x.1).all (· ≤ reachBytes) = true) : ∃ v R, cs = [v] ∧ Sts w v R ∧ ∀ ao n c, v = .slice ao n c → n ≤ c := by
  obtain ⟨ao, cap, b, off, L, rfl, h0, h1, hcp, h2⟩ := open_elems (α := Stt × Value) (sz := 3) Try.underlying22 cellsSt (by decide)
    (fun cs' q => cs' = [.bool q.1.1, .int .i64 q.1.2.1, q.2] ∧ Tms w q.2 q.1.2.2 ∧ (Lit.int .i64 q.1.2.1).wf = true)
    (fun n cs' y hy hw => by
      obtain ⟨ex, at', v, L, e, hT, wa⟩ := open_stateC hy hw
      exact ⟨((ex, at', L), v), e, hT, wa⟩) h hsz
  have hl : (L.map Prod.fst).length = L.length := by simp
  refine ⟨_, L.map Prod.fst, rfl, ⟨ao, cap, b, off, fun k => (L.getD k default).2, by rw [hl], ?_, ?_, fun k hk => ?_⟩, fun _ _ _ e => by injection e with _ e1 e2; omega⟩
  · rcases h0 with rfl | h0
    · exact .inl rfl
    · exact .inr h0
  · rw [bytesSt] at h1
    rw [hl]
    unfold reachBytes at h1
    omega
  · rw [hl] at hk
    obtain ⟨cs', e1, e2, e3, rfl, hT, wa⟩ := h2 k hk
    have g : (L.map Prod.fst).getD k default = L[k].1 := by simp [List.getD_eq_getElem?_getD, hk]
    have g' : L.getD k default = L[k] := by simp [List.getD_eq_getElem?_getD, hk]
    dsimp only
    rw [g, g']
    exact ⟨e3, e2 0 (by decide), e2 1 (by decide), e2 2 (by decide), hT, wa⟩

theorem open_filterC (h : DataW.trod enc Try.prog w base spare held fuel 28 cs = some x) (hsz : (DataW.weights Try.prog 28 x.1).all (· ≤ reachBytes) = true) :
    ∃ e v L, cs = [.bool e, v] ∧ Strs w v L := by
  obtain ⟨xs, n, _, rfl, hcl, hlen, hf⟩ := DataW.trod_struct Try.underlying28 h
  match xs, hlen with
  | [y0, y1], _ =>
    have hc3 : cs.length = 2 := hcl.trans (by kernel_rfl)
    match cs, hc3 with
    | [c0, c1], _ =>
      have g0 := hf 0 _ rfl
      have g1 := hf 1 _ rfl
      have k0 : Try.prog.cellsOf 4 = 1 := by kernel_rfl
      have k2 : Try.prog.cellsOf 26 = 1 := by kernel_rfl
      simp [k0, k2] at g0 g1
      obtain ⟨e, e0, _⟩ := DataW.trod_bool Try.underlying4 g0
      obtain ⟨v, L, e2, hT⟩ := open_Strs g1 (weights_part Try.underlying28 hsz 1 _ _ rfl rfl)
      simp only [List.cons.injEq, and_true] at e0 e2
      subst e0 e2
      exact ⟨e, _, L, rfl, hT⟩
end

theorem open_filter {H : Type} {enc : TypeId × Value → H} {w : World} {base : Nat} {spare : Nat → Bool} {held : Bool} {r : Reach} {b0 : Nat} {v : Value} {d : DataW H} {p : List MemPlace}
    (hv : Value.okWide Try.prog w r b0 28 v) (h : DataW.Trod enc Try.prog w base spare held 28 v d p) (hsz : (DataW.weights Try.prog 28 d).all (· ≤ reachBytes) = true) :
    ∃ e u L, v = .agg #[.bool e, u] ∧ Strs w u L := by
  obtain ⟨cs, rfl, _⟩ := okWide_struct Try.underlying28 hv
  obtain ⟨fuel, hf⟩ := h
  obtain ⟨ex, u, L, e, hT⟩ := open_filterC hf hsz
  refine ⟨ex, u, L, ?_, hT⟩
  have : cs.toList = [.bool ex, u] := e
  congr 1
  exact Array.toList_inj.1 this

/-- a value of one cell reads as its cell -/
theorem trod_cell {H : Type} {enc : TypeId × Value → H} {w : World} {base : Nat} {spare : Nat → Bool} {held : Bool} {T : TypeId} {e : TypeId} {r : Reach} {b0 : Nat} {v : Value} {d : DataW H} {p : List MemPlace} (ht : Try.prog.underlying T = some (.slice e))
    (hv : Value.okWide Try.prog w r b0 T v) (h : DataW.Trod enc Try.prog w base spare held T v d p) : ∃ fuel, DataW.trod enc Try.prog w base spare held fuel T [v] = some (d, p) := by
  obtain ⟨a, n, c, rfl⟩ := okWide_slice ht hv
  obtain ⟨fuel, hf⟩ := h
  exact ⟨fuel, hf⟩
theorem open_Sts {H : Type} {enc : TypeId × Value → H} {w : World} {base : Nat} {spare : Nat → Bool} {held : Bool} {r : Reach} {b0 : Nat} {v : Value} {d : DataW H} {p : List MemPlace}
    (hv : Value.okWide Try.prog w r b0 22 v) (h : DataW.Trod enc Try.prog w base spare held 22 v d p) (hsz : (DataW.weights Try.prog 22 d).all (· ≤ reachBytes) = true) :
    ∃ R, Sts w v R ∧ ∀ ao n c, v = .slice ao n c → n ≤ c := by
  obtain ⟨fuel, hf⟩ := trod_cell Try.underlying22 hv h
  obtain ⟨u, R, e, hR, hc⟩ := open_StsC hf hsz
  simp only [List.cons.injEq, and_true] at e
  subst e
  exact ⟨R, hR, hc⟩
end Go.Proofs.Ytfloipdkhmgibaa

/- siphonlaw21.after: what a filter is behind a record; and what the records of Diff lead to. -/
namespace Go.Proofs.Ytfloipdkhmgibaa
open Go.RowKit Go.Lib Go.Sort
set_option maxRecDepth 20000
attribute [local go_sem ↓] Go.wp_at_zero Go.wp_at_succ

def aftE (k : Int) (e : Bool) : Bool := if k = 3 then false else if k = 4 then true else e
def aftB (k : Int) (a c : Bool) : Bool := if k = 3 then c else if k = 4 then !c else if k = 5 then a || c else a && !c
def foldE (e : Bool) (R : List Rec) : Bool := R.foldl (fun e r => aftE r.1 e) e
def foldB (x : Str) (a : Bool) (R : List Rec) : Bool := R.foldl (fun a r => aftB r.1 a (r.2.2.contains x)) a
def kindOk (k : Int) : Prop := k = 3 ∨ k = 4 ∨ k = 5 ∨ k = 6

theorem foldB_rec1 (x : Str) (a : Bool) (k : Int) (g : Str) (L : List Str) (hk : k = 5 ∨ k = 6) : foldB x a (rec1 k g L) = aftB k a (L.contains x) := by
  unfold rec1
  by_cases h : L = []
  · subst h
    rw [if_pos rfl]
    rcases hk with rfl | rfl <;> simp [foldB, aftB]
  · rw [if_neg h]; rfl

theorem foldE_rec1 (e : Bool) (k : Int) (g : Str) (L : List Str) (hk : k = 5 ∨ k = 6) : foldE e (rec1 k g L) = e := by
  unfold rec1
  by_cases h : L = []
  · rw [if_pos h]; rfl
  · rw [if_neg h]; rcases hk with rfl | rfl <;> rfl

theorem foldB_append (x : Str) (a : Bool) (R S : List Rec) : foldB x a (R ++ S) = foldB x (foldB x a R) S := by simp [foldB]
theorem foldE_append (e : Bool) (R S : List Rec) : foldE e (R ++ S) = foldE (foldE e R) S := by simp [foldE]

theorem kind_rec1 {k : Int} {g : Str} {L : List Str} (hk : kindOk k) : ∀ r ∈ rec1 k g L, kindOk r.1 := by
  intro r hr
  unfold rec1 at hr
  split at hr
  · simp at hr
  · rw [List.mem_singleton] at hr; subst hr; exact hk

theorem leads_plain (g : Str) (e : Bool) (A : List Str) (d : Bool) (B : List Str) :
    (pdiff g e A d B).length ≤ 2 ∧ (∀ r ∈ pdiff g e A d B, kindOk r.1) ∧ foldE e (pdiff g e A d B) = d ∧ ∀ x, foldB x (adm e A x) (pdiff g e A d B) = adm d B x := by
  unfold pdiff
  by_cases h : e = d
  · subst h
    rw [if_pos rfl]
    refine ⟨?_, ?_, ?_, fun x => ?_⟩
    · have h1 := rec1_len 5 g (sasc ((A ++ B).filter (pDif e B e A)))
      have h2 := rec1_len 6 g (sasc ((A ++ B).filter (pDif e A e B)))
      rw [List.length_append]; omega
    · intro r hr
      rcases List.mem_append.1 hr with hr | hr
      · exact kind_rec1 (.inr (.inr (.inl rfl))) r hr
      · exact kind_rec1 (.inr (.inr (.inr rfl))) r hr
    · rw [foldE_append, foldE_rec1 _ _ _ _ (.inl rfl), foldE_rec1 _ _ _ _ (.inr rfl)]
    · rw [foldB_append, foldB_rec1 _ _ _ _ _ (.inl rfl), foldB_rec1 _ _ _ _ _ (.inr rfl)]
      have c : ∀ p : Str → Bool, (sasc ((A ++ B).filter p)).contains x = ((A ++ B).contains x && p x) := fun p => by
        rw [Bool.eq_iff_iff, List.contains_iff_mem, sasc_mem, List.mem_filter, Bool.and_eq_true, List.contains_iff_mem]
      rw [c, c]
      by_cases hm : x ∈ A ++ B
      · have hc : (A ++ B).contains x = true := List.contains_iff_mem.2 hm
        rw [hc]
        unfold pDif aftB
        cases adm e A x <;> cases adm e B x <;> rfl
      · have hc : (A ++ B).contains x = false := by
          cases hh : (A ++ B).contains x
          · rfl
          · exact absurd (List.contains_iff_mem.1 hh) hm
        rw [hc]
        rw [List.mem_append] at hm
        rw [adm_not (fun k => hm (.inl k)), adm_not (fun k => hm (.inr k))]
        cases e <;> rfl
  · rw [if_neg h]
    refine ⟨by simp, fun r hr => ?_, ?_, fun x => ?_⟩
    · rw [List.mem_singleton] at hr; subst hr
      unfold kindOk
      cases d <;> simp
    · cases d <;> rfl
    · have hc : (sasc B).contains x = B.contains x := by rw [Bool.eq_iff_iff, List.contains_iff_mem, List.contains_iff_mem, sasc_mem]
      show aftB (if d then 4 else 3) _ ((sasc B).contains x) = adm d B x
      rw [hc]
      unfold adm aftB
      cases d <;> simp

/-- what 'after' hands back -/
def RetAft (w : World) (e : Bool) (L : List Str) (k : Int) (S : List Str) (en : Ending) (w' : World) : Prop :=
  ∃ E' L', RetFil w E' L' en w' ∧ L'.Pairwise (· < ·) ∧ E' = aftE k e ∧ ∀ x, adm E' L' x = aftB k (adm e L x) (S.contains x)

theorem adm_false (S : List Str) (x : Str) : adm false S x = S.contains x := by unfold adm; simp

theorem RetFil.aft {w : World} {e E' : Bool} {L L' S : List Str} {k : Int} {en : Ending} {w' : World} (h : RetFil w E' L' en w') (hp : L'.Pairwise (· < ·)) (hE : E' = aftE k e) (hx : ∀ x, adm E' L' x = aftB k (adm e L x) (S.contains x)) : RetAft w e L k S en w' :=
  ⟨E', L', h, hp, hE, hx⟩

set_option maxHeartbeats 4000000 in
theorem after_any (e : Bool) (v : Value) (L : List Str) (k : Int) (g : Str) (s : Value) (S : List Str) (w : World) (hv : Strs w v L) (hs : Strs w s S) (hk : kindOk k) (hl : L.length + S.length ≤ 4398046511104) :
    Calls Try.prog 24 #[.agg #[.bool e, v], .agg #[.int .i64 k, .string (bstr g), s]] w (RetAft w e L k S) := by
  obtain ⟨ao, cap, rfl⟩ := hv.shape
  obtain ⟨so, sc, rfl⟩ := hs.shape
  obtain ⟨W0, hW0⟩ : ∃ W0, W0 = (((w.alloc (.cells #[.bool e, .slice ao L.length cap] 28)).alloc (.cells #[.int .i64 k, .string (bstr g), .slice so S.length sc] 54)).alloc (.cells #[.bool false, .slice none 0 0] 28)).alloc (.cells #[.bool false, .slice so S.length sc] 28) := ⟨_, rfl⟩
  have hb0 : Below w.heap.size w W0 := by rw [hW0]; exact ((((Below.refl _ _).alloc (Nat.le_refl _) _).alloc (by simp) _).alloc (by simp <;> omega) _).alloc (by simp <;> omega) _
  have hs0 : W0.heap.size = w.heap.size + 4 := by rw [hW0]; simp
  have HZ := Lib.hid (fun W' (hb : Below (w.heap.size + 2 + 1) W0 W') => zbox (B := w.heap.size + 2) (T := 28) (by rw [hW0]; exact (Below.heap_alloc _ _ _ (by simp)).trans (heap_new _ _ _ (by simp))) hb)
  have HB0 := Lib.hid hb0
  have hv0 := hv.mono hb0
  have hs1 := hs.mono hb0
  rcases hk with rfl | rfl | rfl | rfl
  · have HC := Lib.hid (norm_any false _ S W0 hs1 (by omega))
    rw [hW0] at HC HB0 HZ
    have HX := Lib.hid (show ∀ x, adm false (sasc S) x = aftB 3 (adm e L x) (S.contains x) from fun x => by rw [adm_sasc, adm_false]; rfl)
    have HP := Lib.hid (sasc_rising S)
    generalize sasc S = R at *
    clear hv hs hv0 hs1 hb0 hs0 hW0 W0
    go_enter Try.func24, Try.ntmps24
    go_wp2_with ((with_reducible refine HC.out.mono ?_); rintro e w' ⟨o, rfl, ho, hb, hlo⟩; obtain ⟨oo, oc, rfl⟩ := ho.shape; have HB1 := Lib.hid (hb.mono (B' := w.heap.size + 2 + 1) (by simp <;> omega)); have HL := Lib.hid (hlo.mono (lo' := w.heap.size + 3) (by simp <;> omega)); obtain ⟨z0, z1, z2, z3⟩ := HZ.out _ HB1.out; have HH := Lib.hid ho; clear hb hlo ho; obtain ⟨r0, r1⟩ := cells_pairA (w := w') (b := w.heap.size + 1 + 1) z0 z1)
    exact bodyPost_ret (v := .agg #[.bool false, .slice oo R.length oc]) (by simp [results, Try.results24, go_sem, r0, r1]) rfl (RetFil.aft ⟨_, rfl, (HH.out.far HL.out (by simp <;> omega) _).far HL.out (by simp <;> omega) _, HB0.out.trans ((HB1.out.mono (by omega)).setCell (by simp <;> omega) _ |>.setCell (by simp <;> omega) _), HL.out.mono (by omega)⟩ HP.out rfl HX.out)
  · have HC := Lib.hid (not_any false _ S W0 hs1 (by omega))
    rw [hW0] at HC HB0 HZ
    have HX := Lib.hid (show ∀ x, adm true (sasc (S.filter (pMade (pNot false S) (!false)))) x = aftB 4 (adm e L x) (S.contains x) from fun x => (not_adm false S x).trans (by rw [adm_false]; rfl))
    have HP := Lib.hid (sasc_rising (S.filter (pMade (pNot false S) (!false))))
    generalize sasc (S.filter (pMade (pNot false S) (!false))) = R at *
    simp only [Bool.not_false] at HC
    clear hv hs hv0 hs1 hb0 hs0 hW0 W0
    go_enter Try.func24, Try.ntmps24
    go_wp2_with ((with_reducible refine HC.out.mono ?_); rintro e w' ⟨o, rfl, ho, hb, hlo⟩; obtain ⟨oo, oc, rfl⟩ := ho.shape; have HB1 := Lib.hid (hb.mono (B' := w.heap.size + 2 + 1) (by simp <;> omega)); have HL := Lib.hid (hlo.mono (lo' := w.heap.size + 3) (by simp <;> omega)); obtain ⟨z0, z1, z2, z3⟩ := HZ.out _ HB1.out; have HH := Lib.hid ho; clear hb hlo ho; obtain ⟨r0, r1⟩ := cells_pairA (w := w') (b := w.heap.size + 1 + 1) z0 z1)
    exact bodyPost_ret (v := .agg #[.bool true, .slice oo R.length oc]) (by simp [results, Try.results24, go_sem, r0, r1]) rfl (RetFil.aft ⟨_, rfl, (HH.out.far HL.out (by simp <;> omega) _).far HL.out (by simp <;> omega) _, HB0.out.trans ((HB1.out.mono (by omega)).setCell (by simp <;> omega) _ |>.setCell (by simp <;> omega) _), HL.out.mono (by omega)⟩ HP.out (by simp [aftE]) HX.out)
  · have HC := Lib.hid (or_any e false _ _ L S W0 hv0 hs1 (by omega))
    rw [hW0] at HC HB0 HZ
    have HX := Lib.hid (show ∀ x, adm e (sasc ((L ++ S).filter (pMade (pOr e L false S) (e || false)))) x = aftB 5 (adm e L x) (S.contains x) from fun x => by have := or_adm e L false S x; rw [Bool.or_false] at this; rw [Bool.or_false, this, adm_false]; rfl)
    have HP := Lib.hid (sasc_rising ((L ++ S).filter (pMade (pOr e L false S) (e || false))))
    generalize sasc ((L ++ S).filter (pMade (pOr e L false S) (e || false))) = R at *
    simp only [Bool.or_false] at HC
    clear hv hs hv0 hs1 hb0 hs0 hW0 W0
    go_enter Try.func24, Try.ntmps24
    go_wp2_with ((with_reducible refine HC.out.mono ?_); rintro e w' ⟨o, rfl, ho, hb, hlo⟩; obtain ⟨oo, oc, rfl⟩ := ho.shape; have HB1 := Lib.hid (hb.mono (B' := w.heap.size + 2 + 1) (by simp <;> omega)); have HL := Lib.hid (hlo.mono (lo' := w.heap.size + 3) (by simp <;> omega)); obtain ⟨z0, z1, z2, z3⟩ := HZ.out _ HB1.out; have HH := Lib.hid ho; clear hb hlo ho; obtain ⟨r0, r1⟩ := cells_pairA (w := w') (b := w.heap.size + 1 + 1) z0 z1)
    exact bodyPost_ret (v := .agg #[.bool e, .slice oo R.length oc]) (by simp [results, Try.results24, go_sem, r0, r1]) rfl (RetFil.aft ⟨_, rfl, (HH.out.far HL.out (by simp <;> omega) _).far HL.out (by simp <;> omega) _, HB0.out.trans ((HB1.out.mono (by omega)).setCell (by simp <;> omega) _ |>.setCell (by simp <;> omega) _), HL.out.mono (by omega)⟩ HP.out (by simp [aftE]) HX.out)
  · obtain ⟨N, hN⟩ : ∃ N, N = sasc (S.filter (pMade (pNot false S) (!false))) := ⟨_, rfl⟩
    have hnl : N.length ≤ S.length := by rw [hN]; exact sasc_flen _ _
    have hnx : ∀ x, adm true N x = !S.contains x := fun x => by rw [hN]; exact (not_adm false S x).trans (by rw [adm_false])
    obtain ⟨R, hR⟩ : ∃ R, R = sasc ((L ++ N).filter (pMade (pAnd e L true N) (e && true))) := ⟨_, rfl⟩
    have HX := Lib.hid (show ∀ x, adm e R x = aftB 6 (adm e L x) (S.contains x) from fun x => by
      have := and_adm e L true N x
      rw [← hR, Bool.and_true, hnx] at this
      rw [this]; rfl)
    have HP := Lib.hid (show R.Pairwise (· < ·) by rw [hR]; exact sasc_rising _)
    have HC : Hid (Calls Try.prog 44 #[.agg #[.bool false, .slice so S.length sc]] W0.drew (RetFil W0.drew true N)) := by
      rw [hN]; exact not_any false _ S W0.drew (hs1.draws 1) (by omega)
    have HD : Hid (∀ (W' : World) (u : Value), Below w.heap.size w W' → Strs W' u N → Calls Try.prog 45 #[.agg #[.bool e, .slice ao L.length cap], .agg #[.bool true, u]] W' (RetFil W' e R)) := by
      intro W' u hb hu
      have := and_any e true _ u L N W' (hv.mono hb) hu (by omega)
      rw [← hR, Bool.and_true] at this
      exact this
    have f0 : FBox W0 w.heap.size e (.slice ao L.length cap) := by rw [hW0]; exact (((FBox.new _ _ rfl).old _).old _).old _
    have f3 : FBox W0 (w.heap.size + 3) false (.slice so S.length sc) := by rw [hW0]; exact FBox.new _ _ (by simp)
    have k1 : W0.cell? ⟨w.heap.size + 1, 0, none⟩ = some (.int .i64 6) := by rw [hW0]; exact cell_alloc_old (by simp <;> omega) (cell_alloc_old (by simp <;> omega) (cell_alloc_new (by simp) rfl))
    have HK := Lib.hid (show ∀ W', Below W0.heap.size W0 W' → W'.cell? ⟨w.heap.size, 0, none⟩ = some (.bool e) ∧ W'.cell? ⟨w.heap.size, 1, none⟩ = some (.slice ao L.length cap) ∧ W'.cell? ⟨w.heap.size + 3, 0, none⟩ = some (.bool false) ∧ W'.cell? ⟨w.heap.size + 3, 1, none⟩ = some (.slice so S.length sc) from fun W' hb =>
      ⟨(f0.below hb f0.lt).facts.1, (f0.below hb f0.lt).facts.2.1, (f3.below hb f3.lt).facts.1, (f3.below hb f3.lt).facts.2.1⟩)
    have HK2 := Lib.hid (show ∀ W', Below W0.heap.size W0 W' → ∀ u1 u2, ((W'.setCell ⟨w.heap.size + 2, 0, none⟩ u1).setCell ⟨w.heap.size + 2, 1, none⟩ u2).cell? ⟨w.heap.size, 0, none⟩ = some (.bool e) ∧ ((W'.setCell ⟨w.heap.size + 2, 0, none⟩ u1).setCell ⟨w.heap.size + 2, 1, none⟩ u2).cell? ⟨w.heap.size, 1, none⟩ = some (.slice ao L.length cap) ∧ ((W'.setCell ⟨w.heap.size + 2, 0, none⟩ u1).setCell ⟨w.heap.size + 2, 1, none⟩ u2).cell? ⟨w.heap.size + 3, 0, none⟩ = some (.bool false) ∧ ((W'.setCell ⟨w.heap.size + 2, 0, none⟩ u1).setCell ⟨w.heap.size + 2, 1, none⟩ u2).cell? ⟨w.heap.size + 3, 1, none⟩ = some (.slice so S.length sc) from fun W' hb u1 u2 => by
      have g0 := f0.below hb f0.lt
      have g3 := f3.below hb f3.lt
      refine ⟨?_, ?_, ?_, ?_⟩
      all_goals
        rw [World.cell?_setCell_other _ _ _ _ (by simp), World.cell?_setCell_other _ _ _ _ (by simp)]
      · exact g0.facts.1
      · exact g0.facts.2.1
      · exact g3.facts.1
      · exact g3.facts.2.1)
    have HS0 := Lib.hid hs0
    have R0 := Lib.hid (Below.drew (Below.refl W0.heap.size W0))
    have HW0 := Lib.hid hW0
    rw [hW0] at HC HB0 HZ HK HK2 R0 HS0
    clear hv hs hv0 hs1 hb0 hs0 f0 f3 k1 hnx hN hR hW0 HW0 W0
    go_enter Try.func24, Try.ntmps24
    go_wp2
    go_region_held3 (fun w' => w'.cell? ⟨w.heap.size, 0, none⟩ = some (.bool e) ∧ w'.cell? ⟨w.heap.size, 1, none⟩ = some (.slice ao L.length cap) ∧ w'.cell? ⟨w.heap.size + 3, 0, none⟩ = some (.bool false) ∧ w'.cell? ⟨w.heap.size + 3, 1, none⟩ = some (.slice so S.length sc)) (first | exact HK2.out _ R2.out _ _ | exact HK.out _ R2.out | exact HK.out _ R1.out | exact HK.out _ R0.out) (first | ((with_reducible refine (HD.out _ _ (HB0.out.trans (R1.out.mono HB0.out.size)) HN.out).mono ?_); rintro e w2 ⟨o, rfl, ho, hb, hlo⟩; obtain ⟨oo, oc, rfl⟩ := ho.shape; have R2 := Lib.hid (R1.out.trans (hb.mono R1.out.size)); have hrs := R1.out.size; have HB1 := Lib.hid (R2.out.mono (B' := w.heap.size + 2 + 1) (by rw [HS0.out]; omega)); have HL := Lib.hid (hlo.mono (lo' := w.heap.size + 3) (by rw [HS0.out] at hrs; omega)); obtain ⟨z0, z1, z2, z3⟩ := HZ.out _ HB1.out; have HH := Lib.hid ho; clear hb hlo ho hrs) | ((with_reducible refine HC.out.mono ?_); rintro e w1 ⟨o, rfl, ho, hb, _⟩; obtain ⟨no, nc, rfl⟩ := ho.shape; have HN := Lib.hid ho; have R1 := Lib.hid (R0.out.trans (hb.mono (by simp))); clear ho hb))
    obtain ⟨r0, r1⟩ := cells_pairA (w := w2) (b := w.heap.size + 1 + 1) z0 z1
    go_wp2
    exact bodyPost_ret (v := .agg #[.bool e, .slice oo R.length oc]) (by simp [results, Try.results24, go_sem, r0, r1]) rfl (RetFil.aft ⟨_, rfl, (HH.out.far HL.out (by simp <;> omega) _).far HL.out (by simp <;> omega) _, HB0.out.trans ((HB1.out.mono (by omega)).setCell (by simp <;> omega) _ |>.setCell (by simp <;> omega) _), HL.out.mono (by omega)⟩ HP.out (by simp [aftE]) HX.out)
end Go.Proofs.Ytfloipdkhmgibaa
