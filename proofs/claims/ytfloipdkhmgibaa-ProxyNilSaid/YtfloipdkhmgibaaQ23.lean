/- Texts joined into one file: PPlain, POpen, PLawMerges. -/
import Derived.Test.YtfloipdkhmgibaaQ22
import Derived.Test.YtfloipdkhmgibaaQ17
import Derived.Test.YtfloipdkhmgibaaQ18

/- What is let through, in plain words: filters of states, and what many let through together. -/
namespace Go.Proofs.Ytfloipdkhmgibaa
open Go.RowKit Go.Lib Go.Maps Go.Sort
set_option maxRecDepth 20000

theorem nm_has {F : Str → Option Int} {L : List Tmd} (h : Asc F L) (blk : Bool) (a : Str) : (nmL L blk).contains a = (match F a with | none => false | some z => (z == 0) == blk) := by
  rw [Bool.eq_iff_iff, List.contains_iff_mem]
  unfold nmL
  constructor
  · intro hm
    obtain ⟨t, ht, rfl⟩ := List.mem_map.1 hm
    obtain ⟨ht, hb⟩ := List.mem_filter.1 ht
    rw [h.2 t ht]
    exact hb
  · intro hm
    cases hF : F a
    · rw [hF] at hm; cases hm
    · rename_i z
      rw [hF] at hm
      obtain ⟨t, ht, rfl⟩ := List.mem_map.1 ((h.1.2 a).2 (by rw [hF]; simp))
      have := h.2 t ht
      rw [hF] at this
      injection this with e
      subst e
      exact List.mem_map.2 ⟨t, List.mem_filter.2 ⟨ht, hm⟩, rfl⟩
theorem nm_blk {F : Str → Option Int} {L : List Tmd} (h : Asc F L) (a : Str) : (nmL L true).contains a = (F a == some 0) := by
  rw [nm_has h]
  cases F a <;> simp
theorem nm_run {F : Str → Option Int} {L : List Tmd} (h : Asc F L) (a : Str) : (nmL L false).contains a = ((F a).getD 0 != 0) := by
  rw [nm_has h]
  cases F a
  · rfl
  · rename_i z
    show ((z == 0) == false) = !(z == 0)
    cases (z == 0) <;> rfl

theorem adm_fil (ex : Bool) (at' : Int) (L : List Tmd) (now : Int) (x : Str) : adm (pfil ex at' L now).1 (pfil ex at' L now).2 x = padm ex at' L now x := by
  unfold pfil padm
  cases hp : pcheck ex at' L
  · simp [adm]
  · have hF := pcheck_asc hp
    have hA := asc_ex (ex && decide (now < at')) now hF
    cases he : (ex && decide (now < at'))
    · rw [he] at hA
      simp only [if_true, Bool.true_and, Bool.false_eq_true, if_false]
      unfold adm
      rw [nm_run hA]
      simp
    · rw [he] at hA
      simp only [if_true, Bool.true_and]
      unfold adm
      rw [nm_blk hA]
      simp
theorem asc_pairs {F : Str → Option Int} {L : List Tmd} (h : Asc F L) : (L.map Prod.fst).Pairwise (· < ·) := h.1.1
theorem pfil_asc (ex : Bool) (at' : Int) (L : List Tmd) (now : Int) : (pfil ex at' L now).2.Pairwise (· < ·) := by
  unfold pfil
  cases hp : pcheck ex at' L
  · simp
  · have hA := asc_ex (ex && decide (now < at')) now (pcheck_asc hp)
    simp only [if_true]
    unfold nmL
    exact (asc_pairs hA).sublist (List.Sublist.map _ List.filter_sublist)
def pf (now : Int) (s : Stt) : Bool × List Str := pfil s.1 s.2.1 s.2.2 now
theorem pOrF_adm (f g : Bool × List Str) (x : Str) : adm (pOrF f g).1 (pOrF f g).2 x = (adm f.1 f.2 x || adm g.1 g.2 x) := or_adm f.1 f.2 g.1 g.2 x
theorem sasc_pairs (L : List Str) : (sasc L).Pairwise (· < ·) := sasc_rising L
theorem pOrF_asc (f g : Bool × List Str) : (pOrF f g).2.Pairwise (· < ·) := sasc_pairs _
theorem fold_adm (now : Int) (x : Str) : ∀ (R : List Stt) (f : Bool × List Str), adm (R.foldl (fun f s => pOrF f (pf now s)) f).1 (R.foldl (fun f s => pOrF f (pf now s)) f).2 x = (adm f.1 f.2 x || R.any fun s => padm s.1 s.2.1 s.2.2 now x)
  | [], f => by simp
  | s :: R, f => by
    rw [List.foldl_cons, fold_adm now x R, pOrF_adm, List.any_cons]
    unfold pf
    rw [adm_fil, Bool.or_assoc]
theorem fold_ex (now : Int) : ∀ (R : List Stt) (f : Bool × List Str), (R.foldl (fun f s => pOrF f (pf now s)) f).1 = (f.1 || R.any fun s => (pf now s).1)
  | [], f => by simp
  | s :: R, f => by rw [List.foldl_cons, fold_ex now R, List.any_cons]; simp [pOrF, Bool.or_assoc]
theorem fold_asc (now : Int) : ∀ (R : List Stt) (f : Bool × List Str), f.2.Pairwise (· < ·) → (R.foldl (fun f s => pOrF f (pf now s)) f).2.Pairwise (· < ·)
  | [], f, h => h
  | s :: R, f, _ => by rw [List.foldl_cons]; exact fold_asc now R _ (pOrF_asc _ _)
theorem adm_false' (x : Str) : adm false [] x = false := by simp [adm]
theorem pmerge_adm (now : Int) (R : List Stt) (x : Str) : adm (pmerge now R).1 (pmerge now R).2 x = R.any fun s => padm s.1 s.2.1 s.2.2 now x := by
  have := fold_adm now x R (false, [])
  rw [adm_false', Bool.false_or] at this
  exact this
theorem pmerge_ex (now : Int) (R : List Stt) : (pmerge now R).1 = R.any fun s => (pf now s).1 := by
  have := fold_ex now R (false, [])
  rw [Bool.false_or] at this
  exact this
theorem pmerge_asc (now : Int) (R : List Stt) : (pmerge now R).2.Pairwise (· < ·) := fold_asc now R (false, []) List.Pairwise.nil
theorem pmerge_twice (now : Int) (R : List Stt) : (pmerge now R).1 = (pmerge now (R.reverse ++ R)).1 ∧ (pmerge now R).2 = (pmerge now (R.reverse ++ R)).2 :=
  fil_same (by rw [pmerge_ex, pmerge_ex]; simp) (pmerge_asc _ _) (pmerge_asc _ _) (fun x => by rw [pmerge_adm, pmerge_adm]; simp)
theorem pmerge_one (now : Int) (s : Stt) : (pmerge now [s]).1 = (pfil s.1 s.2.1 s.2.2 now).1 ∧ (pmerge now [s]).2 = (pfil s.1 s.2.1 s.2.2 now).2 :=
  fil_same (by rw [pmerge_ex]; simp [pf]) (pmerge_asc _ _) (pfil_asc _ _ _ _) (fun x => by rw [pmerge_adm, adm_fil]; simp)
end Go.Proofs.Ytfloipdkhmgibaa

/- Opening what came in: slices of structs, whatever their elements; states, filters. -/
namespace Go.Proofs.Ytfloipdkhmgibaa
open Go.ChangeShapes Go.WideShapes Go.ChangeAt Go.RowKit Go.Joins Go.Deep
set_option maxRecDepth 20000

set_option maxRecDepth 100000

theorem weights_all {H : Type} {P : Program} {e : TypeId} {d : DataW H} : ∀ {l : List (DataW H)}, d ∈ l → ∀ n ∈ DataW.weights P e d, n ∈ DataW.weightsAll P e l
  | x :: l, hd, n, hn => by
    rw [DataW.weightsAll, List.mem_append]
    rcases List.mem_cons.1 hd with rfl | hd
    · exact .inl hn
    · exact .inr (weights_all hd n hn)
theorem weights_elem {H : Type} {P : Program} {t e : TypeId} {elems rest : List (DataW H)} (ht : P.underlying t = some (.slice e)) (h : (DataW.weights P t (.slice elems rest)).all (· ≤ reachBytes) = true) :
    elems.length * P.bytesOf e ≤ reachBytes ∧ ∀ d ∈ elems, (DataW.weights P e d).all (· ≤ reachBytes) = true := by
  simp only [DataW.weights, ht, List.all_cons, Bool.and_eq_true, decide_eq_true_eq, List.all_append] at h
  refine ⟨Nat.le_trans (Nat.mul_le_mul_right _ (Nat.le_add_right _ _)) h.1, fun d hd => List.all_eq_true.2 fun n hn => List.all_eq_true.1 h.2.1 n (weights_all hd n hn)⟩

section
variable {H : Type} {enc : TypeId × Value → H} {w : World} {base : Nat} {spare : Nat → Bool} {held : Bool} {fuel : Nat} {cs : List Value} {x : DataW H × List MemPlace}

/-- a slice of elements of sz cells that came in: Q tells an element from its cells -/
theorem open_elems {α : Type} [Inhabited α] {P : Program} {t e : TypeId} {sz : Nat} (ht : P.underlying t = some (.slice e)) (hs : P.cellsOf e = sz) (h0 : 0 < sz) (Q : List Value → α → Prop)
    (hQ : ∀ n cs' y, DataW.trod enc P w base spare held n e cs' = some y → (DataW.weights P e y.1).all (· ≤ reachBytes) = true → ∃ q, Q cs' q)
    (h : DataW.trod enc P w base spare held fuel t cs = some x) (hsz : (DataW.weights P t x.1).all (· ≤ reachBytes) = true) :
    ∃ ao cap b off, ∃ L : List α, cs = [.slice ao L.length cap] ∧ (L = [] ∨ ao = some ⟨b, off, none⟩) ∧ L.length * P.bytesOf e ≤ reachBytes ∧ L.length ≤ cap ∧
      ∀ k, (hk : k < L.length) → ∃ cs', cs'.length = sz ∧ (∀ i, i < sz → w.cell? ⟨b, off + (k * sz + i), none⟩ = cs'[i]?) ∧ b < w.heap.size ∧ Q cs' L[k] := by
  rcases open_slice ht h with ⟨rfl, rfl⟩ | ⟨a, len, cap, m, n, D, Pl, rfl, hb, hl, hm, hmm, rfl, hx⟩
  · exact ⟨none, 0, 0, 0, [], rfl, .inl rfl, by simp, by simp, fun k hk => by simp at hk⟩
  · have hlm : len ≤ m := by rw [hmm]; split <;> omega
    obtain ⟨hw1, hw2⟩ := weights_elem ht hsz
    rw [List.length_map, List.length_range] at hw1
    have each : ∀ k, k < len → ∃ p : α × List Value, p.2.length = sz ∧ (∀ i, i < sz → w.cell? (a.add (k * sz + i)) = p.2[i]?) ∧ Q p.2 p.1 := by
      intro k hk
      obtain ⟨cs', h1, h2⟩ := hx k (by omega)
      rw [hs] at h1
      obtain ⟨_, hlen, hcell⟩ := World.cells?_some h1
      obtain ⟨q, hq⟩ := hQ _ _ _ h2 (hw2 _ (List.mem_map.2 ⟨k, List.mem_range.2 hk, rfl⟩))
      exact ⟨(q, cs'), hlen, fun i hi => by rw [← hcell i hi, add_add], hq⟩
    obtain ⟨q, hq⟩ := choose_lt each
    have hll : ((List.range len).map fun k => (q k).1).length = len := by simp
    obtain ⟨b, off, spot⟩ := a
    by_cases hl0 : len = 0
    · subst hl0
      exact ⟨some ⟨b, off, spot⟩, cap, b, off, [], rfl, .inl rfl, by simp, by simp, fun k hk => by simp at hk⟩
    · have hsome : ∀ k, k < len → ∀ i, i < sz → ∃ u, (q k).2[i]? = some u := fun k hk i hi => ⟨_, List.getElem?_eq_getElem (by rw [(hq k hk).1]; exact hi)⟩
      have hsp : spot = none := by
        cases spot with
        | none => rfl
        | some s =>
          exfalso
          obtain ⟨u, hu⟩ := hsome 0 (by omega) 0 h0
          have := (hq 0 (by omega)).2.1 0 h0
          rw [hu] at this
          simp [Addr.add, World.cell?] at this
          try (split at this <;> simp at this)
          try omega
      subst hsp
      refine ⟨some ⟨b, off, none⟩, cap, b, off, (List.range len).map fun k => (q k).1, by rw [hll], .inr rfl, by rw [hll]; exact hw1, by rw [hll]; exact hl, fun k hk => ?_⟩
      rw [hll] at hk
      obtain ⟨h1, h2, h3⟩ := hq k hk
      refine ⟨(q k).2, h1, fun i hi => by rw [← h2 i hi, add_lit], ?_, by simpa using h3⟩
      obtain ⟨u, hu⟩ := hsome k hk 0 h0
      have h4 := h2 0 h0
      rw [hu, add_lit] at h4
      exact World.block_lt_of_cell? w ⟨b, off + (k * sz + 0), none⟩ h4

theorem bytesSt : Try.prog.bytesOf 32 = 40 := by kernel_rfl
theorem cellsSt : Try.prog.cellsOf 32 = 3 := by kernel_rfl

/-- a slice of states that came in -/
theorem open_StsC (h : DataW.trod enc Try.prog w base spare held fuel 22 cs = some x) (hsz : (DataW.weights Try.prog 22 x.1).all (· ≤ reachBytes) = true) : ∃ v R, cs = [v] ∧ Sts w v R ∧ ∀ ao n c, v = .slice ao n c → n ≤ c := by
  obtain ⟨ao, cap, b, off, L, rfl, h0, h1, hcp, h2⟩ := open_elems (α := Stt × Value) (sz := 3) Try.underlying22 cellsSt (by decide)
    (fun cs' q => cs' = [.bool q.1.1, .int .i64 q.1.2.1, q.2] ∧ Tms w q.2 q.1.2.2 ∧ (Lit.int .i64 q.1.2.1).wf = true)
    (fun n cs' y hy hw => by
      obtain ⟨ex, at', v, L, e, hT, wa⟩ := open_stateC hy hw
      exact ⟨((ex, at', L), v), e, hT, wa⟩) h hsz
  have hl : (L.map Prod.fst).length = L.length := by simp
  refine ⟨_, L.map Prod.fst, rfl, ⟨ao, cap, b, off, fun k => (L.getD k default).2, by rw [hl], ?_, ?_, fun k hk => ?_⟩, fun _ _ _ e => by injection e with _ e1 e2; omega⟩
  · rcases h0 with rfl | h0
    · exact .inl rfl
    · exact .inr h0
  · rw [bytesSt] at h1
    rw [hl]
    unfold reachBytes at h1
    omega
  · rw [hl] at hk
    obtain ⟨cs', e1, e2, e3, rfl, hT, wa⟩ := h2 k hk
    have g : (L.map Prod.fst).getD k default = L[k].1 := by simp [List.getD_eq_getElem?_getD, hk]
    have g' : L.getD k default = L[k] := by simp [List.getD_eq_getElem?_getD, hk]
    dsimp only
    rw [g, g']
    exact ⟨e3, e2 0 (by decide), e2 1 (by decide), e2 2 (by decide), hT, wa⟩

theorem open_filterC (h : DataW.trod enc Try.prog w base spare held fuel 28 cs = some x) (hsz : (DataW.weights Try.prog 28 x.1).all (· ≤ reachBytes) = true) :
    ∃ e v L, cs = [.bool e, v] ∧ Strs w v L := by
  obtain ⟨xs, n, _, rfl, hcl, hlen, hf⟩ := DataW.trod_struct Try.underlying28 h
  match xs, hlen with
  | [y0, y1], _ =>
    have hc3 : cs.length = 2 := hcl.trans (by kernel_rfl)
    match cs, hc3 with
    | [c0, c1], _ =>
      have g0 := hf 0 _ rfl
      have g1 := hf 1 _ rfl
      have k0 : Try.prog.cellsOf 4 = 1 := by kernel_rfl
      have k2 : Try.prog.cellsOf 26 = 1 := by kernel_rfl
      simp [k0, k2] at g0 g1
      obtain ⟨e, e0, _⟩ := DataW.trod_bool Try.underlying4 g0
      obtain ⟨v, L, e2, hT⟩ := open_Strs g1 (weights_part Try.underlying28 hsz 1 _ _ rfl rfl)
      simp only [List.cons.injEq, and_true] at e0 e2
      subst e0 e2
      exact ⟨e, _, L, rfl, hT⟩
end

theorem open_filter {H : Type} {enc : TypeId × Value → H} {w : World} {base : Nat} {spare : Nat → Bool} {held : Bool} {r : Reach} {b0 : Nat} {v : Value} {d : DataW H} {p : List MemPlace}
    (hv : Value.okWide Try.prog w r b0 28 v) (h : DataW.Trod enc Try.prog w base spare held 28 v d p) (hsz : (DataW.weights Try.prog 28 d).all (· ≤ reachBytes) = true) :
    ∃ e u L, v = .agg #[.bool e, u] ∧ Strs w u L := by
  obtain ⟨cs, rfl, _⟩ := okWide_struct Try.underlying28 hv
  obtain ⟨fuel, hf⟩ := h
  obtain ⟨ex, u, L, e, hT⟩ := open_filterC hf hsz
  refine ⟨ex, u, L, ?_, hT⟩
  have : cs.toList = [.bool ex, u] := e
  congr 1
  exact Array.toList_inj.1 this

/-- a value of one cell reads as its cell -/
theorem trod_cell {H : Type} {enc : TypeId × Value → H} {w : World} {base : Nat} {spare : Nat → Bool} {held : Bool} {T : TypeId} {e : TypeId} {r : Reach} {b0 : Nat} {v : Value} {d : DataW H} {p : List MemPlace} (ht : Try.prog.underlying T = some (.slice e))
    (hv : Value.okWide Try.prog w r b0 T v) (h : DataW.Trod enc Try.prog w base spare held T v d p) : ∃ fuel, DataW.trod enc Try.prog w base spare held fuel T [v] = some (d, p) := by
  obtain ⟨a, n, c, rfl⟩ := okWide_slice ht hv
  obtain ⟨fuel, hf⟩ := h
  exact ⟨fuel, hf⟩
theorem open_Sts {H : Type} {enc : TypeId × Value → H} {w : World} {base : Nat} {spare : Nat → Bool} {held : Bool} {r : Reach} {b0 : Nat} {v : Value} {d : DataW H} {p : List MemPlace}
    (hv : Value.okWide Try.prog w r b0 22 v) (h : DataW.Trod enc Try.prog w base spare held 22 v d p) (hsz : (DataW.weights Try.prog 22 d).all (· ≤ reachBytes) = true) :
    ∃ R, Sts w v R ∧ ∀ ao n c, v = .slice ao n c → n ≤ c := by
  obtain ⟨fuel, hf⟩ := trod_cell Try.underlying22 hv h
  obtain ⟨u, R, e, hR, hc⟩ := open_StsC hf hsz
  simp only [List.cons.injEq, and_true] at e
  subst e
  exact ⟨R, hR, hc⟩
end Go.Proofs.Ytfloipdkhmgibaa

/- The walk of ProxyMerges. -/
namespace Go.Proofs.Ytfloipdkhmgibaa
open Go.RowKit Go.Lib Go.Maps Go.Sort
set_option maxRecDepth 20000

set_option maxRecDepth 20000

set_option maxHeartbeats 8000000 in
theorem law_merges (v : Value) (R : List Stt) (now : Int) (w : World) (h : Sts w v R) :
    Calls Try.prog 3 #[v, .int .i64 now] w fun e w' => e = .returned (.bool true) ∧ Below w.heap.size w w' := by
  obtain ⟨vo, vc, rfl⟩ := h.shape
  cases hf : pfew R
  · have HF := Lib.hid (pfew_any _ R w h)
    rw [hf] at HF
    clear h hf
    go_enter Try.func3, Try.ntmps3
    go_wp2_with ((with_reducible refine HF.out.mono ?_); rintro e w1 ⟨rfl, hw1⟩; subst w1)
    refine (live_yes _).mono ?_
    rintro e w2 ⟨rfl, hb⟩
    have HB := Lib.hid hb
    clear hb HF
    go_wp2_with fail
    go_ret
    exact ⟨rfl, HB.out⟩
  · have HF := Lib.hid (pfew_any _ R w h)
    rw [hf] at HF
    have hfe := hf
    unfold pfew at hfe
    rw [Bool.and_eq_true, decide_eq_true_eq, List.all_eq_true] at hfe
    have HS := Lib.hid (show ∀ s ∈ R, s.2.2.length ≤ 60 from fun s hs => of_decide_eq_true (hfe.2 s hs))
    have hl10 := hfe.1
    obtain ⟨b, off, src, hm, hlen, hidx, hc⟩ := h.facts
    have HX := Lib.hid h
    clear h hf hfe
    go_enter Try.func3, Try.ntmps3
    go_wp2_with ((with_reducible refine HF.out.mono ?_); rintro e w1 ⟨rfl, hw1⟩; subst w1)
    clear HF
    go_loopw [5] (fun i wr => ∃ k, k ≤ R.length ∧ i = .int .i64 (k : Nat) ∧ Below w.heap.size w wr) (fun i _ => R.length - (intOf i).toNat)
    case atStart => exact ⟨0, Nat.zero_le _, rfl, Below.refl _ _⟩
    case round =>
      obtain ⟨k, hk, rfl, hbr⟩ := hrel
      have HBR := Lib.hid hbr
      clear hbr
      by_cases hlt : k < R.length
      · obtain ⟨⟨e, a, L⟩, hst⟩ : ∃ t : Stt, t = R.getD k default := ⟨_, rfl⟩
        obtain ⟨hlb, c0, c1, c2, hT, _⟩ := hc k hlt
        rw [← hst] at c0 c1 hT
        have hL60 : L.length ≤ 60 := by
          have := HS.out (R.getD k default) (by simp [List.getD_eq_getElem?_getD, hlt])
          rw [← hst] at this
          exact this
        obtain ⟨so, sc, hso⟩ := hT.shape
        rw [hso] at c2 hT
        dsimp only at c0 c1 hT
        have hTw := hT.mono HBR.out
        have d0 := (HBR.out.cell (p := ⟨b, off + k * 3, none⟩) hlb).trans c0
        have d1 := (HBR.out.cell (p := ⟨b, off + k * 3 + 1, none⟩) hlb).trans c1
        have d2 := (HBR.out.cell (p := ⟨b, off + k * 3 + 2, none⟩) hlb).trans c2
        have hp := hidx k hlt
        have hlb' : b < wr.heap.size := Nat.lt_of_lt_of_le hlb HBR.out.size
        have HST := Lib.hid hst
        have HK := Lib.hid (show ∀ w', Below wr.heap.size wr w' → w'.cell? ⟨b, off + k * 3, none⟩ = some (.bool e) ∧ w'.cell? ⟨b, off + k * 3 + 1, none⟩ = some (.int .i64 a) ∧ w'.cell? ⟨b, off + k * 3 + 2, none⟩ = some (.slice so L.length sc) from fun w' hb => ⟨(hb.cell (p := ⟨b, off + k * 3, none⟩) hlb').trans d0, (hb.cell (p := ⟨b, off + k * 3 + 1, none⟩) hlb').trans d1, (hb.cell (p := ⟨b, off + k * 3 + 2, none⟩) hlb').trans d2⟩)
        have R0 := Lib.hid (Below.drew (Below.refl wr.heap.size wr))
        have HF1 := Lib.hid (fun W (hW : Below wr.heap.size wr W) => filter_any e a _ L now W (hTw.mono hW))
        have HF2 := Lib.hid (fun W (hW : Below wr.heap.size wr W) => rfilter_any e a _ L now W (hTw.mono hW))
        generalize pfil e a L now = g at HF1 HF2
        clear hidx hc hlb c0 c1 c2 hT hL60 hso hTw d0 d1 d2 hlb' hst
        go_wp2_with fail
        go_region_held3 (fun w' => w'.cell? ⟨b, off + k * 3, none⟩ = some (.bool e) ∧ w'.cell? ⟨b, off + k * 3 + 1, none⟩ = some (.int .i64 a) ∧ w'.cell? ⟨b, off + k * 3 + 2, none⟩ = some (.slice so L.length sc)) (first | exact HK.out _ R3.out | exact HK.out _ R2.out | exact HK.out _ R1.out | exact HK.out _ R0.out) (first | ((with_reducible refine (psame_yes _ _ _ _ _ _ _ T1.out T2.out rfl rfl).mono ?_); rintro e v3w ⟨rfl, hb⟩; replace T1 := Lib.hid (T1.out.mono hb); replace T2 := Lib.hid (T2.out.mono hb); have R3 := Lib.hid (R2.out.trans (hb.mono R2.out.size)); clear hb) | ((with_reducible refine (HF2.out _ R1.out).mono ?_); rintro e v2w ⟨u2, rfl, ho, hb, _⟩; obtain ⟨o2, c2, rfl⟩ := ho.shape; have T2 := Lib.hid ho; clear ho; replace T1 := Lib.hid (T1.out.mono hb); have R2 := Lib.hid (R1.out.trans (hb.mono R1.out.size)); clear hb) | ((with_reducible refine (HF1.out _ R0.out).mono ?_); rintro e v1w ⟨u1, rfl, ho, hb, _⟩; obtain ⟨o1, c1, rfl⟩ := ho.shape; have T1 := Lib.hid ho; clear ho; have R1 := Lib.hid (R0.out.trans (hb.mono R0.out.size)); clear hb))
        have HB2 := Lib.hid (HBR.out.trans (R3.out.mono HBR.out.size))
        clear R0 R1 R2 R3 T1 T2 HK HF1 HF2
        go_wp2_with fail
        go_roundw
        case rel => exact ⟨k + 1, by omega, by go_num, HB2.out⟩
        case measure => simp [intOf]; omega
      · have HM := Lib.hid (merge_any _ R now wr (HX.out.mono HBR.out) (by omega) HS.out)
        clear hidx hc
        go_wp2_with fail
        refine HM.out.mono ?_
        rintro e w1 ⟨u1, rfl, hs1, hb1, _⟩
        obtain ⟨o1, c1, rfl⟩ := hs1.shape
        have S1 := Lib.hid hs1; have HB1 := Lib.hid (HBR.out.trans (hb1.mono HBR.out.size))
        clear hs1 hb1 HM HBR
        have HM := Lib.hid (rmerge_any _ R now w1 (HX.out.mono HB1.out) (by omega) HS.out)
        go_wp2_with fail
        refine HM.out.mono ?_
        rintro e w2 ⟨u2, rfl, hs2, hb2, _⟩
        obtain ⟨o2, c2, rfl⟩ := hs2.shape
        have S2 := Lib.hid hs2; have HB2 := Lib.hid (HB1.out.trans (hb2.mono HB1.out.size))
        have HQ := Lib.hid (psame_yes _ _ _ _ _ _ w2 (S1.out.mono hb2) hs2 (Eq.refl (pmerge now R).1) rfl)
        clear hs2 hb2 HM HB1 S1
        go_wp2_with fail
        refine HQ.out.mono ?_
        rintro e w3 ⟨rfl, hb3⟩
        have HB3 := Lib.hid (HB2.out.trans (hb3.mono HB2.out.size))
        clear hb3 HB2 HQ S2
        go_wp2_with fail
        refine (live_yes _).mono ?_
        rintro e w4 ⟨rfl, hb4⟩
        have HB4 := Lib.hid (HB3.out.trans (hb4.mono HB3.out.size))
        clear hb4 HB3
        go_wp2_with fail
        go_ret
        exact ⟨rfl, HB4.out⟩
end Go.Proofs.Ytfloipdkhmgibaa
