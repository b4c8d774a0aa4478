/- Texts joined into one file: BOc. -/
import Derived.Test.YthcdppppppgckaaGreatDoorC40
import Derived.Test.YthcdppppppgckaaGreatDoorC38
import Derived.Deep.Slices

namespace Go.Proofs.YthcdppppppgckaaGreatDoor
open Go.ChangeShapes Go.WideShapes Go.ChangeAt Go.RowKit Go.Joins Go.Deep
set_option maxRecDepth 20000

set_option maxRecDepth 100000

theorem weights_all {H : Type} {P : Program} {e : TypeId} {d : DataW H} : ∀ {l : List (DataW H)}, d ∈ l → ∀ n ∈ DataW.weights P e d, n ∈ DataW.weightsAll P e l
 | x :: l, hd, n, hn => by
   rw [DataW.weightsAll, List.mem_append]
   rcases List.mem_cons.1 hd with rfl | hd
   · exact .inl hn
   · exact .inr (weights_all hd n hn)
theorem weights_elem {H : Type} {P : Program} {t e : TypeId} {elems rest : List (DataW H)} (ht : P.underlying t = some (.slice e)) (h : (DataW.weights P t (.slice elems rest)).all (· ≤ reachBytes) = true) :
 elems.length * P.bytesOf e ≤ reachBytes ∧ ∀ d ∈ elems, (DataW.weights P e d).all (· ≤ reachBytes) = true := by
 simp only [DataW.weights, ht, List.all_cons, Bool.and_eq_true, decide_eq_true_eq, List.all_append] at h
 refine ⟨Nat.le_trans (Nat.mul_le_mul_right _ (Nat.le_add_right _ _)) h.1, fun d hd => List.all_eq_true.2 fun n hn => List.all_eq_true.1 h.2.1 n (weights_all hd n hn)⟩

section
variable {H : Type} {enc : TypeId × Value → H} {w : World} {base : Nat} {spare : Nat → Bool} {held : Bool} {fuel : Nat} {cs : List Value} {x : DataW H × List MemPlace}

theorem open_elems {α : Type} [Inhabited α] {P : Program} {t e : TypeId} {sz : Nat} (ht : P.underlying t = some (.slice e)) (hs : P.cellsOf e = sz) (h0 : 0 < sz) (Q : List Value → α → Prop)
 (hQ : ∀ n cs' y, DataW.trod enc P w base spare held n e cs' = some y → (DataW.weights P e y.1).all (· ≤ reachBytes) = true → ∃ q, Q cs' q)
 (h : DataW.trod enc P w base spare held fuel t cs = some x) (hsz : (DataW.weights P t x.1).all (· ≤ reachBytes) = true) :
 ∃ ao cap b off, ∃ L : List α, cs = [.slice ao L.length cap] ∧ (L = [] ∨ ao = some ⟨b, off, none⟩) ∧ L.length * P.bytesOf e ≤ reachBytes ∧ L.length ≤ cap ∧
   ∀ k, (hk : k < L.length) → ∃ cs', cs'.length = sz ∧ (∀ i, i < sz → w.cell? ⟨b, off + (k * sz + i), none⟩ = cs'[i]?) ∧ b < w.heap.size ∧ Q cs' L[k] := by
 rcases open_slice ht h with ⟨rfl, rfl⟩ | ⟨a, len, cap, m, n, D, Pl, rfl, hb, hl, hm, hmm, rfl, hx⟩
 · exact ⟨none, 0, 0, 0, [], rfl, .inl rfl, by simp, by simp, fun k hk => by simp at hk⟩
 · have hlm : len ≤ m := by rw [hmm]; split <;> omega
   obtain ⟨hw1, hw2⟩ := weights_elem ht hsz
   rw [List.length_map, List.length_range] at hw1
   have each : ∀ k, k < len → ∃ p : α × List Value, p.2.length = sz ∧ (∀ i, i < sz → w.cell? (a.add (k * sz + i)) = p.2[i]?) ∧ Q p.2 p.1 := by
    intro k hk
    obtain ⟨cs', h1, h2⟩ := hx k (by omega)
    rw [hs] at h1
    obtain ⟨_, hlen, hcell⟩ := World.cells?_some h1
    obtain ⟨q, hq⟩ := hQ _ _ _ h2 (hw2 _ (List.mem_map.2 ⟨k, List.mem_range.2 hk, rfl⟩))
    exact ⟨(q, cs'), hlen, fun i hi => by rw [← hcell i hi, add_add], hq⟩
   obtain ⟨q, hq⟩ := choose_lt each
   have hll : ((List.range len).map fun k => (q k).1).length = len := by simp
   obtain ⟨b, off, spot⟩ := a
   by_cases hl0 : len = 0
   · subst hl0
     exact ⟨some ⟨b, off, spot⟩, cap, b, off, [], rfl, .inl rfl, by simp, by simp, fun k hk => by simp at hk⟩
   · have hsome : ∀ k, k < len → ∀ i, i < sz → ∃ u, (q k).2[i]? = some u := fun k hk i hi => ⟨_, List.getElem?_eq_getElem (by rw [(hq k hk).1]; exact hi)⟩
     have hsp : spot = none := by
      cases spot with
      | none => rfl
      | some s =>
        exfalso
        obtain ⟨u, hu⟩ := hsome 0 (by omega) 0 h0
        have := (hq 0 (by omega)).2.1 0 h0
        rw [hu] at this
        simp [Addr.add, World.cell?] at this
        try (split at this <;> simp at this)
        try omega
     subst hsp
     refine ⟨some ⟨b, off, none⟩, cap, b, off, (List.range len).map fun k => (q k).1, by rw [hll], .inr rfl, by rw [hll]; exact hw1, by rw [hll]; exact hl, fun k hk => ?_⟩
     rw [hll] at hk
     obtain ⟨h1, h2, h3⟩ := hq k hk
     refine ⟨(q k).2, h1, fun i hi => by rw [← h2 i hi, add_lit], ?_, by simpa using h3⟩
     obtain ⟨u, hu⟩ := hsome k hk 0 h0
     have h4 := h2 0 h0
     rw [hu, add_lit] at h4
     exact World.block_lt_of_cell? w ⟨b, off + (k * sz + 0), none⟩ h4
end
theorem bytesI : Tryz.prog.bytesOf 3 = 8 := by kernel_rfl
theorem cellsI : Tryz.prog.cellsOf 3 = 1 := by kernel_rfl

theorem open_Ints {H : Type} {enc : TypeId × Value → H} {w : World} {base : Nat} {spare : Nat → Bool} {held : Bool} {fuel : Nat} {cs : List Value} {x : DataW H × List MemPlace}
 (h : DataW.trod enc Tryz.prog w base spare held fuel 23 cs = some x) (hsz : (DataW.weights Tryz.prog 23 x.1).all (· ≤ reachBytes) = true) : ∃ v L, cs = [v] ∧ Ints w v L := by
 rcases open_ints Tryz.underlying23 Tryz.underlying3 cellsI h with ⟨rfl, _⟩ | ⟨a, len, cap, zs, rfl, _, hl, hm, hz, rfl, hc, hwf⟩
 · exact ⟨_, [], rfl, Ints.nil w⟩
 · have hle : len ≤ zs.length := by rw [hz]; split <;> omega
   have hb : len ≤ 17592186044416 := by
    simp only [DataW.weights, Tryz.underlying23, List.all_cons, Bool.and_eq_true, bytesI, reachBytes] at hsz
    have := hsz.1
    simp [lits] at this
    omega
   refine ⟨_, zs.take len, rfl, some a, cap, a.block, a.off, by rw [List.length_take, Nat.min_eq_left hle], ?_, by rw [List.length_take]; omega, fun y hy => hwf y (List.mem_of_mem_take hy), fun k hk => ?_⟩
   · by_cases h0 : zs.take len = []
     · exact .inl h0
     · refine .inr ?_
       have h1 : 0 < zs.length := by
        cases zs with
        | nil => simp at h0
        | cons _ _ => simp
       have := hc 0 h1
       obtain ⟨b, off, spot⟩ := a
       cases spot with
       | none => rfl
       | some s => simp [Addr.add, World.cell?] at this; split at this <;> simp at this
   · rw [List.length_take] at hk
     have hk' := hc k (by omega)
     have e : (a.add k) = ⟨a.block, a.off + k, none⟩ := by
      obtain ⟨b, off, spot⟩ := a
      unfold Addr.add
      split
      · subst_vars
        cases spot with
        | none => rfl
        | some s => simp [Addr.add, World.cell?] at hk'; split at hk' <;> simp at hk'
      · rfl
     rw [e] at hk'
     refine ⟨World.block_lt_of_cell? w ⟨a.block, a.off + k, none⟩ hk', ?_⟩
     rw [hk', List.getD_eq_getElem?_getD, List.getD_eq_getElem?_getD, List.getElem?_take_of_lt (by omega)]
theorem weights_part {H : Type} {P : Program} {t : TypeId} {fs : Array Field} {parts : List (DataW H)} (hs : P.underlying t = some (.struct fs)) (h : (DataW.weights P t (.agg parts)).all (· ≤ reachBytes) = true)
 (j : Nat) (f : Field) (d : DataW H) (hf : fs[j]? = some f) (hd : parts[j]? = some d) : (DataW.weights P f.type d).all (· ≤ reachBytes) = true := by
 simp only [DataW.weights, hs] at h
 exact List.all_eq_true.2 (fun n hn => List.all_eq_true.1 h n (DataW.weights_mem_each (j := j) (t := f.type) (by simp; exact ⟨f, by simpa using hf, rfl⟩) hd n hn))
theorem weights_arg {H : Type} {P : Program} {ts : List TypeId} {ds : List (DataW H)} (h : (DataW.weightsEach P ts ds).all (· ≤ reachBytes) = true) (j : Nat) (t : TypeId) (d : DataW H) (ht : ts[j]? = some t) (hd : ds[j]? = some d) :
 (DataW.weights P t d).all (· ≤ reachBytes) = true :=
 List.all_eq_true.2 (fun n hn => List.all_eq_true.1 h n (DataW.weights_mem_each ht hd n hn))
theorem cellsPt : Tryz.prog.cellsOf 56 = 3 := by kernel_rfl
theorem cellsSI : Tryz.prog.cellsOf 23 = 1 := by kernel_rfl
section
variable {H : Type} {enc : TypeId × Value → H} {w : World} {base : Nat} {spare : Nat → Bool} {held : Bool} {fuel : Nat} {cs : List Value} {x : DataW H × List MemPlace}
theorem open_PtC (h : DataW.trod enc Tryz.prog w base spare held fuel 56 cs = some x) (hsz : (DataW.weights Tryz.prog 56 x.1).all (· ≤ reachBytes) = true) :
 ∃ q : Pt × Value × Value, cs = [.int .i64 q.1.default_, q.2.1, q.2.2] ∧ Ints w q.2.1 q.1.tagged ∧ Ints w q.2.2 q.1.plain ∧ (Lit.int .i64 q.1.default_).wf = true := by
 obtain ⟨xs, n, _, rfl, hcl, hlen, hf⟩ := DataW.trod_struct Tryz.underlying56 h
 match xs, hlen with
 | [y0, y1, y2], _ =>
   have hc3 : cs.length = 3 := hcl.trans (by kernel_rfl)
   match cs, hc3 with
   | [c0, c1, c2], _ =>
     have g0 := hf 0 _ rfl
     have g1 := hf 1 _ rfl
     have g2 := hf 2 _ rfl
     simp [cellsItB, cellsSI] at g0 g1 g2
     obtain ⟨d, e0, _, w0⟩ := DataW.trod_int Tryz.underlying3 g0
     obtain ⟨v1, L1, e1, i1⟩ := open_Ints g1 (weights_part Tryz.underlying56 hsz 1 _ _ rfl rfl)
     obtain ⟨v2, L2, e2, i2⟩ := open_Ints g2 (weights_part Tryz.underlying56 hsz 2 _ _ rfl rfl)
     simp only [List.cons.injEq, and_true] at e0 e1 e2
     subst e0 e1 e2
     exact ⟨(⟨d, L1, L2⟩, _, _), rfl, i1, i2, w0⟩
theorem open_PtsC (h : DataW.trod enc Tryz.prog w base spare held fuel 24 cs = some x) (hsz : (DataW.weights Tryz.prog 24 x.1).all (· ≤ reachBytes) = true) :
 ∃ ao n cap, cs = [.slice ao n cap] ∧ (8 < n ∨ ∃ L : List Pt, L.length = n ∧ Pts (fun _ => True) w (.slice ao n cap) L) := by
 obtain ⟨ao, cap, b, off, L, rfl, h0, h1, hcp, h2⟩ := open_elems (α := Pt × Value × Value) (sz := 3) Tryz.underlying24 cellsPt (by decide)
  (fun cs' q => cs' = [.int .i64 q.1.default_, q.2.1, q.2.2] ∧ Ints w q.2.1 q.1.tagged ∧ Ints w q.2.2 q.1.plain ∧ (Lit.int .i64 q.1.default_).wf = true)
  (fun n cs' y hy hw => open_PtC hy hw) h hsz
 refine ⟨ao, L.length, cap, rfl, ?_⟩
 rcases Nat.lt_or_ge 8 L.length with h8 | h8
 · exact .inl h8
 · have hl : (L.map Prod.fst).length = L.length := by simp
   refine .inr ⟨L.map Prod.fst, hl, ao, cap, b, off, by rw [hl], ?_, by rw [hl]; omega, fun k hk => ?_⟩
   · rcases h0 with rfl | h0
     · exact .inl rfl
     · exact .inr h0
   · rw [hl] at hk
     obtain ⟨cs', e1, e2, e3, rfl, i1, i2, wd⟩ := h2 k hk
     have hg : (L.map Prod.fst)[k]'(by rw [hl]; exact hk) = L[k].1 := by simp
     rw [hg]
     have d0 := e2 0 (by decide); have d1 := e2 1 (by decide); have d2 := e2 2 (by decide)
     exact ⟨e3, trivial, wd, _, _, d0, d1, d2, i1, i2, fun _ _ => trivial, fun _ _ => trivial⟩
theorem cellsSP : Tryz.prog.cellsOf 24 = 1 := by kernel_rfl
theorem cellsU64 : Tryz.prog.cellsOf 22 = 1 := by kernel_rfl
theorem open_CfC (h : DataW.trod enc Tryz.prog w base spare held fuel 27 cs = some x) (hsz : (DataW.weights Tryz.prog 27 x.1).all (· ≤ reachBytes) = true) :
 ∃ (c : Cfg) (vc : Value) (ao : Option Addr) (n cap : Nat), cs = (ccells c vc (.slice ao n cap)).toList ∧ c.id < 18446744073709551616 ∧ Ints w vc c.costs ∧ (8 < n ∨ (c.ports.length = n ∧ Pts (fun _ => True) w (.slice ao n cap) c.ports)) := by
 obtain ⟨xs, n, _, rfl, hcl, hlen, hf⟩ := DataW.trod_struct Tryz.underlying27 h
 match xs, hlen with
 | [y0, y1, y2, y3, y4, y5, y6, y7, y8, y9, y10, y11, y12], _ =>
   have hc13 : cs.length = 13 := hcl.trans (by kernel_rfl)
   match cs, hc13 with
   | [c0, c1, c2, c3, c4, c5, c6, c7, c8, c9, c10, c11, c12], _ =>
     have g0 := hf 0 _ rfl
     have g1 := hf 1 _ rfl
     have g2 := hf 2 _ rfl
     have g3 := hf 3 _ rfl
     have g4 := hf 4 _ rfl
     have g5 := hf 5 _ rfl
     have g6 := hf 6 _ rfl
     have g7 := hf 7 _ rfl
     have g8 := hf 8 _ rfl
     have g9 := hf 9 _ rfl
     have g10 := hf 10 _ rfl
     have g11 := hf 11 _ rfl
     have g12 := hf 12 _ rfl
     simp [cellsItB, cellsSI, cellsSP, cellsU64, cellsAdB, cellsBlB] at g0 g1 g2 g3 g4 g5 g6 g7 g8 g9 g10 g11 g12
     obtain ⟨k0, e0, _, w0⟩ := DataW.trod_int Tryz.underlying22 g0
     obtain ⟨v1, L1, e1, i1⟩ := open_Ints g1 (weights_part Tryz.underlying27 hsz 1 _ _ rfl rfl)
     obtain ⟨ao, m, cap, e2, i2⟩ := open_PtsC g2 (weights_part Tryz.underlying27 hsz 2 _ _ rfl rfl)
     obtain ⟨s3, e3, _, _⟩ := DataW.trod_string Tryz.underlying25 g3
     obtain ⟨s4, e4, _, _⟩ := DataW.trod_string Tryz.underlying25 g4
     obtain ⟨k5, e5, _, _⟩ := DataW.trod_int Tryz.underlying3 g5
     obtain ⟨k6, e6, _, _⟩ := DataW.trod_int Tryz.underlying3 g6
     obtain ⟨k7, e7, _, _⟩ := DataW.trod_int Tryz.underlying3 g7
     obtain ⟨k8, e8, _, _⟩ := DataW.trod_int Tryz.underlying3 g8
     obtain ⟨k9, e9, _, _⟩ := DataW.trod_int Tryz.underlying3 g9
     obtain ⟨k10, e10, _, _⟩ := DataW.trod_int Tryz.underlying3 g10
     obtain ⟨b11, e11, _⟩ := DataW.trod_bool Tryz.underlying4 g11
     obtain ⟨b12, e12, _⟩ := DataW.trod_bool Tryz.underlying4 g12
     obtain ⟨t3, rfl⟩ : ∃ g, s3 = bstr g := ⟨_, bstr_of _⟩
     obtain ⟨t4, rfl⟩ : ∃ g, s4 = bstr g := ⟨_, bstr_of _⟩
     have hk : 0 ≤ k0 ∧ k0 < 18446744073709551616 := by
      have w1 : (decide (IntKind.u64.min ≤ k0) && decide (k0 ≤ IntKind.u64.max)) = true := w0
      have e1 : IntKind.u64.min = 0 := by decide
      have e2 : IntKind.u64.max = 18446744073709551615 := by decide
      rw [e1, e2] at w1
      simp only [Bool.and_eq_true, decide_eq_true_eq] at w1
      omega
     obtain ⟨i0, rfl⟩ := Int.eq_ofNat_of_zero_le hk.1
     simp only [List.cons.injEq, and_true] at e0 e1 e2 e3 e4 e5 e6 e7 e8 e9 e10 e11 e12
     subst e0 e1 e2 e3 e4 e5 e6 e7 e8 e9 e10 e11 e12
     rcases i2 with h8 | ⟨L2, hL, i2⟩
     · exact ⟨⟨i0, L1, [], t3, t4, k5, k6, k7, k8, k9, k10, b11, b12⟩, _, ao, m, cap, rfl, (show i0 < 18446744073709551616 from by omega), i1, .inl h8⟩
     · exact ⟨⟨i0, L1, L2, t3, t4, k5, k6, k7, k8, k9, k10, b11, b12⟩, _, ao, m, cap, rfl, (show i0 < 18446744073709551616 from by omega), i1, .inr ⟨hL, i2⟩⟩
theorem open_Cf {r : Reach} {b0 : Nat} {v : Value} {d : DataW H} {p : List MemPlace} (hv : Value.okWide Tryz.prog w r b0 27 v) (h : DataW.Trod enc Tryz.prog w base spare held 27 v d p) (hsz : (DataW.weights Tryz.prog 27 d).all (· ≤ reachBytes) = true) :
 ∃ (c : Cfg) (vc : Value) (ao : Option Addr) (n cap : Nat), v = encC c vc (.slice ao n cap) ∧ c.id < 18446744073709551616 ∧ Ints w vc c.costs ∧ (8 < n ∨ (c.ports.length = n ∧ Pts (fun _ => True) w (.slice ao n cap) c.ports)) := by
 obtain ⟨cs, rfl, _⟩ := okWide_struct Tryz.underlying27 hv
 obtain ⟨fuel, hf⟩ := h
 obtain ⟨c, vc, ao, n, cap, e, k⟩ := open_CfC hf hsz
 refine ⟨c, vc, ao, n, cap, ?_, k⟩
 have : cs.toList = _ := e
 unfold encC
 congr 1
 exact Array.toList_inj.1 this
end
end Go.Proofs.YthcdppppppgckaaGreatDoor
