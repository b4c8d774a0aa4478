/- Texts joined into one file: MOpen. -/
import Derived.Test.YthkibgdeibolfaaQ14

/- Opening what came in at layer 9: ways, messages with the lengths of their sources. -/
namespace Go.Proofs.Ythkibgdeibolfaa
open Go.ChangeShapes Go.WideShapes Go.ChangeAt Go.RowKit Go.Joins Go.Deep
set_option maxRecDepth 20000
set_option maxRecDepth 100000

theorem mem_strs {H : Type} {s : ByteArray} {l : List ByteArray} (h : s ∈ l) : (.lit (.string s.data.toList) : DataW H) ∈ strs (H := H) l := by
  induction l with
  | nil => cases h
  | cons x r ih =>
    have e : strs (H := H) (x :: r) = .lit (.string x.data.toList) :: strs r := rfl
    rw [e]
    rcases List.mem_cons.1 h with rfl | h
    · exact List.mem_cons_self ..
    · exact List.mem_cons_of_mem _ (ih h)
/-- a slice of strings that came in -/
theorem open_StrsL {H : Type} {enc : TypeId × Value → H} {w : World} {base : Nat} {spare : Nat → Bool} {held : Bool} {fuel : Nat} {cs : List Value} {x : DataW H × List MemPlace}
    (h : DataW.trod enc Try.prog w base spare held fuel 26 cs = some x) (hsz : (DataW.weights Try.prog 26 x.1).all (· ≤ reachBytes) = true) : ∃ v L, cs = [v] ∧ Strs w v L ∧ ∀ y ∈ L, y.length ≤ 140737488351232 := by
  rcases open_strings Try.underlying26 Try.underlying22 cellsAd h with ⟨rfl, _⟩ | ⟨a, len, cap, ss, rfl, _, hl, hm, hz, rfl, hc, hwf⟩
  · exact ⟨_, [], rfl, Strs.nil w, by simp⟩
  · have hle : len ≤ ss.length := by rw [hz]; split <;> omega
    have hb : len ≤ 8796093022208 := by
      simp only [DataW.weights, Try.underlying26, List.all_cons, Bool.and_eq_true, bytesAd, reachBytes] at hsz
      have := hsz.1
      simp [strs] at this
      omega
    have hlen : ((ss.take len).map fun s => s.data.toList).length = len := by simp; omega
    refine ⟨_, (ss.take len).map (fun s => s.data.toList), rfl, ?_, ?_⟩
    rotate_left
    · intro y hy
      obtain ⟨s, hs, rfl⟩ := List.mem_map.1 hy
      have h9 := hsz
      simp only [DataW.weights, Try.underlying26, List.all_cons, Bool.and_eq_true] at h9
      have h8 := List.all_eq_true.1 h9.2 s.data.toList.length (List.mem_append.2 (.inl (weights_all (d := .lit (.string s.data.toList)) (mem_strs hs) _ (by simp only [DataW.weights, List.mem_singleton]))))
      exact of_decide_eq_true h8
    refine ⟨some a, cap, a.block, a.off, by rw [hlen], ?_, by rw [hlen]; omega, ?_, fun k hk => ?_⟩
    · by_cases h0 : (ss.take len).map (fun s => s.data.toList) = []
      · exact .inl h0
      · refine .inr ?_
        have h1 : 0 < ss.length := by
          cases ss with
          | nil => simp at h0
          | cons _ _ => simp
        have := hc 0 h1
        obtain ⟨b, off, spot⟩ := a
        cases spot with
        | none => rfl
        | some s => simp [Addr.add, World.cell?] at this; split at this <;> simp at this
    · intro x hx
      obtain ⟨s, hs, rfl⟩ := List.mem_map.1 hx
      exact hwf s (List.mem_of_mem_take hs)
    · rw [hlen] at hk
      have hk' := hc k (by omega)
      have e : (a.add k) = ⟨a.block, a.off + k, none⟩ := by
        obtain ⟨b, off, spot⟩ := a
        unfold Addr.add
        split
        · subst_vars
          cases spot with
          | none => rfl
          | some s => simp [Addr.add, World.cell?] at hk'; split at hk' <;> simp at hk'
        · rfl
      rw [e] at hk'
      refine ⟨World.block_lt_of_cell? w ⟨a.block, a.off + k, none⟩ hk', ?_⟩
      rw [hk']
      have hks : k < ss.length := by omega
      simp [List.getD_eq_getElem?_getD, hks, hk, encStr]

theorem open_msgLC {H : Type} {enc : TypeId × Value → H} {w : World} {base : Nat} {spare : Nat → Bool} {held : Bool} {fuel : Nat} {cs : List Value} {x : DataW H × List MemPlace}
    (h : DataW.trod enc Try.prog w base spare held fuel 29 cs = some x) (hsz : (DataW.weights Try.prog 29 x.1).all (· ≤ reachBytes) = true) :
    ∃ (k v : Int) (g : Str) (mx : Int) (q : Bool) (r ev : Int) (vs : Value) (L : List Str) (vr : Value) (R : List Rec), cs = [.int .i64 k, .int .i64 v, .string (bstr g), .int .i64 mx, .bool q, .int .i64 r, .int .i64 ev, vs, vr] ∧
      Strs w vs L ∧ RecsW w vr R ∧ g.length ≤ 140737488351232 ∧ mx < 2 ^ 63 ∧ ev < 2 ^ 63 ∧ ∀ y ∈ L, y.length ≤ 140737488351232 := by
  obtain ⟨xs, n, _, rfl, hcl, hlen, hf⟩ := DataW.trod_struct Try.underlying29 h
  match xs, hlen with
  | [y0, y1, y2, y3, y4, y5, y6, y7, y8], _ =>
    have hc9 : cs.length = 9 := hcl.trans (by kernel_rfl)
    match cs, hc9 with
    | [c0, c1, c2, c3, c4, c5, c6, c7, c8], _ =>
      have g0 := hf 0 _ rfl
      have g1 := hf 1 _ rfl
      have g2 := hf 2 _ rfl
      have g3 := hf 3 _ rfl
      have g4 := hf 4 _ rfl
      have g5 := hf 5 _ rfl
      have g6 := hf 6 _ rfl
      have g7 := hf 7 _ rfl
      have g8 := hf 8 _ rfl
      have kb : Try.prog.cellsOf 4 = 1 := by kernel_rfl
      have k7 : Try.prog.cellsOf 26 = 1 := by kernel_rfl
      have k8 : Try.prog.cellsOf 27 = 1 := by kernel_rfl
      simp [cellsIt, cellsAd, kb, k7, k8] at g0 g1 g2 g3 g4 g5 g6 g7 g8
      obtain ⟨k, e0, _, _⟩ := DataW.trod_int Try.underlying3 g0
      obtain ⟨v, e1, _, _⟩ := DataW.trod_int Try.underlying3 g1
      obtain ⟨s, e2, z2, hs⟩ := DataW.trod_string Try.underlying22 g2
      obtain ⟨mx, e3, _, w3⟩ := DataW.trod_int Try.underlying3 g3
      obtain ⟨q, e4, _⟩ := DataW.trod_bool Try.underlying4 g4
      obtain ⟨r, e5, _, _⟩ := DataW.trod_int Try.underlying3 g5
      obtain ⟨ev, e6, _, w6⟩ := DataW.trod_int Try.underlying3 g6
      obtain ⟨vs, L, e7, hT, hbl⟩ := open_StrsL g7 (weights_part Try.underlying29 hsz 7 _ _ rfl rfl)
      obtain ⟨vr, R, e8, hR⟩ := open_RecsC g8 (weights_part Try.underlying29 hsz 8 _ _ rfl rfl)
      obtain ⟨g, rfl⟩ : ∃ g, s = bstr g := ⟨_, bstr_of _⟩
      rw [bstr_size] at hs
      simp only [List.cons.injEq, and_true] at e0 e1 e2 e3 e4 e5 e6 e7 e8
      subst e0 e1 e2 e3 e4 e5 e6 e7 e8
      have hw := weights_part Try.underlying29 hsz 2 _ _ rfl rfl
      rw [z2] at hw
      have hgl : (bstr g).data.toList = g := by have := bstr_toList g; rwa [Lib.toList_data] at this
      rw [hgl] at hw
      have hgb : g.length ≤ 140737488351232 := by
        simp only [DataW.weights, List.all_cons, List.all_nil, Bool.and_true, decide_eq_true_eq] at hw
        exact hw
      exact ⟨k, v, g, mx, q, r, ev, _, L, _, R, rfl, hT, hR, hgb, wf_lt w3, wf_lt w6, hbl⟩
theorem open_msgL {H : Type} {enc : TypeId × Value → H} {w : World} {base : Nat} {spare : Nat → Bool} {held : Bool} {r : Reach} {b0 : Nat} {v : Value} {d : DataW H} {p : List MemPlace}
    (hv : Value.okWide Try.prog w r b0 29 v) (h : DataW.Trod enc Try.prog w base spare held 29 v d p) (hsz : (DataW.weights Try.prog 29 d).all (· ≤ reachBytes) = true) :
    ∃ (k vn : Int) (g : Str) (mx : Int) (q : Bool) (rb ev : Int) (so : Option Addr) (L : List Str) (sc : Nat) (ro : Option Addr) (R : List Rec) (rc : Nat),
      v = .agg #[.int .i64 k, .int .i64 vn, .string (bstr g), .int .i64 mx, .bool q, .int .i64 rb, .int .i64 ev, .slice so L.length sc, .slice ro R.length rc] ∧
      Strs w (.slice so L.length sc) L ∧ RecsW w (.slice ro R.length rc) R ∧ g.length ≤ 140737488351232 ∧ mx < 2 ^ 63 ∧ ev < 2 ^ 63 ∧ ∀ y ∈ L, y.length ≤ 140737488351232 := by
  obtain ⟨cs, rfl, _⟩ := okWide_struct Try.underlying29 hv
  obtain ⟨fuel, hf⟩ := h
  obtain ⟨k, vn, g, mx, q, rb, ev, vs, L, vr, R, e, h1, h2, h3, h4, h5, h6⟩ := open_msgLC hf hsz
  obtain ⟨so, sc, rfl⟩ := h1.shape
  obtain ⟨ro, rc, rfl⟩ := h2.shape
  refine ⟨k, vn, g, mx, q, rb, ev, so, L, sc, ro, R, rc, ?_, h1, h2, h3, h4, h5, h6⟩
  congr 1
  exact Array.toList_inj.1 e
theorem open_way {H : Type} {enc : TypeId × Value → H} {w : World} {base : Nat} {spare : Nat → Bool} {held : Bool} {r : Reach} {b0 : Nat} {v : Value} {d : DataW H} {p : List MemPlace}
    (hv : Value.okWide Try.prog w r b0 24 v) (h : DataW.Trod enc Try.prog w base spare held 24 v d p) (hsz : (DataW.weights Try.prog 24 d).all (· ≤ reachBytes) = true) :
    ∃ (A B : Str), v = .agg #[.string (bstr A), .string (bstr B)] ∧ A.length ≤ 140737488351232 ∧ B.length ≤ 140737488351232 := by
  obtain ⟨cs, rfl, _⟩ := okWide_struct Try.underlying24 hv
  obtain ⟨fuel, hf⟩ := h
  obtain ⟨xs, n, _, hx, hcl, hlen, hf⟩ := DataW.trod_struct Try.underlying24 hf
  match xs, hlen with
  | [y0, y1], _ =>
    have hc2 : cs.toList.length = 2 := hcl.trans (by kernel_rfl)
    obtain ⟨c0, c1, hcs⟩ : ∃ c0 c1, cs.toList = [c0, c1] := by
      match hq : cs.toList, hc2 with
      | [c0, c1], _ => exact ⟨c0, c1, rfl⟩
    have hcs' : (Value.agg cs).cells.toList = [c0, c1] := hcs
    rw [hcs'] at hf
    have g0 := hf 0 _ rfl
    have g1 := hf 1 _ rfl
    simp [cellsAd] at g0 g1
    obtain ⟨s0, e0, z0, _⟩ := DataW.trod_string Try.underlying22 g0
    obtain ⟨s1, e1, z1, _⟩ := DataW.trod_string Try.underlying22 g1
    simp only [List.cons.injEq, and_true] at e0 e1
    subst e0 e1
    obtain ⟨A, rfl⟩ : ∃ g, s0 = bstr g := ⟨_, bstr_of _⟩
    obtain ⟨B, rfl⟩ : ∃ g, s1 = bstr g := ⟨_, bstr_of _⟩
    have hd : d = .agg [y0.1, y1.1] := by have := congrArg Prod.fst hx; simpa using this
    rw [hd] at hsz
    have h0 := weights_part Try.underlying24 hsz 0 _ _ rfl rfl
    have h1 := weights_part Try.underlying24 hsz 1 _ _ rfl rfl
    rw [z0] at h0
    rw [z1] at h1
    have gA : (bstr A).data.toList = A := by have := bstr_toList A; rwa [Lib.toList_data] at this
    have gB : (bstr B).data.toList = B := by have := bstr_toList B; rwa [Lib.toList_data] at this
    rw [gA] at h0
    rw [gB] at h1
    refine ⟨A, B, ?_, ?_, ?_⟩
    · congr 1
      exact Array.toList_inj.1 hcs
    · simp only [DataW.weights, List.all_cons, List.all_nil, Bool.and_true, decide_eq_true_eq] at h0
      exact h0
    · simp only [DataW.weights, List.all_cons, List.all_nil, Bool.and_true, decide_eq_true_eq] at h1
      exact h1
end Go.Proofs.Ythkibgdeibolfaa
