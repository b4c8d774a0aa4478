/- filter.Diff's closures. -/
import Derived.Test.YtjhaedhjbnhiaaaRecs
namespace Go.Proofs.Ytjhaedhjbnhiaaa
open Go.RowKit Go.Lib Go.Sort

/-- a record as a call lays it: its kind, its group, the value of its sources, and what they read as -/
abbrev QRec := Int × Str × Value × List Str
def qcells (q : QRec) : List Value := [.int .i64 q.1, .string (bstr q.2.1), q.2.2.1]
def qrec (q : QRec) : Rec := (q.1, q.2.1, q.2.2.2)

/-- a slice of records of the call's own -/
def RowQ (w : World) (base : Nat) (v : Value) (Q : List QRec) : Prop :=
  w.ownsRow base 41 3 v Q.length (Q.flatMap qcells) ∧ ∀ q ∈ Q, Strs w q.2.2.1 q.2.2.2 ∧ Lies base q.2.2.1 ∧ q.2.1.length ≤ maxLen ∧ (q.2.2.2 ≠ [] → q.2.2.1.ownBlock ≠ v.ownBlock)

theorem RowQ.nil (w : World) (base : Nat) : RowQ w base (.slice none 0 0) [] := ⟨World.ownsRow_nil _ _ _ _, by simp⟩

theorem RowQ.below {w w' : World} {base : Nat} {v : Value} {Q : List QRec} (h : RowQ w base v Q) (hb : Below w.heap.size w w') : RowQ w' base v Q :=
  ⟨own_below h.1 hb, fun q hq => ⟨(h.2 q hq).1.mono hb, (h.2 q hq).2⟩⟩

theorem RowQ.far {w : World} {base : Nat} {v : Value} {Q : List QRec} (h : RowQ w base v Q) {p : Addr} (hp : p.block < base) (u : Value) : RowQ (w.setCell p u) base v Q :=
  ⟨ownsRow_setCell_below h.1 hp u, fun q hq => ⟨(h.2 q hq).1.far (h.2 q hq).2.1 hp u, (h.2 q hq).2⟩⟩

theorem Strs.block {w : World} {v : Value} {L : List Str} (h : Strs w v L) (hL : L ≠ []) : ∃ b, v.ownBlock = some b ∧ b < w.heap.size := by
  obtain ⟨ao, cap, b, off, rfl, h0, h1, h2, h3⟩ := h
  rcases h0 with h0 | rfl
  · exact absurd h0 hL
  · exact ⟨b, rfl, (h3 0 (List.length_pos_iff.2 hL)).1⟩

theorem Strs.grown' {w w' : World} {v : Value} {L : List Str} {row : Option Nat} (h : Strs w v L) (hg : w.grownBy w' row) (hne : L ≠ [] → v.ownBlock ≠ row) : Strs w' v L := by
  obtain ⟨ao, cap, b, off, rfl, h0, h1, h2, h3⟩ := h
  refine ⟨ao, cap, b, off, rfl, h0, h1, h2, fun k hk => ?_⟩
  obtain ⟨hlt, hc⟩ := h3 k hk
  have hL : L ≠ [] := by intro e; subst e; simp at hk
  rcases h0 with h0 | rfl
  · exact absurd h0 hL
  · refine ⟨Nat.lt_of_lt_of_le hlt hg.size, ?_⟩
    rw [World.cell?_of_block (w := w) (hg.block b hlt (hne hL))]
    exact hc

theorem RowQ.push {w w' : World} {base : Nat} {v v' : Value} {Q : List QRec} {q : QRec} (h : RowQ w base v Q) (hs : Strs w q.2.2.1 q.2.2.2) (hl : Lies base q.2.2.1) (hm : q.2.1.length ≤ maxLen) (hne : q.2.2.2 ≠ [] → q.2.2.1.ownBlock ≠ v.ownBlock)
    (hown : w'.ownsRow base 41 3 v' (Q.length + 1) (Q.flatMap qcells ++ qcells q)) (hg : w.grownBy w' v.ownBlock) (hv : v'.ownBlock = v.ownBlock ∨ v'.ownBlock = some w.heap.size) : RowQ w' base v' (Q ++ [q]) := by
  refine ⟨by simpa using hown, fun r hr => ?_⟩
  have key : Strs w r.2.2.1 r.2.2.2 ∧ Lies base r.2.2.1 ∧ r.2.1.length ≤ maxLen ∧ (r.2.2.2 ≠ [] → r.2.2.1.ownBlock ≠ v.ownBlock) := by
    rcases List.mem_append.1 hr with hr | hr
    · exact h.2 r hr
    · rw [List.mem_singleton] at hr; subst hr; exact ⟨hs, hl, hm, hne⟩
  obtain ⟨k1, k2, k3, k4⟩ := key
  refine ⟨k1.grown' hg k4, k2, k3, fun hL => ?_⟩
  rcases hv with e | e
  · rw [e]; exact k4 hL
  · obtain ⟨b, hb, hlt⟩ := k1.block hL
    rw [e, hb]
    intro e'
    injection e' with e'
    omega

theorem flat_get (Q : List QRec) (k : Nat) (hk : k < Q.length) (d : QRec) : (Q.flatMap qcells)[k * 3]? = some (.int .i64 (Q.getD k d).1) ∧ (Q.flatMap qcells)[k * 3 + 1]? = some (.string (bstr (Q.getD k d).2.1)) ∧ (Q.flatMap qcells)[k * 3 + 2]? = some (Q.getD k d).2.2.1 := by
  induction Q generalizing k with
  | nil => simp at hk
  | cons q Q ih =>
    cases k with
    | zero => simp [qcells]
    | succ k =>
      have := ih k (by simpa using hk)
      have e : ∀ j, (k + 1) * 3 + j = (k * 3 + j) + 3 := fun j => by omega
      have e0 : (k + 1) * 3 = (k * 3) + 3 := by omega
      rw [e, e, e0]
      simpa [qcells] using this

theorem RowQ.recs {w : World} {base : Nat} {v : Value} {Q : List QRec} (h : RowQ w base v Q) (hl : Q.length ≤ 1099511627776) : Recs w v (Q.map qrec) := by
  rcases h.1.2 with ⟨rfl, h0⟩ | ⟨g, cap, cur, rfl, hb, hg, hn, hm, hs, ht⟩
  · rw [List.length_eq_zero_iff] at h0
    subst h0
    exact Recs.nil w
  · refine ⟨_, cap, g, 0, fun k => (Q.getD k default).2.2.1, by simp, .inr rfl, by simpa using hl, fun k hk => ?_⟩
    have hk' : k < Q.length := by simpa using hk
    obtain ⟨x0, x1, x2⟩ := flat_get Q k hk' default
    have hc := h.1.cells (g := g) rfl
    have c0 := hc _ _ x0
    have c1 := hc _ _ x1
    have c2 := hc _ _ x2
    rw [add_lit] at c0 c1 c2
    have hq := h.2 (Q.getD k default) (by simp [List.getD_eq_getElem?_getD, hk'])
    have e : (Q.map qrec).getD k default = qrec (Q.getD k default) := by simp [List.getD_eq_getElem?_getD, hk']
    rw [e]
    refine ⟨(Array.getElem?_eq_some_iff.1 hg).1, c0, ?_, ?_, hq.1, hq.2.2.1⟩
    · rw [show 0 + k * 3 + 1 = 0 + (k * 3 + 1) from by omega]; exact c1
    · rw [show 0 + k * 3 + 2 = 0 + (k * 3 + 2) from by omega]; exact c2

theorem infoRec : (Try.prog.info? 41).map (fun i => (i.zero, i.size, i.bytes)) = some (some (.agg #[.int .i64 0, .string ⟨#[]⟩, .slice none 0 0]), 3, 48) := by kernel_rfl

def pDif (et : Bool) (T : List Str) (ef : Bool) (F : List Str) (x : Str) : Bool := adm et T x && !adm ef F x

set_option maxHeartbeats 1000000 in
theorem dif_tells (b1 b2 : Nat) (e1 e2 : Bool) (A B : List Str) (w : World) (h1 : BoxF w b1 e1 A) (h2 : BoxF w b2 e2 B) : Tells w 36 #[.pointer (some ⟨b1, 0, none⟩), .pointer (some ⟨b2, 0, none⟩)] (pDif e1 A e2 B) := by
  intro x W hW
  obtain ⟨v, _, c0, c1, hv⟩ := h1.mono hW
  obtain ⟨u, hb2, d0, d1, hu⟩ := h2.mono hW
  obtain ⟨ao, cap, rfl⟩ := hv.shape
  obtain ⟨bo, bcap, rfl⟩ := hu.shape
  have HC := Lib.hid (admitsB e1 _ A x W hv)
  have HD := Lib.hid (fun W' (h : Below W.heap.size W W') => admitsB e2 _ B x W' (hu.mono h))
  have HU := Lib.hid (And.intro d0 d1)
  clear hv hu h1 h2 hW
  cases hp : adm e1 A x
  · have HP := Lib.hid (show pDif e1 A e2 B x = false by simp [pDif, hp])
    rw [hp] at HC
    clear hp
    go_enter Try.func36, Try.ntmps36
    go_wp2_with ((with_reducible refine HC.out.mono ?_); rintro e w' ⟨rfl, hb⟩)
    go_ret
    exact ⟨ret_bool (by rw [HP.out]), hb⟩
  · have HP := Lib.hid (show pDif e1 A e2 B x = !adm e2 B x by simp [pDif, hp])
    rw [hp] at HC
    clear hp
    go_enter Try.func36, Try.ntmps36
    go_wp2_with (first | ((with_reducible refine HC.out.mono ?_); rintro e w' ⟨rfl, hb⟩; have x0 := (hb.cell (p := ⟨b2, 0, none⟩) hb2).trans HU.out.1; have x1 := (hb.cell (p := ⟨b2, 1, none⟩) hb2).trans HU.out.2) | ((with_reducible refine (HD.out _ hb).mono ?_); rintro e w'' ⟨rfl, hb'⟩))
    go_ret
    exact ⟨ret_bool (by rw [HP.out]), hb.trans (hb'.mono hb.size)⟩

theorem callFuncDif (args : Array Value) (w : World) : (callFunc 36 args).run Try.prog w = .ok (.enter 36 args) w := by kernel_rfl

/-- a box of one slice of records -/
def LBox (w : World) (b : Nat) (v : Value) : Prop := w.heap[b]? = some (.cells #[v] 32 (0, 0))
theorem LBox.lt {w : World} {b : Nat} {v : Value} (h : LBox w b v) : b < w.heap.size := (Array.getElem?_eq_some_iff.1 h).1
theorem LBox.below {w w' : World} {b B : Nat} {v : Value} (h : LBox w b v) (hb : Below B w w') (hB : b < B) : LBox w' b v := (hb.block b hB).trans h
theorem LBox.facts {w : World} {b : Nat} {v : Value} (h : LBox w b v) : w.cell? ⟨b, 0, none⟩ = some v ∧ w.frozen? ⟨b, 0, none⟩ = false := by
  have h' : w.heap[b]? = some (.cells #[v] 32 (0, 0)) := h
  exact ⟨by simp [World.cell?, h'], by simp [World.frozen?, h']⟩
theorem LBox.set {w : World} {b : Nat} {v : Value} (h : LBox w b v) (u : Value) : LBox (w.setCell ⟨b, 0, none⟩ u) b u := by
  have h' : w.heap[b]? = some (.cells #[v] 32 (0, 0)) := h
  unfold LBox
  simp [World.setCell, Array.getElem?_modify, h']

/-- what the closure leaves -/
def Changed (W : World) (bl : Nat) (Q : List QRec) (kind : Int) (g : Str) (now : List Str) (e : Ending) (W' : World) : Prop :=
  e = .returned (.tuple #[]) ∧ Below bl W W' ∧ ∃ v' Q', LBox W' bl v' ∧ RowQ W' (bl + 1) v' Q' ∧ Q'.map qrec = Q.map qrec ++ (if now = [] then [] else [(kind, g, now)])

theorem sliceOf_block {w : World} {b : Nat} {cs : List Value} {T : TypeId} {fr : Nat × Nat} {size m c : Nat} (h : w.heap[b]? = some (.cells cs.toArray T fr)) (hl : cs.length = m * size) (h1 : ∀ x ∈ cs, x.oneCell' = true) :
    SliceOf w size (.slice (some ⟨b, 0, none⟩) m c) m cs := by
  refine ⟨_, _, rfl, hl, h1, .inr ⟨_, rfl, fun j x hj => ?_⟩⟩
  rw [add_lit, Nat.zero_add]
  simp [World.cell?, h, hj]

set_option maxHeartbeats 4000000 in
theorem changes_any (kind : Int) (ef et : Bool) (vf vt : Value) (F T : List Str) (e1 e2 : Bool) (va vb : Value) (A B : List Str) (b4 b5 b3 bl : Nat) (g : Str) (v : Value) (Q : List QRec) (W : World)
    (hf : Strs W vf F) (ht : Strs W vt T) (f4 : FBox W b4 e1 va) (f5 : FBox W b5 e2 vb) (ha : Strs W va A) (hb : Strs W vb B) (c3 : W.cell? ⟨b3, 0, none⟩ = some (.string (bstr g))) (hg : g.length ≤ maxLen)
    (hl : LBox W bl v) (hq : RowQ W (bl + 1) v Q) (h4 : b4 < bl) (h5 : b5 < bl) (h3 : b3 < bl) (hlen : A.length + B.length ≤ 8796093022200) (hQ : Q.length ≤ 1000) :
    Calls Try.prog 35 #[.int .i64 kind, .agg #[.bool ef, vf], .agg #[.bool et, vt], .pointer (some ⟨b4, 0, none⟩), .pointer (some ⟨b5, 0, none⟩), .pointer (some ⟨bl, 0, none⟩), .pointer (some ⟨b3, 0, none⟩)] W
      (Changed W bl Q kind g (sasc ((A ++ B).filter (pDif et T ef F)))) := by
  obtain ⟨fo, fc, rfl⟩ := hf.shape
  obtain ⟨tto, ttc, rfl⟩ := ht.shape
  obtain ⟨i0, hi, hz0, hz1, hz2⟩ := info_parts infoRec
  obtain ⟨W0, hW0⟩ : ∃ W0, W0 = (W.alloc (.cells #[.bool ef, .slice fo F.length fc] 24)).alloc (.cells #[.bool et, .slice tto T.length ttc] 24) := ⟨_, rfl⟩
  have hb0 : Below W.heap.size W W0 := by rw [hW0]; exact ((Below.refl _ _).alloc (Nat.le_refl _) _).alloc (by simp) _
  have hs0 : W0.heap.size = W.heap.size + 2 := by rw [hW0]; simp
  have x0 : BoxF W0 W.heap.size ef F := ⟨_, by omega, by rw [hW0]; exact cell_alloc_old (by simp) (cell_alloc_new rfl rfl), by rw [hW0]; exact cell_alloc_old (by simp) (cell_alloc_new rfl rfl), hf.mono hb0⟩
  have x1 : BoxF W0 (W.heap.size + 1) et T := ⟨_, by omega, by rw [hW0]; exact cell_alloc_new (by simp) rfl, by rw [hW0]; exact cell_alloc_new (by simp) rfl, ht.mono hb0⟩
  have HC := Lib.hid (srise_any va vb A B 36 #[.pointer (some ⟨W.heap.size + 1, 0, none⟩), .pointer (some ⟨W.heap.size, 0, none⟩)] (pDif et T ef F) W0 (ha.mono hb0) (hb.mono hb0) hlen callFuncDif (dif_tells _ _ et ef T F W0 x1 x0))
  have hll := hl.lt
  have a4 := (f4.below hb0 (by omega)).facts.2.1
  have a5 := (f5.below hb0 (by omega)).facts.2.1
  have HL := Lib.hid hl
  have HQ := Lib.hid hq
  have HB0 := Lib.hid hb0
  have HC3 := Lib.hid c3
  rw [hW0] at HC HB0 a4 a5
  generalize sasc ((A ++ B).filter (pDif et T ef F)) = R at HC ⊢
  have H3 := Lib.hid (show b3 < W.heap.size by omega)
  clear hf ht f4 f5 ha hb c3 hl hq hb0 hs0 x0 x1 h4 h5 h3 hW0 W0
  by_cases hR : R = []
  · subst hR
    have HG := Lib.hid (show (Q.map qrec) = Q.map qrec ++ (if ([] : List Str) = [] then [] else [(kind, g, [])]) by simp)
    go_enter Try.func35, Try.ntmps35
    go_wp2_with ((with_reducible refine HC.out.mono ?_); rintro e w1 ⟨o, rfl, ho, hb1, hlo⟩; obtain ⟨oo, oc, rfl⟩ := ho.shape; have HB1 := Lib.hid (HB0.out.trans (hb1.mono HB0.out.size)); clear hb1 hlo ho)
    go_end0
    exact ⟨rfl, HB1.out.mono (Nat.le_of_lt HL.out.lt), v, Q, HL.out.below HB1.out HL.out.lt, HQ.out.below HB1.out, HG.out⟩
  · have hR1 : (0 : Int) < R.length := by have := List.length_pos_iff.2 hR; omega
    have HG := Lib.hid (show (if R = [] then [] else [(kind, g, R)]) = [(kind, g, R)] from if_neg hR)
    have hd : decide ((0 : Int) < (R.length : Int)) = true := decide_eq_true hR1
    clear hR
    go_enter Try.func35, Try.ntmps35
    go_wp2_with (first | (at_builtin; refine wpList_append_vals _ rfl _ _ 32 rfl (bl + 1) 41 i0 _ 3 48 Try.underlying32 hi hz0 hz1 hz2 rfl (by decide) v Q.length (Q.flatMap qcells) rfl (HQ1.out.1.alloc _) _ 1 [.int .i64 kind, .string (bstr g), .slice oo R.length oc] rfl (sliceOf_block (heap_new _ _ _ rfl) rfl (by simp [Value.oneCell'])) (by unfold maxLen; omega) (by omega) (by have := HB1.out.size; simp; omega) ?_; intro v' w2 hown2 hg2 hv2; obtain ⟨vo, vc, rfl⟩ := own_form hown2; have HX := Lib.hid (And.intro hown2 (And.intro hg2 hv2)); have hbl2 := below_own (B := bl + 1) (Below.refl _ _) (HQ1.out.1.alloc (.cells #[.int .i64 kind, .string (bstr g), .slice oo R.length oc] 41)) (Nat.le_refl _) (by have := HB1.out.size; simp; omega) hg2; have HB2 := Lib.hid hbl2; obtain ⟨m0, m1⟩ := ((HL1.out.below ((Below.refl _ _).alloc (Nat.le_refl _) _) HL1.out.lt).below HB2.out (by omega)).facts; clear hown2 hg2 hbl2 hv2) | ((with_reducible refine HC.out.mono ?_); rintro e w1 ⟨o, rfl, ho, hb1, hlo⟩; obtain ⟨oo, oc, rfl⟩ := ho.shape; have HB1 := Lib.hid (HB0.out.trans (hb1.mono HB0.out.size)); have HO := Lib.hid ho; have HLW := Lib.hid (hlo.mono (lo' := W.heap.size) (by simp; omega)); have HLO := Lib.hid (hlo.mono (lo' := bl + 1) (by simp; omega)); have HL1 := Lib.hid (HL.out.below HB1.out HL.out.lt); have HQ1 := Lib.hid (HQ.out.below HB1.out); obtain ⟨l0, l1⟩ := HL1.out.facts; have g0 := (HB1.out.cell (p := ⟨b3, 0, none⟩) H3.out).trans HC3.out; clear hb1 hlo ho))
    go_end0
    have hb2 : Below w1.heap.size w1 (w1.alloc (.cells #[.int .i64 kind, .string (bstr g), .slice oo R.length oc] 41)) := (Below.refl _ _).alloc (Nat.le_refl _) _
    have hq2 : RowQ w2 (bl + 1) (.slice vo (Q.length + 1) vc) (Q ++ [(kind, g, .slice oo R.length oc, R)]) :=
      (HQ1.out.below hb2).push (HO.out.mono hb2) HLO.out hg (fun _ e => by
        cases hv : v.ownBlock with
        | none =>
          rw [hv] at e
          obtain ⟨b, hb, _⟩ := HO.out.block (by intro e; subst e; simp at hR1)
          rw [hb] at e; cases e
        | some b =>
          rw [hv] at e
          have h1 := HLW.out b e
          have h2 := (HQ.out.1.lt b hv).2
          omega) HX.out.1 HX.out.2.1 HX.out.2.2
    have hsz := HB1.out.size
    refine ⟨rfl, ?_, _, _, ((HL1.out.below hb2 HL1.out.lt).below HB2.out (by omega)).set _, hq2.far (by simp) _, ?_⟩
    · exact (((HB1.out.mono (Nat.le_of_lt hll)).trans (hb2.mono (by omega))).trans (HB2.out.mono (by omega))).setCell (Nat.le_refl _) _
    · rw [HG.out]; simp [qrec]
end Go.Proofs.Ytjhaedhjbnhiaaa
