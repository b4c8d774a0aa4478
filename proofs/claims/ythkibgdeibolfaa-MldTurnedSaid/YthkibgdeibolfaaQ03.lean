/- Texts joined into one file: Recs, JRow, JMem. -/
import Derived.Test.YthkibgdeibolfaaQ01
import Derived.Test.YthkibgdeibolfaaQ02
import Derived.Lib.RowBridge
import Derived.Sort.Walk0
import Derived.LoopN
import Derived.Deep.RegionHeld3
import Derived.Deep.DrawnRows
import Derived.Deep.RegionLaw
import Derived.Lib.QuietBelow
import Derived.Deep.DeepCutAuto
import Derived.Laws.IdiomStrings
import Derived.Lib.AppendStr

/- Slices of records in memory ('Recs'), and siphonref08.SameRecords. -/
namespace Go.Proofs.Ythkibgdeibolfaa
open Go.RowKit Go.Lib Go.Sort
set_option maxRecDepth 20000

/-- v is a slice of records that read as R -/
def Recs (w : World) (v : Value) (R : List Rec) : Prop :=
  ∃ ao cap b off, ∃ src : Nat → Value, v = .slice ao R.length cap ∧ (R = [] ∨ ao = some ⟨b, off, none⟩) ∧ R.length ≤ 1099511627776 ∧
    (∀ k, k < R.length → b < w.heap.size ∧ w.cell? ⟨b, off + k * 3, none⟩ = some (.int .i64 (R.getD k default).1) ∧ w.cell? ⟨b, off + k * 3 + 1, none⟩ = some (.string (bstr (R.getD k default).2.1)) ∧ w.cell? ⟨b, off + k * 3 + 2, none⟩ = some (src k) ∧
      Strs w (src k) (R.getD k default).2.2 ∧ (R.getD k default).2.1.length ≤ maxLen)

theorem Recs.mono {w w' : World} {v : Value} {R : List Rec} (h : Recs w v R) (hb : Below w.heap.size w w') : Recs w' v R := by
  obtain ⟨ao, cap, b, off, src, rfl, h0, h1, h2⟩ := h
  refine ⟨ao, cap, b, off, src, rfl, h0, h1, fun k hk => ?_⟩
  obtain ⟨hlt, c0, c1, c2, hs, hm⟩ := h2 k hk
  exact ⟨Nat.lt_of_lt_of_le hlt hb.size, (hb.cell (p := ⟨b, off + k * 3, none⟩) hlt).trans c0, (hb.cell (p := ⟨b, off + k * 3 + 1, none⟩) hlt).trans c1, (hb.cell (p := ⟨b, off + k * 3 + 2, none⟩) hlt).trans c2, hs.mono hb, hm⟩

theorem Recs.draws {w : World} {v : Value} {R : List Rec} (h : Recs w v R) (n : Nat) : Recs (w.drewN n) v R := h.mono (below_draws _ (Below.refl _ _) n)
theorem Recs.nil (w : World) : Recs w (.slice none 0 0) [] := ⟨none, 0, 0, 0, fun _ => undef, rfl, .inl rfl, by simp, by simp⟩
theorem Recs.shape {w : World} {v : Value} {R : List Rec} (h : Recs w v R) : ∃ ao cap, v = .slice ao R.length cap := by
  obtain ⟨ao, cap, _, _, _, h, _⟩ := h
  exact ⟨ao, cap, h⟩

/-- What a walk asks of it. -/
theorem Recs.facts {w : World} {v : Value} {R : List Rec} (h : Recs w v R) :
    ∃ b off, ∃ src : Nat → Value, R.length ≤ 1099511627776 ∧ (∀ ty w', (Builtin.len_ #[27] ty #[v]).run Try.prog w' = .ok (.int .i64 R.length) w') ∧
      (∀ k, k < R.length → ∀ w', (Instr.indexAt 27 v (.int .i64 k)).run Try.prog w' = .ok (.pointer (some ⟨b, off + k * 3, none⟩)) w') ∧
      (∀ k, k < R.length → b < w.heap.size ∧ w.cell? ⟨b, off + k * 3, none⟩ = some (.int .i64 (R.getD k default).1) ∧ w.cell? ⟨b, off + k * 3 + 1, none⟩ = some (.string (bstr (R.getD k default).2.1)) ∧ w.cell? ⟨b, off + k * 3 + 2, none⟩ = some (src k) ∧
        Strs w (src k) (R.getD k default).2.2 ∧ (R.getD k default).2.1.length ≤ maxLen) := by
  obtain ⟨ao, cap, b, off, src, rfl, h0, h1, h2⟩ := h
  refine ⟨b, off, src, h1, fun ty w' => run_len_any Try.underlying27 ao R.length cap ty w', fun k hk w' => ?_, h2⟩
  rcases h0 with h0 | rfl
  · subst h0; exact absurd hk (by simp)
  · exact run_index_any (P := Try.prog) (s := 3) Try.underlying27 (fun w => by kernel_rfl) b off R.length cap k hk w'

theorem take_eq_snocR (A B : List Rec) (k : Nat) (ha : k < A.length) (hb : k < B.length) (h : A.take k = B.take k) : (A.take (k + 1) = B.take (k + 1)) ↔ A.getD k default = B.getD k default := by
  rw [take_snoc A k ha, take_snoc B k hb, h, List.append_cancel_left_eq]
  simp [List.getD_eq_getElem?_getD, ha, hb]

/-- a callee that only reads, and may draw, inside a region that draws -/
theorem quietN {P : Program} {f : FuncId} {args : Array Value} {w : World} {n : Nat} {v : Value}
    (h : Calls P f args (w.drewN n) fun e w' => e = .returned v ∧ ∃ m, w' = (w.drewN n).drewN m) : Calls P f args (w.drewN n) fun e w'' => e = .returned v ∧ ∃ m, w'' = w.drewN m := Calls.quiet_of h

set_option maxHeartbeats 4000000 in
theorem samerecs_any (v u : Value) (A B : List Rec) (w : World) (h : Recs w v A) (h' : Recs w u B) :
    Calls Try.prog 28 #[v, u] w fun e w' => e = .returned (.bool (decide (A = B))) ∧ ∃ n, w' = w.drewN n := by
  obtain ⟨b, off, src, hm, hlen, hidx, hc⟩ := h.facts
  obtain ⟨b', off', src', hm', hlen', hidx', hc'⟩ := h'.facts
  clear h h'
  by_cases hl : A.length = B.length
  · have hne : ((A.length : Int) != (B.length : Int)) = false := by rw [hl]; simp
    have HL := Lib.hid hl
    have hle : A.length ≤ B.length := by omega
    have hle' : B.length ≤ A.length := by omega
    clear hl
    go_enter Try.func28, Try.ntmps28
    go_wp2
    go_loopw [5] (fun i wr => ∃ k : Nat, k ≤ A.length ∧ i = .int .i64 k ∧ A.take k = B.take k ∧ ∃ n, wr = w.drewN n) (fun i _ => A.length - (RowKit.intOf i).toNat)
    case atStart => exact ⟨0, Nat.zero_le _, rfl, by simp, 0, rfl⟩
    case round =>
      obtain ⟨k, hk, rfl, hn, n, hwr⟩ := hrel
      have hcw : ∀ p, w.cell? p = wr.cell? p := fun p => by rw [hwr]; rfl
      have HD := Lib.hid (show ∀ s L, Strs w s L → Strs wr s L from fun s L h => by rw [hwr]; exact h.draws n)
      have HWR := Lib.hid hwr
      clear hwr
      have HN := Lib.hid hn
      by_cases hlt : k < A.length
      · have hlt' : k < B.length := by omega
        have HS := Lib.hid (take_eq_snocR A B k hlt hlt' hn)
        obtain ⟨_, x0, x1, x2, hsx, _⟩ := hc k hlt
        obtain ⟨_, y0, y1, y2, hsy, _⟩ := hc' k hlt'
        have hp := hidx k hlt
        have hp' := hidx' k hlt'
        obtain ⟨⟨ka, ga, sa⟩, hra⟩ : ∃ r, A.getD k default = r := ⟨_, rfl⟩
        obtain ⟨⟨kb, gb, sb⟩, hrb⟩ : ∃ r, B.getD k default = r := ⟨_, rfl⟩
        rw [hra] at x0 x1 hsx HS
        rw [hrb] at y0 y1 hsy HS
        rw [hcw] at x0 x1 x2 y0 y1 y2
        simp only at x0 x1 hsx y0 y1 hsy
        have HC := Lib.hid (fun m => ssame_any (src k) (src' k) sa sb _ ((HD.out _ _ hsx).draws m) ((HD.out _ _ hsy).draws m))
        have hbt := bstr_toList
        clear hidx hc hidx' hc' hn hra hrb hsx hsy hcw HD
        obtain ⟨sx, hsx⟩ : ∃ s, src k = s := ⟨_, rfl⟩
        obtain ⟨sy, hsy⟩ : ∃ s, src' k = s := ⟨_, rfl⟩
        rw [hsx] at x2 HC
        rw [hsy] at y2 HC
        clear hsx hsy
        cases hkk : (ka != kb)
        · have ek : ka = kb := by simpa using hkk
          cases hgg : (ga == gb)
          · have HF := Lib.hid (show decide (A = B) = false from decide_eq_false fun e => by
              have := HS.out.1 (by rw [e])
              simp only [Prod.mk.injEq] at this
              rw [this.2.1] at hgg
              simp at hgg)
            clear ek
            go_wp2
            go_quiet (fail)
            go_wp2
            go_ret
            exact ⟨ret_bool (by rw [HF.out]), n + nq, by rw [HWR.out]; simp⟩
          · have eg : ga = gb := by simpa using hgg
            cases hss : (sa == sb)
            · have HF := Lib.hid (show decide (A = B) = false from decide_eq_false fun e => by
                have := HS.out.1 (by rw [e])
                simp only [Prod.mk.injEq] at this
                rw [this.2.2] at hss
                simp at hss)
              rw [hss] at HC
              clear ek eg hss
              go_wp2
              go_quiet ((with_reducible refine quietN (HC.out _)))
              go_wp2
              go_ret
              exact ⟨ret_bool (by rw [HF.out]), n + nq, by rw [HWR.out]; simp⟩
            · have es : sa = sb := by simpa using hss
              rw [hss] at HC
              have HE := Lib.hid (HS.out.2 (by rw [ek, eg, es]))
              clear ek eg es hss
              go_wp2
              go_quiet ((with_reducible refine quietN (HC.out _)))
              go_wp2
              go_roundw
              case rel => exact ⟨k + 1, by omega, by go_num, HE.out, n + nq, by rw [HWR.out]; simp⟩
              case measure => simp [RowKit.intOf]; omega
        · have HF := Lib.hid (show decide (A = B) = false from decide_eq_false fun e => by
            have := HS.out.1 (by rw [e])
            simp only [Prod.mk.injEq] at this
            rw [this.1] at hkk
            simp at hkk)
          go_wp2
          go_quiet (fail)
          go_wp2
          go_ret
          exact ⟨ret_bool (by rw [HF.out]), n + nq, by rw [HWR.out]; simp⟩
      · have HE := Lib.hid (show A = B by rw [List.take_of_length_le (by omega), List.take_of_length_le (by omega)] at hn; exact hn)
        clear hidx hc hidx' hc' hn hcw HD
        go_wp2
        go_ret
        exact ⟨ret_bool (by simp [HE.out]), n, HWR.out⟩
  · have hne : ((A.length : Int) != (B.length : Int)) = true := by rw [bne_iff_ne]; omega
    have HL := Lib.hid hl
    clear hl
    go_enter Try.func28, Try.ntmps28
    go_wp2
    go_ret
    exact ⟨ret_bool (by symm; exact decide_eq_false fun e => HL.out (by rw [e])), 0, rfl⟩
end Go.Proofs.Ythkibgdeibolfaa

/- Rows of records of the call's own ('RowQ'). -/
namespace Go.Proofs.Ythkibgdeibolfaa
open Go.RowKit Go.Sort
set_option maxRecDepth 20000
set_option maxRecDepth 20000

theorem add_lit (b off k : Nat) : (⟨b, off, none⟩ : Addr).add k = ⟨b, off + k, none⟩ := by unfold Addr.add; split <;> simp_all
theorem own_below {w w' : World} {base : Nat} {e : TypeId} {size : Nat} {v : Value} {n : Nat} {xs : List Value} (h : w.ownsRow base e size v n xs) (hb : Below w.heap.size w w') : w'.ownsRow base e size v n xs :=
  h.kept (row := none) ⟨hb.os, hb.tape, hb.output, hb.size, fun k hk _ => hb.block k hk⟩ (by cases v.ownBlock <;> simp)
abbrev QRec := Int × Str × Value × List Str
def qcells (q : QRec) : List Value := [.int .i64 q.1, .string (bstr q.2.1), q.2.2.1]
def qrec (q : QRec) : Rec := (q.1, q.2.1, q.2.2.2)
def RowQ (w : World) (base : Nat) (v : Value) (Q : List QRec) : Prop :=
  w.ownsRow base 56 3 v Q.length (Q.flatMap qcells) ∧ ∀ q ∈ Q, Strs w q.2.2.1 q.2.2.2 ∧ Lies base q.2.2.1 ∧ q.2.1.length ≤ maxLen ∧ (q.2.2.2 ≠ [] → q.2.2.1.ownBlock ≠ v.ownBlock)
theorem RowQ.nil (w : World) (base : Nat) : RowQ w base (.slice none 0 0) [] := ⟨World.ownsRow_nil _ _ _ _, by simp⟩
theorem RowQ.below {w w' : World} {base : Nat} {v : Value} {Q : List QRec} (h : RowQ w base v Q) (hb : Below w.heap.size w w') : RowQ w' base v Q :=
  ⟨own_below h.1 hb, fun q hq => ⟨(h.2 q hq).1.mono hb, (h.2 q hq).2⟩⟩
theorem RowQ.far {w : World} {base : Nat} {v : Value} {Q : List QRec} (h : RowQ w base v Q) {p : Addr} (hp : p.block < base) (u : Value) : RowQ (w.setCell p u) base v Q :=
  ⟨ownsRow_setCell_below h.1 hp u, fun q hq => ⟨(h.2 q hq).1.far (h.2 q hq).2.1 hp u, (h.2 q hq).2⟩⟩
theorem Strs.block {w : World} {v : Value} {L : List Str} (h : Strs w v L) (hL : L ≠ []) : ∃ b, v.ownBlock = some b ∧ b < w.heap.size := by
  obtain ⟨ao, cap, b, off, rfl, h0, h1, h2, h3⟩ := h
  rcases h0 with h0 | rfl
  · exact absurd h0 hL
  · exact ⟨b, rfl, (h3 0 (List.length_pos_iff.2 hL)).1⟩
theorem Strs.grown' {w w' : World} {v : Value} {L : List Str} {row : Option Nat} (h : Strs w v L) (hg : w.grownBy w' row) (hne : L ≠ [] → v.ownBlock ≠ row) : Strs w' v L := by
  obtain ⟨ao, cap, b, off, rfl, h0, h1, h2, h3⟩ := h
  refine ⟨ao, cap, b, off, rfl, h0, h1, h2, fun k hk => ?_⟩
  obtain ⟨hlt, hc⟩ := h3 k hk
  have hL : L ≠ [] := by intro e; subst e; simp at hk
  rcases h0 with h0 | rfl
  · exact absurd h0 hL
  · refine ⟨Nat.lt_of_lt_of_le hlt hg.size, ?_⟩
    rw [World.cell?_of_block (w := w) (hg.block b hlt (hne hL))]
    exact hc
theorem RowQ.push {w w' : World} {base : Nat} {v v' : Value} {Q : List QRec} {q : QRec} (h : RowQ w base v Q) (hs : Strs w q.2.2.1 q.2.2.2) (hl : Lies base q.2.2.1) (hm : q.2.1.length ≤ maxLen) (hne : q.2.2.2 ≠ [] → q.2.2.1.ownBlock ≠ v.ownBlock)
    (hown : w'.ownsRow base 56 3 v' (Q.length + 1) (Q.flatMap qcells ++ qcells q)) (hg : w.grownBy w' v.ownBlock) (hv : v'.ownBlock = v.ownBlock ∨ v'.ownBlock = some w.heap.size) : RowQ w' base v' (Q ++ [q]) := by
  refine ⟨by simpa using hown, fun r hr => ?_⟩
  have key : Strs w r.2.2.1 r.2.2.2 ∧ Lies base r.2.2.1 ∧ r.2.1.length ≤ maxLen ∧ (r.2.2.2 ≠ [] → r.2.2.1.ownBlock ≠ v.ownBlock) := by
    rcases List.mem_append.1 hr with hr | hr
    · exact h.2 r hr
    · rw [List.mem_singleton] at hr; subst hr; exact ⟨hs, hl, hm, hne⟩
  obtain ⟨k1, k2, k3, k4⟩ := key
  refine ⟨k1.grown' hg k4, k2, k3, fun hL => ?_⟩
  rcases hv with e | e
  · rw [e]; exact k4 hL
  · obtain ⟨b, hb, hlt⟩ := k1.block hL
    rw [e, hb]
    intro e'
    injection e' with e'
    omega
theorem flat_get (Q : List QRec) (k : Nat) (hk : k < Q.length) (d : QRec) : (Q.flatMap qcells)[k * 3]? = some (.int .i64 (Q.getD k d).1) ∧ (Q.flatMap qcells)[k * 3 + 1]? = some (.string (bstr (Q.getD k d).2.1)) ∧ (Q.flatMap qcells)[k * 3 + 2]? = some (Q.getD k d).2.2.1 := by
  induction Q generalizing k with
  | nil => simp at hk
  | cons q Q ih =>
    cases k with
    | zero => simp [qcells]
    | succ k =>
      have := ih k (by simpa using hk)
      have e : ∀ j, (k + 1) * 3 + j = (k * 3 + j) + 3 := fun j => by omega
      have e0 : (k + 1) * 3 = (k * 3) + 3 := by omega
      rw [e, e, e0]
      simpa [qcells] using this
theorem RowQ.recs {w : World} {base : Nat} {v : Value} {Q : List QRec} (h : RowQ w base v Q) (hl : Q.length ≤ 1099511627776) : Recs w v (Q.map qrec) := by
  rcases h.1.2 with ⟨rfl, h0⟩ | ⟨g, cap, cur, rfl, hb, hg, hn, hm, hs, ht⟩
  · rw [List.length_eq_zero_iff] at h0
    subst h0
    exact Recs.nil w
  · refine ⟨_, cap, g, 0, fun k => (Q.getD k default).2.2.1, by simp, .inr rfl, by simpa using hl, fun k hk => ?_⟩
    have hk' : k < Q.length := by simpa using hk
    obtain ⟨x0, x1, x2⟩ := flat_get Q k hk' default
    have hc := h.1.cells (g := g) rfl
    have c0 := hc _ _ x0
    have c1 := hc _ _ x1
    have c2 := hc _ _ x2
    rw [add_lit] at c0 c1 c2
    have hq := h.2 (Q.getD k default) (by simp [List.getD_eq_getElem?_getD, hk'])
    have e : (Q.map qrec).getD k default = qrec (Q.getD k default) := by simp [List.getD_eq_getElem?_getD, hk']
    rw [e]
    refine ⟨(Array.getElem?_eq_some_iff.1 hg).1, c0, ?_, ?_, hq.1, hq.2.2.1⟩
    · rw [show 0 + k * 3 + 1 = 0 + (k * 3 + 1) from by omega]; exact c1
    · rw [show 0 + k * 3 + 2 = 0 + (k * 3 + 2) from by omega]; exact c2
theorem infoRec : (Try.prog.info? 56).map (fun i => (i.zero, i.size, i.bytes)) = some (some (.agg #[.int .i64 0, .string ⟨#[]⟩, .slice none 0 0]), 3, 48) := by kernel_rfl
theorem sliceOf_block {w : World} {b : Nat} {cs : List Value} {T : TypeId} {fr : Nat × Nat} {size m c : Nat} (h : w.heap[b]? = some (.cells cs.toArray T fr)) (hl : cs.length = m * size) (h1 : ∀ x ∈ cs, x.oneCell' = true) :
    SliceOf w size (.slice (some ⟨b, 0, none⟩) m c) m cs := by
  refine ⟨_, _, rfl, hl, h1, .inr ⟨_, rfl, fun j x hj => ?_⟩⟩
  rw [add_lit, Nat.zero_add]
  simp [World.cell?, h, hj]
theorem RowQ.push_new {w w' : World} {base : Nat} {v v' s : Value} {Q : List QRec} {k : Int} {g : Str} {L : List Str} {o : Obj} (h : RowQ w base v Q) (hs : Strs w s L) (hl : Lies base s) (hm : g.length ≤ maxLen) (hB : base ≤ w.heap.size) (hne : L ≠ [] → s.ownBlock ≠ v.ownBlock)
    (hown : w'.ownsRow base 56 3 v' (Q.length + 1) (Q.flatMap qcells ++ [.int .i64 k, .string (bstr g), s])) (hg : (w.alloc o).grownBy w' v.ownBlock) (hv : v'.ownBlock = v.ownBlock ∨ v'.ownBlock = some (w.alloc o).heap.size) :
    RowQ w' base v' (Q ++ [(k, g, s, L)]) ∧ Below base w w' := by
  have hb : Below w.heap.size w (w.alloc o) := (Below.refl _ _).alloc (Nat.le_refl _) _
  exact ⟨(h.below hb).push (q := (k, g, s, L)) (hs.mono hb) hl hm hne hown hg hv, below_own (hb.mono hB) (h.1.alloc o) (Nat.le_refl _) (by simp; omega) hg⟩
/-- a row of records of the call's own, from block 'base' on -/
def Row (w : World) (base : Nat) (v : Value) (R : List Rec) : Prop := ∃ Q, RowQ w base v Q ∧ Q.map qrec = R ∧ Q.length ≤ 1099511627776
theorem Row.nil (w : World) (base : Nat) : Row w base (.slice none 0 0) [] := ⟨[], RowQ.nil _ _, rfl, Nat.zero_le _⟩
theorem Row.recs {w : World} {base : Nat} {v : Value} {R : List Rec} (h : Row w base v R) : Recs w v R := by
  obtain ⟨Q, h1, rfl, h3⟩ := h
  exact h1.recs h3
theorem Row.below {w w' : World} {base : Nat} {v : Value} {R : List Rec} (h : Row w base v R) (hb : Below w.heap.size w w') : Row w' base v R := by
  obtain ⟨Q, h1, h2, h3⟩ := h
  exact ⟨Q, h1.below hb, h2, h3⟩
theorem Row.far {w : World} {base : Nat} {v : Value} {R : List Rec} (h : Row w base v R) {p : Addr} (hp : p.block < base) (u : Value) : Row (w.setCell p u) base v R := by
  obtain ⟨Q, h1, h2, h3⟩ := h
  exact ⟨Q, h1.far hp u, h2, h3⟩
theorem Row.mono {w : World} {base base' : Nat} {v : Value} {R : List Rec} (h : Row w base v R) (hb : base' ≤ base) : Row w base' v R := by
  obtain ⟨Q, ⟨⟨h0, h1⟩, h2⟩, h3, h4⟩ := h
  refine ⟨Q, ⟨⟨h0, ?_⟩, fun q hq => ⟨(h2 q hq).1, (h2 q hq).2.1.mono hb, (h2 q hq).2.2⟩⟩, h3, h4⟩
  rcases h1 with h1 | ⟨g, cap, cur, h1, h5, h6⟩
  · exact .inl h1
  · exact .inr ⟨g, cap, cur, h1, Nat.le_trans hb h5, h6⟩
theorem Row.shape {w : World} {base : Nat} {v : Value} {R : List Rec} (h : Row w base v R) : ∃ ao cap, v = .slice ao R.length cap := h.recs.shape
end Go.Proofs.Ythkibgdeibolfaa

/- Strings as values ('bstr'): what a walk asks of them; bytes of a string. -/
namespace Go.Proofs.Ythkibgdeibolfaa
open Go.RowKit Go.Sort
set_option maxRecDepth 20000
set_option maxRecDepth 20000

theorem bstr_lit (l : Str) : (⟨l.toArray⟩ : ByteArray) = bstr l := by unfold bstr; rfl
theorem bstr_eq (l : Str) : bstr l = ⟨l.toArray⟩ := by unfold bstr; rfl
theorem bstr_nil : bstr [] = ⟨#[]⟩ := by unfold bstr; rfl
theorem bstr_extract (l : Str) (a b : Nat) : (bstr l).extract a b = bstr ((l.drop a).take (b - a)) := by
  rw [bstr_eq, bstr_eq]; exact ByteArray.extract_mk l a b
theorem bstr_append (x y : Str) : bstr x ++ bstr y = bstr (x ++ y) := by
  rw [bstr_eq, bstr_eq, bstr_eq]; exact ByteArray.mk_append_mk x y
theorem bstr_get (l : Str) (k : Nat) (h : k < (bstr l).size) : ((bstr l)[k]'h) = l.getD k 0 := by
  have h' : k < l.length := by rw [← bstr_size l]; exact h
  have : ∀ (s : ByteArray) (e : s = ⟨l.toArray⟩) (h : k < s.size), s[k]'h = l.getD k 0 := by
    intro s e h
    subst e
    simp [List.getD_eq_getElem?_getD, h']
    rfl
  exact this _ (bstr_eq l) h

section
variable {P : Program} (w : World) (T : TypeId) (hT : P.underlying T = some .string) (l : Str)
include hT
theorem run_len_b (ty : TypeId) : (Builtin.len_ #[T] ty #[.string (bstr l)]).run P w = .ok (.int .i64 l.length) w := by
  rw [run_len_string w T ty _ hT, bstr_size]; rfl
theorem run_index_b (k : IntKind) (i : Nat) (hi : i < l.length) : (Instr.index T (.string (bstr l)) (.int k i)).run P w = .ok (.int .u8 (l.getD i 0).toNat) w := by
  rw [run_index_string w T _ k _ hT, dif_pos ⟨by omega, by rw [bstr_size]; omega⟩, bstr_get]; rfl
theorem run_slice_b (k k' : IntKind) (i j : Nat) (hij : i ≤ j) (hj : j ≤ l.length) : (Instr.slice T (.string (bstr l)) (some (.int k i)) (some (.int k' j)) none).run P w = .ok (.string (bstr ((l.drop i).take (j - i)))) w := by
  rw [run_slice_string_if w T _ k k' _ _ hT, if_pos ⟨by omega, by rw [bstr_size]; omega⟩, if_pos ⟨by omega, by omega⟩, bstr_extract]; rfl
theorem run_from_b (k : IntKind) (i : Nat) (hi : i ≤ l.length) : (Instr.slice T (.string (bstr l)) (some (.int k i)) none none).run P w = .ok (.string (bstr (l.drop i))) w := by
  rw [run_slice_string_from_if w T _ k _ hT, if_pos ⟨by omega, by rw [bstr_size]; omega⟩, bstr_extract, bstr_size, List.take_of_length_le (by simp)]; rfl
theorem run_to_b (k : IntKind) (j : Nat) (hj : j ≤ l.length) : (Instr.slice T (.string (bstr l)) none (some (.int k j)) none).run P w = .ok (.string (bstr (l.take j))) w := by
  rw [run_slice_string_to_if w T _ k _ hT, if_pos ⟨by omega, by rw [bstr_size]; omega⟩, bstr_extract]; rfl
end
theorem run_add_b {P : Program} (w : World) (T : TypeId) (a b : Str) (h : a.length + b.length ≤ 9223372036854775807) : (binOp .add T (.string (bstr a)) (.string (bstr b))).run P w = .ok (.string (bstr (a ++ b))) w := by
  rw [binOp_string_add, run_string_add_sum w _ _ (by rw [bstr_size, bstr_size]; exact h), bstr_append]

theorem run_sadd_b {P : Program} (w : World) (a b : Str) (h : a.length + b.length ≤ 9223372036854775807) : (Op.stringOp .add (bstr a) (bstr b)).run P w = .ok (.string (bstr (a ++ b))) w := by
  rw [run_string_add_sum w _ _ (by rw [bstr_size, bstr_size]; exact h), bstr_append]

/-- block b holds the bytes of l from its first cell on -/
def Bytes (w : World) (b : Nat) (l : Str) : Prop := ∀ j, j < l.length → b < w.heap.size ∧ w.cell? ⟨b, j, none⟩ = some (.int .u8 (l.getD j 0).toNat)
theorem Bytes.below {w w' : World} {b B : Nat} {l : Str} (h : Bytes w b l) (hb : Below B w w') (hB : b < B) : Bytes w' b l := fun j hj => ⟨Nat.lt_of_lt_of_le (h j hj).1 hb.size, (hb.cell (p := ⟨b, j, none⟩) hB).trans (h j hj).2⟩

theorem run_bytes_b {P : Program} (w : World) (src dst e : TypeId) (l : Str) (hs : P.underlying src = some .string) (hd : P.underlying dst = some (.slice e)) (he : P.underlying e = some (.int .u8)) :
    ∃ cap w', (convert src dst (.string (bstr l))).run P w = .ok (.slice (some ⟨w.heap.size, 0, none⟩) l.length cap) w' ∧ Below w.heap.size w w' ∧ w'.heap.size = w.heap.size + 1 ∧ Bytes w' w.heap.size l ∧ ∀ j, j < l.length → w'.frozen? ⟨w.heap.size, j, none⟩ = false := by
  have hrun := run_bytes_of_string w src dst e (bstr l) hs hd he
  rw [bstr_size] at hrun
  obtain ⟨C, hC⟩ : ∃ C, C = bytesRow (bstr l) (grownCap w l.length 0 e) := ⟨_, rfl⟩
  rw [← hC] at hrun
  have hsz : (bstr l).data.size = l.length := bstr_size l
  have hCs : l.length ≤ C.size := by rw [hC]; simp [bytesRow, hsz]
  refine ⟨_, _, hrun, (Below.drew (Below.refl _ _)).alloc (Nat.le_refl _) _, World.size_alloc _ _, fun j hj => ⟨Nat.lt_of_lt_of_eq (Nat.lt_succ_self _) (World.size_alloc w.drew _).symm, ?_⟩, fun j hj => ?_⟩
  · have : (w.drew.alloc (.cells C e (C.size, C.size + 1))).cell? ⟨w.heap.size, j, none⟩ = C[j]? := World.cell?_alloc_mark w.drew C e _ j
    have hj' : j < (bstr l).data.size := by omega
    rw [this, hC, bytesRow_at _ _ j hj', ← bstr_get l j (by rw [bstr_size]; exact hj)]
    rfl
  · have : (w.drew.alloc (.cells C e (C.size, C.size + 1))).frozen? ⟨w.heap.size, j, none⟩ = (decide (C.size ≤ j) && decide (j < C.size + 1)) := World.frozen?_alloc_mark w.drew C e _ _ j
    rw [this, decide_eq_false (by omega)]
    rfl

/-- '[]byte(s)' -/
theorem wpList_bytes {P : Program} {ops : Array Oper} {rest : List Oper} {o : Oper} {a : Act} {w : World} {Q : Exit → Act → World → Prop} (hgd : o.guard = none) (src dst : TypeId) (x : Operand) (ho : o.op = .convert src dst x)
    (e : TypeId) (hs : P.underlying src = some .string) (hd : P.underlying dst = some (.slice e)) (he : P.underlying e = some (.int .u8)) (l : Str) (hx : a.eval x = .string (bstr l))
    (h : ∀ cap w', Below w.heap.size w w' → w'.heap.size = w.heap.size + 1 → Bytes w' w.heap.size l → (∀ j, j < l.length → w'.frozen? ⟨w.heap.size, j, none⟩ = false) → wpList P ops Q rest (a.put o.dst (.slice (some ⟨w.heap.size, 0, none⟩) l.length cap)) w') : wpList P ops Q (o :: rest) a w := by
  refine wpList_plain hgd fun _ hK => ?_
  obtain ⟨cap, w', hrun, h1, h2, h3, h4⟩ := run_bytes_b (P := P) w src dst e l hs hd he
  unfold Oper.wp execOp
  simp only [ho, hx, Sem.run_bind, hrun, Result.andThen_ok, Sem.run_pure]
  exact hK _ _ (h cap w' h1 h2 h3 h4)

/-- 'string(b)' -/
theorem run_string_b {P : Program} (w : World) (src dst e : TypeId) (b cap : Nat) (l : Str) (hs : P.underlying src = some (.slice e)) (he : P.underlying e = some (.int .u8)) (hd : P.underlying dst = some .string) (h : Bytes w b l) :
    (convert src dst (.slice (some ⟨b, 0, none⟩) l.length cap)).run P w = .ok (.string (bstr l)) w := by
  rw [run_convert_bytes_back w src dst e ⟨b, 0, none⟩ cap l hs he hd (fun j hj => by
    have hadd : (⟨b, 0, none⟩ : Addr).add j = ⟨b, j, none⟩ := by unfold Addr.add; split <;> simp_all
    rw [hadd, (h j hj).2]; simp [List.getD_eq_getElem?_getD, hj])]
  rw [bstr_lit]
end Go.Proofs.Ythkibgdeibolfaa
