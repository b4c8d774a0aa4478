/- Texts joined into one file: Recs, Fil8, Fil9. -/
import Derived.Test.YtfloipdkhmgibaaS06

/- Slices of records in memory ('Recs'), and siphonref08.SameRecords. -/
namespace Go.Proofs.Ytfloipdkhmgibaa
open Go.RowKit Go.Lib Go.Sort
set_option maxRecDepth 20000

/-- a record: its kind, its group, its sources -/
abbrev Rec := Int × Str × List Str

/-- v is a slice of records that read as R -/
def Recs (w : World) (v : Value) (R : List Rec) : Prop :=
  ∃ ao cap b off, ∃ src : Nat → Value, v = .slice ao R.length cap ∧ (R = [] ∨ ao = some ⟨b, off, none⟩) ∧ R.length ≤ 1099511627776 ∧
    (∀ k, k < R.length → b < w.heap.size ∧ w.cell? ⟨b, off + k * 3, none⟩ = some (.int .i64 (R.getD k default).1) ∧ w.cell? ⟨b, off + k * 3 + 1, none⟩ = some (.string (bstr (R.getD k default).2.1)) ∧ w.cell? ⟨b, off + k * 3 + 2, none⟩ = some (src k) ∧
      Strs w (src k) (R.getD k default).2.2 ∧ (R.getD k default).2.1.length ≤ maxLen)

theorem Recs.mono {w w' : World} {v : Value} {R : List Rec} (h : Recs w v R) (hb : Below w.heap.size w w') : Recs w' v R := by
  obtain ⟨ao, cap, b, off, src, rfl, h0, h1, h2⟩ := h
  refine ⟨ao, cap, b, off, src, rfl, h0, h1, fun k hk => ?_⟩
  obtain ⟨hlt, c0, c1, c2, hs, hm⟩ := h2 k hk
  exact ⟨Nat.lt_of_lt_of_le hlt hb.size, (hb.cell (p := ⟨b, off + k * 3, none⟩) hlt).trans c0, (hb.cell (p := ⟨b, off + k * 3 + 1, none⟩) hlt).trans c1, (hb.cell (p := ⟨b, off + k * 3 + 2, none⟩) hlt).trans c2, hs.mono hb, hm⟩

theorem Recs.draws {w : World} {v : Value} {R : List Rec} (h : Recs w v R) (n : Nat) : Recs (w.drewN n) v R := h.mono (below_draws _ (Below.refl _ _) n)
theorem Recs.nil (w : World) : Recs w (.slice none 0 0) [] := ⟨none, 0, 0, 0, fun _ => undef, rfl, .inl rfl, by simp, by simp⟩
theorem Recs.shape {w : World} {v : Value} {R : List Rec} (h : Recs w v R) : ∃ ao cap, v = .slice ao R.length cap := by
  obtain ⟨ao, cap, _, _, _, h, _⟩ := h
  exact ⟨ao, cap, h⟩

/-- What a walk asks of it. -/
theorem Recs.facts {w : World} {v : Value} {R : List Rec} (h : Recs w v R) :
    ∃ b off, ∃ src : Nat → Value, R.length ≤ 1099511627776 ∧ (∀ ty w', (Builtin.len_ #[47] ty #[v]).run Try.prog w' = .ok (.int .i64 R.length) w') ∧
      (∀ k, k < R.length → ∀ w', (Instr.indexAt 47 v (.int .i64 k)).run Try.prog w' = .ok (.pointer (some ⟨b, off + k * 3, none⟩)) w') ∧
      (∀ k, k < R.length → b < w.heap.size ∧ w.cell? ⟨b, off + k * 3, none⟩ = some (.int .i64 (R.getD k default).1) ∧ w.cell? ⟨b, off + k * 3 + 1, none⟩ = some (.string (bstr (R.getD k default).2.1)) ∧ w.cell? ⟨b, off + k * 3 + 2, none⟩ = some (src k) ∧
        Strs w (src k) (R.getD k default).2.2 ∧ (R.getD k default).2.1.length ≤ maxLen) := by
  obtain ⟨ao, cap, b, off, src, rfl, h0, h1, h2⟩ := h
  refine ⟨b, off, src, h1, fun ty w' => run_len_any Try.underlying47 ao R.length cap ty w', fun k hk w' => ?_, h2⟩
  rcases h0 with h0 | rfl
  · subst h0; exact absurd hk (by simp)
  · exact run_index_any (P := Try.prog) (s := 3) Try.underlying47 (fun w => by kernel_rfl) b off R.length cap k hk w'

theorem take_eq_snocR (A B : List Rec) (k : Nat) (ha : k < A.length) (hb : k < B.length) (h : A.take k = B.take k) : (A.take (k + 1) = B.take (k + 1)) ↔ A.getD k default = B.getD k default := by
  rw [take_snoc A k ha, take_snoc B k hb, h, List.append_cancel_left_eq]
  simp [List.getD_eq_getElem?_getD, ha, hb]

/-- a callee that only reads, and may draw, inside a region that draws -/
theorem quietN {P : Program} {f : FuncId} {args : Array Value} {w : World} {n : Nat} {v : Value}
    (h : Calls P f args (w.drewN n) fun e w' => e = .returned v ∧ ∃ m, w' = (w.drewN n).drewN m) : Calls P f args (w.drewN n) fun e w'' => e = .returned v ∧ ∃ m, w'' = w.drewN m := Calls.quiet_of h

set_option maxHeartbeats 4000000 in
theorem samerecs_any (v u : Value) (A B : List Rec) (w : World) (h : Recs w v A) (h' : Recs w u B) :
    Calls Try.prog 19 #[v, u] w fun e w' => e = .returned (.bool (decide (A = B))) ∧ ∃ n, w' = w.drewN n := by
  obtain ⟨b, off, src, hm, hlen, hidx, hc⟩ := h.facts
  obtain ⟨b', off', src', hm', hlen', hidx', hc'⟩ := h'.facts
  clear h h'
  by_cases hl : A.length = B.length
  · have hne : ((A.length : Int) != (B.length : Int)) = false := by rw [hl]; simp
    have HL := Lib.hid hl
    have hle : A.length ≤ B.length := by omega
    have hle' : B.length ≤ A.length := by omega
    clear hl
    go_enter Try.func19, Try.ntmps19
    go_wp2
    go_loopw [5] (fun i wr => ∃ k : Nat, k ≤ A.length ∧ i = .int .i64 k ∧ A.take k = B.take k ∧ ∃ n, wr = w.drewN n) (fun i _ => A.length - (intOf i).toNat)
    case atStart => exact ⟨0, Nat.zero_le _, rfl, by simp, 0, rfl⟩
    case round =>
      obtain ⟨k, hk, rfl, hn, n, hwr⟩ := hrel
      have hcw : ∀ p, w.cell? p = wr.cell? p := fun p => by rw [hwr]; rfl
      have HD := Lib.hid (show ∀ s L, Strs w s L → Strs wr s L from fun s L h => by rw [hwr]; exact h.draws n)
      have HWR := Lib.hid hwr
      clear hwr
      have HN := Lib.hid hn
      by_cases hlt : k < A.length
      · have hlt' : k < B.length := by omega
        have HS := Lib.hid (take_eq_snocR A B k hlt hlt' hn)
        obtain ⟨_, x0, x1, x2, hsx, _⟩ := hc k hlt
        obtain ⟨_, y0, y1, y2, hsy, _⟩ := hc' k hlt'
        have hp := hidx k hlt
        have hp' := hidx' k hlt'
        obtain ⟨⟨ka, ga, sa⟩, hra⟩ : ∃ r, A.getD k default = r := ⟨_, rfl⟩
        obtain ⟨⟨kb, gb, sb⟩, hrb⟩ : ∃ r, B.getD k default = r := ⟨_, rfl⟩
        rw [hra] at x0 x1 hsx HS
        rw [hrb] at y0 y1 hsy HS
        rw [hcw] at x0 x1 x2 y0 y1 y2
        simp only at x0 x1 hsx y0 y1 hsy
        have HC := Lib.hid (fun m => ssame_any (src k) (src' k) sa sb _ ((HD.out _ _ hsx).draws m) ((HD.out _ _ hsy).draws m))
        have hbt := bstr_toList
        clear hidx hc hidx' hc' hn hra hrb hsx hsy hcw HD
        obtain ⟨sx, hsx⟩ : ∃ s, src k = s := ⟨_, rfl⟩
        obtain ⟨sy, hsy⟩ : ∃ s, src' k = s := ⟨_, rfl⟩
        rw [hsx] at x2 HC
        rw [hsy] at y2 HC
        clear hsx hsy
        cases hkk : (ka != kb)
        · have ek : ka = kb := by simpa using hkk
          cases hgg : (ga == gb)
          · have HF := Lib.hid (show decide (A = B) = false from decide_eq_false fun e => by
              have := HS.out.1 (by rw [e])
              simp only [Prod.mk.injEq] at this
              rw [this.2.1] at hgg
              simp at hgg)
            clear ek
            go_wp2
            go_quiet (fail)
            go_wp2
            go_ret
            exact ⟨ret_bool (by rw [HF.out]), n + nq, by rw [HWR.out]; simp⟩
          · have eg : ga = gb := by simpa using hgg
            cases hss : (sa == sb)
            · have HF := Lib.hid (show decide (A = B) = false from decide_eq_false fun e => by
                have := HS.out.1 (by rw [e])
                simp only [Prod.mk.injEq] at this
                rw [this.2.2] at hss
                simp at hss)
              rw [hss] at HC
              clear ek eg hss
              go_wp2
              go_quiet ((with_reducible refine quietN (HC.out _)))
              go_wp2
              go_ret
              exact ⟨ret_bool (by rw [HF.out]), n + nq, by rw [HWR.out]; simp⟩
            · have es : sa = sb := by simpa using hss
              rw [hss] at HC
              have HE := Lib.hid (HS.out.2 (by rw [ek, eg, es]))
              clear ek eg es hss
              go_wp2
              go_quiet ((with_reducible refine quietN (HC.out _)))
              go_wp2
              go_roundw
              case rel => exact ⟨k + 1, by omega, by go_num, HE.out, n + nq, by rw [HWR.out]; simp⟩
              case measure => simp [intOf]; omega
        · have HF := Lib.hid (show decide (A = B) = false from decide_eq_false fun e => by
            have := HS.out.1 (by rw [e])
            simp only [Prod.mk.injEq] at this
            rw [this.1] at hkk
            simp at hkk)
          go_wp2
          go_quiet (fail)
          go_wp2
          go_ret
          exact ⟨ret_bool (by rw [HF.out]), n + nq, by rw [HWR.out]; simp⟩
      · have HE := Lib.hid (show A = B by rw [List.take_of_length_le (by omega), List.take_of_length_le (by omega)] at hn; exact hn)
        clear hidx hc hidx' hc' hn hcw HD
        go_wp2
        go_ret
        exact ⟨ret_bool (by simp [HE.out]), n, HWR.out⟩
  · have hne : ((A.length : Int) != (B.length : Int)) = true := by rw [bne_iff_ne]; omega
    have HL := Lib.hid hl
    clear hl
    go_enter Try.func19, Try.ntmps19
    go_wp2
    go_ret
    exact ⟨ret_bool (by symm; exact decide_eq_false fun e => HL.out (by rw [e])), 0, rfl⟩
end Go.Proofs.Ytfloipdkhmgibaa

/- filter.Diff's closures. -/
namespace Go.Proofs.Ytfloipdkhmgibaa
open Go.RowKit Go.Lib Go.Sort
set_option maxRecDepth 20000

/-- a record as a call lays it: its kind, its group, the value of its sources, and what they read as -/
abbrev QRec := Int × Str × Value × List Str
def qcells (q : QRec) : List Value := [.int .i64 q.1, .string (bstr q.2.1), q.2.2.1]
def qrec (q : QRec) : Rec := (q.1, q.2.1, q.2.2.2)

/-- a slice of records of the call's own -/
def RowQ (w : World) (base : Nat) (v : Value) (Q : List QRec) : Prop :=
  w.ownsRow base 54 3 v Q.length (Q.flatMap qcells) ∧ ∀ q ∈ Q, Strs w q.2.2.1 q.2.2.2 ∧ Lies base q.2.2.1 ∧ q.2.1.length ≤ maxLen ∧ (q.2.2.2 ≠ [] → q.2.2.1.ownBlock ≠ v.ownBlock)

theorem RowQ.nil (w : World) (base : Nat) : RowQ w base (.slice none 0 0) [] := ⟨World.ownsRow_nil _ _ _ _, by simp⟩

theorem RowQ.below {w w' : World} {base : Nat} {v : Value} {Q : List QRec} (h : RowQ w base v Q) (hb : Below w.heap.size w w') : RowQ w' base v Q :=
  ⟨own_below h.1 hb, fun q hq => ⟨(h.2 q hq).1.mono hb, (h.2 q hq).2⟩⟩

theorem RowQ.far {w : World} {base : Nat} {v : Value} {Q : List QRec} (h : RowQ w base v Q) {p : Addr} (hp : p.block < base) (u : Value) : RowQ (w.setCell p u) base v Q :=
  ⟨ownsRow_setCell_below h.1 hp u, fun q hq => ⟨(h.2 q hq).1.far (h.2 q hq).2.1 hp u, (h.2 q hq).2⟩⟩

theorem Strs.block {w : World} {v : Value} {L : List Str} (h : Strs w v L) (hL : L ≠ []) : ∃ b, v.ownBlock = some b ∧ b < w.heap.size := by
  obtain ⟨ao, cap, b, off, rfl, h0, h1, h2, h3⟩ := h
  rcases h0 with h0 | rfl
  · exact absurd h0 hL
  · exact ⟨b, rfl, (h3 0 (List.length_pos_iff.2 hL)).1⟩

theorem Strs.grown' {w w' : World} {v : Value} {L : List Str} {row : Option Nat} (h : Strs w v L) (hg : w.grownBy w' row) (hne : L ≠ [] → v.ownBlock ≠ row) : Strs w' v L := by
  obtain ⟨ao, cap, b, off, rfl, h0, h1, h2, h3⟩ := h
  refine ⟨ao, cap, b, off, rfl, h0, h1, h2, fun k hk => ?_⟩
  obtain ⟨hlt, hc⟩ := h3 k hk
  have hL : L ≠ [] := by intro e; subst e; simp at hk
  rcases h0 with h0 | rfl
  · exact absurd h0 hL
  · refine ⟨Nat.lt_of_lt_of_le hlt hg.size, ?_⟩
    rw [World.cell?_of_block (w := w) (hg.block b hlt (hne hL))]
    exact hc

theorem RowQ.push {w w' : World} {base : Nat} {v v' : Value} {Q : List QRec} {q : QRec} (h : RowQ w base v Q) (hs : Strs w q.2.2.1 q.2.2.2) (hl : Lies base q.2.2.1) (hm : q.2.1.length ≤ maxLen) (hne : q.2.2.2 ≠ [] → q.2.2.1.ownBlock ≠ v.ownBlock)
    (hown : w'.ownsRow base 54 3 v' (Q.length + 1) (Q.flatMap qcells ++ qcells q)) (hg : w.grownBy w' v.ownBlock) (hv : v'.ownBlock = v.ownBlock ∨ v'.ownBlock = some w.heap.size) : RowQ w' base v' (Q ++ [q]) := by
  refine ⟨by simpa using hown, fun r hr => ?_⟩
  have key : Strs w r.2.2.1 r.2.2.2 ∧ Lies base r.2.2.1 ∧ r.2.1.length ≤ maxLen ∧ (r.2.2.2 ≠ [] → r.2.2.1.ownBlock ≠ v.ownBlock) := by
    rcases List.mem_append.1 hr with hr | hr
    · exact h.2 r hr
    · rw [List.mem_singleton] at hr; subst hr; exact ⟨hs, hl, hm, hne⟩
  obtain ⟨k1, k2, k3, k4⟩ := key
  refine ⟨k1.grown' hg k4, k2, k3, fun hL => ?_⟩
  rcases hv with e | e
  · rw [e]; exact k4 hL
  · obtain ⟨b, hb, hlt⟩ := k1.block hL
    rw [e, hb]
    intro e'
    injection e' with e'
    omega

theorem flat_get (Q : List QRec) (k : Nat) (hk : k < Q.length) (d : QRec) : (Q.flatMap qcells)[k * 3]? = some (.int .i64 (Q.getD k d).1) ∧ (Q.flatMap qcells)[k * 3 + 1]? = some (.string (bstr (Q.getD k d).2.1)) ∧ (Q.flatMap qcells)[k * 3 + 2]? = some (Q.getD k d).2.2.1 := by
  induction Q generalizing k with
  | nil => simp at hk
  | cons q Q ih =>
    cases k with
    | zero => simp [qcells]
    | succ k =>
      have := ih k (by simpa using hk)
      have e : ∀ j, (k + 1) * 3 + j = (k * 3 + j) + 3 := fun j => by omega
      have e0 : (k + 1) * 3 = (k * 3) + 3 := by omega
      rw [e, e, e0]
      simpa [qcells] using this

theorem RowQ.recs {w : World} {base : Nat} {v : Value} {Q : List QRec} (h : RowQ w base v Q) (hl : Q.length ≤ 1099511627776) : Recs w v (Q.map qrec) := by
  rcases h.1.2 with ⟨rfl, h0⟩ | ⟨g, cap, cur, rfl, hb, hg, hn, hm, hs, ht⟩
  · rw [List.length_eq_zero_iff] at h0
    subst h0
    exact Recs.nil w
  · refine ⟨_, cap, g, 0, fun k => (Q.getD k default).2.2.1, by simp, .inr rfl, by simpa using hl, fun k hk => ?_⟩
    have hk' : k < Q.length := by simpa using hk
    obtain ⟨x0, x1, x2⟩ := flat_get Q k hk' default
    have hc := h.1.cells (g := g) rfl
    have c0 := hc _ _ x0
    have c1 := hc _ _ x1
    have c2 := hc _ _ x2
    rw [add_lit] at c0 c1 c2
    have hq := h.2 (Q.getD k default) (by simp [List.getD_eq_getElem?_getD, hk'])
    have e : (Q.map qrec).getD k default = qrec (Q.getD k default) := by simp [List.getD_eq_getElem?_getD, hk']
    rw [e]
    refine ⟨(Array.getElem?_eq_some_iff.1 hg).1, c0, ?_, ?_, hq.1, hq.2.2.1⟩
    · rw [show 0 + k * 3 + 1 = 0 + (k * 3 + 1) from by omega]; exact c1
    · rw [show 0 + k * 3 + 2 = 0 + (k * 3 + 2) from by omega]; exact c2

theorem infoRec : (Try.prog.info? 54).map (fun i => (i.zero, i.size, i.bytes)) = some (some (.agg #[.int .i64 0, .string ⟨#[]⟩, .slice none 0 0]), 3, 48) := by kernel_rfl

def pDif (et : Bool) (T : List Str) (ef : Bool) (F : List Str) (x : Str) : Bool := adm et T x && !adm ef F x

set_option maxHeartbeats 1000000 in
theorem dif_tells (b1 b2 : Nat) (e1 e2 : Bool) (A B : List Str) (w : World) (h1 : BoxF w b1 e1 A) (h2 : BoxF w b2 e2 B) : Tells w 60 #[.pointer (some ⟨b1, 0, none⟩), .pointer (some ⟨b2, 0, none⟩)] (pDif e1 A e2 B) := by
  intro x W hW
  obtain ⟨v, _, c0, c1, hv⟩ := h1.mono hW
  obtain ⟨u, hb2, d0, d1, hu⟩ := h2.mono hW
  obtain ⟨ao, cap, rfl⟩ := hv.shape
  obtain ⟨bo, bcap, rfl⟩ := hu.shape
  have HC := Lib.hid (admitsB e1 _ A x W hv)
  have HD := Lib.hid (fun W' (h : Below W.heap.size W W') => admitsB e2 _ B x W' (hu.mono h))
  have HU := Lib.hid (And.intro d0 d1)
  clear hv hu h1 h2 hW
  cases hp : adm e1 A x
  · have HP := Lib.hid (show pDif e1 A e2 B x = false by simp [pDif, hp])
    rw [hp] at HC
    clear hp
    go_enter Try.func60, Try.ntmps60
    go_wp2_with ((with_reducible refine HC.out.mono ?_); rintro e w' ⟨rfl, hb⟩)
    go_ret
    exact ⟨ret_bool (by rw [HP.out]), hb⟩
  · have HP := Lib.hid (show pDif e1 A e2 B x = !adm e2 B x by simp [pDif, hp])
    rw [hp] at HC
    clear hp
    go_enter Try.func60, Try.ntmps60
    go_wp2_with (first | ((with_reducible refine HC.out.mono ?_); rintro e w' ⟨rfl, hb⟩; have x0 := (hb.cell (p := ⟨b2, 0, none⟩) hb2).trans HU.out.1; have x1 := (hb.cell (p := ⟨b2, 1, none⟩) hb2).trans HU.out.2) | ((with_reducible refine (HD.out _ hb).mono ?_); rintro e w'' ⟨rfl, hb'⟩))
    go_ret
    exact ⟨ret_bool (by rw [HP.out]), hb.trans (hb'.mono hb.size)⟩

theorem callFuncDif (args : Array Value) (w : World) : (callFunc 60 args).run Try.prog w = .ok (.enter 60 args) w := by kernel_rfl

/-- a box of one slice of records -/
def LBox (w : World) (b : Nat) (v : Value) : Prop := w.heap[b]? = some (.cells #[v] 47 (0, 0))
theorem LBox.lt {w : World} {b : Nat} {v : Value} (h : LBox w b v) : b < w.heap.size := (Array.getElem?_eq_some_iff.1 h).1
theorem LBox.below {w w' : World} {b B : Nat} {v : Value} (h : LBox w b v) (hb : Below B w w') (hB : b < B) : LBox w' b v := (hb.block b hB).trans h
theorem LBox.facts {w : World} {b : Nat} {v : Value} (h : LBox w b v) : w.cell? ⟨b, 0, none⟩ = some v ∧ w.frozen? ⟨b, 0, none⟩ = false := by
  have h' : w.heap[b]? = some (.cells #[v] 47 (0, 0)) := h
  exact ⟨by simp [World.cell?, h'], by simp [World.frozen?, h']⟩
theorem LBox.set {w : World} {b : Nat} {v : Value} (h : LBox w b v) (u : Value) : LBox (w.setCell ⟨b, 0, none⟩ u) b u := by
  have h' : w.heap[b]? = some (.cells #[v] 47 (0, 0)) := h
  unfold LBox
  simp [World.setCell, Array.getElem?_modify, h']

/-- what the closure leaves -/
def Changed (W : World) (bl : Nat) (Q : List QRec) (kind : Int) (g : Str) (now : List Str) (e : Ending) (W' : World) : Prop :=
  e = .returned (.tuple #[]) ∧ Below bl W W' ∧ ∃ v' Q', LBox W' bl v' ∧ RowQ W' (bl + 1) v' Q' ∧ Q'.map qrec = Q.map qrec ++ (if now = [] then [] else [(kind, g, now)])

theorem sliceOf_block {w : World} {b : Nat} {cs : List Value} {T : TypeId} {fr : Nat × Nat} {size m c : Nat} (h : w.heap[b]? = some (.cells cs.toArray T fr)) (hl : cs.length = m * size) (h1 : ∀ x ∈ cs, x.oneCell' = true) :
    SliceOf w size (.slice (some ⟨b, 0, none⟩) m c) m cs := by
  refine ⟨_, _, rfl, hl, h1, .inr ⟨_, rfl, fun j x hj => ?_⟩⟩
  rw [add_lit, Nat.zero_add]
  simp [World.cell?, h, hj]

set_option maxHeartbeats 4000000 in
theorem changes_any (kind : Int) (ef et : Bool) (vf vt : Value) (F T : List Str) (e1 e2 : Bool) (va vb : Value) (A B : List Str) (b4 b5 b3 bl : Nat) (g : Str) (v : Value) (Q : List QRec) (W : World)
    (hf : Strs W vf F) (ht : Strs W vt T) (f4 : FBox W b4 e1 va) (f5 : FBox W b5 e2 vb) (ha : Strs W va A) (hb : Strs W vb B) (c3 : W.cell? ⟨b3, 0, none⟩ = some (.string (bstr g))) (hg : g.length ≤ maxLen)
    (hl : LBox W bl v) (hq : RowQ W (bl + 1) v Q) (h4 : b4 < bl) (h5 : b5 < bl) (h3 : b3 < bl) (hlen : A.length + B.length ≤ 8796093022200) (hQ : Q.length ≤ 1000) :
    Calls Try.prog 59 #[.int .i64 kind, .agg #[.bool ef, vf], .agg #[.bool et, vt], .pointer (some ⟨b4, 0, none⟩), .pointer (some ⟨b5, 0, none⟩), .pointer (some ⟨bl, 0, none⟩), .pointer (some ⟨b3, 0, none⟩)] W
      (Changed W bl Q kind g (sasc ((A ++ B).filter (pDif et T ef F)))) := by
  obtain ⟨fo, fc, rfl⟩ := hf.shape
  obtain ⟨tto, ttc, rfl⟩ := ht.shape
  obtain ⟨i0, hi, hz0, hz1, hz2⟩ := info_parts infoRec
  obtain ⟨W0, hW0⟩ : ∃ W0, W0 = (W.alloc (.cells #[.bool ef, .slice fo F.length fc] 28)).alloc (.cells #[.bool et, .slice tto T.length ttc] 28) := ⟨_, rfl⟩
  have hb0 : Below W.heap.size W W0 := by rw [hW0]; exact ((Below.refl _ _).alloc (Nat.le_refl _) _).alloc (by simp) _
  have hs0 : W0.heap.size = W.heap.size + 2 := by rw [hW0]; simp
  have x0 : BoxF W0 W.heap.size ef F := ⟨_, by omega, by rw [hW0]; exact cell_alloc_old (by simp) (cell_alloc_new rfl rfl), by rw [hW0]; exact cell_alloc_old (by simp) (cell_alloc_new rfl rfl), hf.mono hb0⟩
  have x1 : BoxF W0 (W.heap.size + 1) et T := ⟨_, by omega, by rw [hW0]; exact cell_alloc_new (by simp) rfl, by rw [hW0]; exact cell_alloc_new (by simp) rfl, ht.mono hb0⟩
  have HC := Lib.hid (srise_any va vb A B 60 #[.pointer (some ⟨W.heap.size + 1, 0, none⟩), .pointer (some ⟨W.heap.size, 0, none⟩)] (pDif et T ef F) W0 (ha.mono hb0) (hb.mono hb0) hlen callFuncDif (dif_tells _ _ et ef T F W0 x1 x0))
  have hll := hl.lt
  have a4 := (f4.below hb0 (by omega)).facts.2.1
  have a5 := (f5.below hb0 (by omega)).facts.2.1
  have HL := Lib.hid hl
  have HQ := Lib.hid hq
  have HB0 := Lib.hid hb0
  have HC3 := Lib.hid c3
  rw [hW0] at HC HB0 a4 a5
  generalize sasc ((A ++ B).filter (pDif et T ef F)) = R at HC ⊢
  have H3 := Lib.hid (show b3 < W.heap.size by omega)
  clear hf ht f4 f5 ha hb c3 hl hq hb0 hs0 x0 x1 h4 h5 h3 hW0 W0
  by_cases hR : R = []
  · subst hR
    have HG := Lib.hid (show (Q.map qrec) = Q.map qrec ++ (if ([] : List Str) = [] then [] else [(kind, g, [])]) by simp)
    go_enter Try.func59, Try.ntmps59
    go_wp2_with ((with_reducible refine HC.out.mono ?_); rintro e w1 ⟨o, rfl, ho, hb1, hlo⟩; obtain ⟨oo, oc, rfl⟩ := ho.shape; have HB1 := Lib.hid (HB0.out.trans (hb1.mono HB0.out.size)); clear hb1 hlo ho)
    go_end0
    exact ⟨rfl, HB1.out.mono (Nat.le_of_lt HL.out.lt), v, Q, HL.out.below HB1.out HL.out.lt, HQ.out.below HB1.out, HG.out⟩
  · have hR1 : (0 : Int) < R.length := by have := List.length_pos_iff.2 hR; omega
    have HG := Lib.hid (show (if R = [] then [] else [(kind, g, R)]) = [(kind, g, R)] from if_neg hR)
    have hd : decide ((0 : Int) < (R.length : Int)) = true := decide_eq_true hR1
    clear hR
    go_enter Try.func59, Try.ntmps59
    go_wp2_with (first | (at_builtin; refine wpList_append_vals _ rfl _ _ 47 rfl (bl + 1) 54 i0 _ 3 48 Try.underlying47 hi hz0 hz1 hz2 rfl (by decide) v Q.length (Q.flatMap qcells) rfl (HQ1.out.1.alloc _) _ 1 [.int .i64 kind, .string (bstr g), .slice oo R.length oc] rfl (sliceOf_block (heap_new _ _ _ rfl) rfl (by simp [Value.oneCell'])) (by unfold maxLen; omega) (by omega) (by have := HB1.out.size; simp; omega) ?_; intro v' w2 hown2 hg2 hv2; obtain ⟨vo, vc, rfl⟩ := own_form hown2; have HX := Lib.hid (And.intro hown2 (And.intro hg2 hv2)); have hbl2 := below_own (B := bl + 1) (Below.refl _ _) (HQ1.out.1.alloc (.cells #[.int .i64 kind, .string (bstr g), .slice oo R.length oc] 54)) (Nat.le_refl _) (by have := HB1.out.size; simp; omega) hg2; have HB2 := Lib.hid hbl2; obtain ⟨m0, m1⟩ := ((HL1.out.below ((Below.refl _ _).alloc (Nat.le_refl _) _) HL1.out.lt).below HB2.out (by omega)).facts; clear hown2 hg2 hbl2 hv2) | ((with_reducible refine HC.out.mono ?_); rintro e w1 ⟨o, rfl, ho, hb1, hlo⟩; obtain ⟨oo, oc, rfl⟩ := ho.shape; have HB1 := Lib.hid (HB0.out.trans (hb1.mono HB0.out.size)); have HO := Lib.hid ho; have HLW := Lib.hid (hlo.mono (lo' := W.heap.size) (by simp; omega)); have HLO := Lib.hid (hlo.mono (lo' := bl + 1) (by simp; omega)); have HL1 := Lib.hid (HL.out.below HB1.out HL.out.lt); have HQ1 := Lib.hid (HQ.out.below HB1.out); obtain ⟨l0, l1⟩ := HL1.out.facts; have g0 := (HB1.out.cell (p := ⟨b3, 0, none⟩) H3.out).trans HC3.out; clear hb1 hlo ho))
    go_end0
    have hb2 : Below w1.heap.size w1 (w1.alloc (.cells #[.int .i64 kind, .string (bstr g), .slice oo R.length oc] 54)) := (Below.refl _ _).alloc (Nat.le_refl _) _
    have hq2 : RowQ w2 (bl + 1) (.slice vo (Q.length + 1) vc) (Q ++ [(kind, g, .slice oo R.length oc, R)]) :=
      (HQ1.out.below hb2).push (HO.out.mono hb2) HLO.out hg (fun _ e => by
        cases hv : v.ownBlock with
        | none =>
          rw [hv] at e
          obtain ⟨b, hb, _⟩ := HO.out.block (by intro e; subst e; simp at hR1)
          rw [hb] at e; cases e
        | some b =>
          rw [hv] at e
          have h1 := HLW.out b e
          have h2 := (HQ.out.1.lt b hv).2
          omega) HX.out.1 HX.out.2.1 HX.out.2.2
    have hsz := HB1.out.size
    refine ⟨rfl, ?_, _, _, ((HL1.out.below hb2 HL1.out.lt).below HB2.out (by omega)).set _, hq2.far (by simp) _, ?_⟩
    · exact (((HB1.out.mono (Nat.le_of_lt hll)).trans (hb2.mono (by omega))).trans (HB2.out.mono (by omega))).setCell (Nat.le_refl _) _
    · rw [HG.out]; simp [qrec]
end Go.Proofs.Ytfloipdkhmgibaa

/- filter.Diff: the records that turn one filter into another one. -/
namespace Go.Proofs.Ytfloipdkhmgibaa
open Go.RowKit Go.Lib Go.Sort
set_option maxRecDepth 20000
attribute [local go_sem ↓] Go.wp_at_zero Go.wp_at_succ

/-- a call that hands back records, and writes nothing that was there -/
def RetRecs (w : World) (R : List Rec) (e : Ending) (w' : World) : Prop := ∃ v, e = .returned v ∧ Recs w' v R ∧ Below w.heap.size w w'

def rec1 (kind : Int) (g : Str) (now : List Str) : List Rec := if now = [] then [] else [(kind, g, now)]

theorem rec1_len (k : Int) (g : Str) (L : List Str) : (rec1 k g L).length ≤ 1 := by unfold rec1; split <;> simp

def pdiff (g : Str) (e1 : Bool) (A : List Str) (e2 : Bool) (B : List Str) : List Rec :=
  if e1 = e2 then rec1 5 g (sasc ((A ++ B).filter (pDif e2 B e1 A))) ++ rec1 6 g (sasc ((A ++ B).filter (pDif e1 A e2 B))) else [(if e2 then 4 else 3, g, sasc B)]

theorem run_fieldF (b : Bool) (ao : Option Addr) (n c : Nat) (w : World) : (Instr.field 28 (.agg #[.bool b, .slice ao n c]) 1).run Try.prog w = .ok (.slice ao n c) w := by kernel_rfl

theorem recs_one {w : World} {b : Nat} {kind : Int} {g : Str} {s : Value} {L : List Str} {T : TypeId} (h : w.heap[b]? = some (.cells #[.int .i64 kind, .string (bstr g), s] T (0, 0))) (hs : Strs w s L) (hg : g.length ≤ maxLen) (c : Nat) : Recs w (.slice (some ⟨b, 0, none⟩) 1 c) [(kind, g, L)] := by
  refine ⟨_, c, b, 0, fun _ => s, rfl, .inr rfl, by simp, fun k hk => ?_⟩
  obtain rfl : k = 0 := by simp at hk; omega
  exact ⟨(Array.getElem?_eq_some_iff.1 h).1, by simp [World.cell?, h], by simp [World.cell?, h], by simp [World.cell?, h], hs, hg⟩

set_option maxHeartbeats 4000000 in
theorem diff_any (g : Str) (e1 e2 : Bool) (v u : Value) (A B : List Str) (w : World) (hg : g.length ≤ maxLen) (hv : Strs w v A) (hu : Strs w u B) (hl : A.length + B.length ≤ 8796093022200) :
    Calls Try.prog 36 #[.string (bstr g), .agg #[.bool e1, v], .agg #[.bool e2, u]] w (RetRecs w (pdiff g e1 A e2 B)) := by
  obtain ⟨ao, cap, rfl⟩ := hv.shape
  obtain ⟨bo, bcap, rfl⟩ := hu.shape
  obtain ⟨W0, hW0⟩ : ∃ W0, W0 = ((w.alloc (.cells #[.string (bstr g)] 44)).alloc (.cells #[.bool e1, .slice ao A.length cap] 28)).alloc (.cells #[.bool e2, .slice bo B.length bcap] 28) := ⟨_, rfl⟩
  have hb0 : Below w.heap.size w W0 := by rw [hW0]; exact (((Below.refl _ _).alloc (Nat.le_refl _) _).alloc (by simp) _).alloc (by simp <;> omega) _
  have hs0 : W0.heap.size = w.heap.size + 3 := by rw [hW0]; simp
  have c0 : W0.cell? ⟨w.heap.size, 0, none⟩ = some (.string (bstr g)) := by rw [hW0]; exact cell_alloc_old (by simp <;> omega) (cell_alloc_old (by simp) (cell_alloc_new rfl rfl))
  have f1 : FBox W0 (w.heap.size + 1) e1 (.slice ao A.length cap) := by rw [hW0]; exact (FBox.new _ _ (by simp)).old _
  have f2 : FBox W0 (w.heap.size + 2) e2 (.slice bo B.length bcap) := by rw [hW0]; exact FBox.new _ _ (by simp)
  by_cases he : e1 = e2
  · have HE := Lib.hid (show pdiff g e1 A e2 B = rec1 5 g (sasc ((A ++ B).filter (pDif e2 B e1 A))) ++ rec1 6 g (sasc ((A ++ B).filter (pDif e1 A e2 B))) from if_pos he)
    rw [HE.out]
    obtain ⟨W1, hW1⟩ : ∃ W1, W1 = W0.alloc (.cells #[.slice none 0 0] 47) := ⟨_, rfl⟩
    have hb1 : Below w.heap.size w W1 := by rw [hW1]; exact hb0.alloc (by omega) _
    have hs1 : W1.heap.size = w.heap.size + 4 := by rw [hW1]; simp [hs0]
    have d0 : W1.cell? ⟨w.heap.size, 0, none⟩ = some (.string (bstr g)) := by rw [hW1]; exact cell_alloc_old (by omega) c0
    have g1 : FBox W1 (w.heap.size + 1) e1 (.slice ao A.length cap) := by rw [hW1]; exact f1.old _
    have g2 : FBox W1 (w.heap.size + 1 + 1) e2 (.slice bo B.length bcap) := by rw [hW1]; exact f2.old _
    have gl : LBox W1 (w.heap.size + 1 + 1 + 1) (.slice none 0 0) := by rw [hW1]; exact heap_new _ _ _ (by omega)
    have HC := Lib.hid (changes_any 5 e1 e2 _ _ A B e1 e2 _ _ A B (w.heap.size + 1) (w.heap.size + 1 + 1) w.heap.size (w.heap.size + 1 + 1 + 1) g _ [] W1 (hv.mono hb1) (hu.mono hb1) g1 g2 (hv.mono hb1) (hu.mono hb1) d0 hg gl (RowQ.nil _ _) (by omega) (by omega) (by omega) hl (by simp))
    have HB1 := Lib.hid hb1
    have HD := Lib.hid (fun v' Q (W2 : World) (hb : Below (w.heap.size + 1 + 1 + 1) W1 W2) (gl : LBox W2 (w.heap.size + 1 + 1 + 1) v') (hq : RowQ W2 (w.heap.size + 1 + 1 + 1 + 1) v' Q) (hQ : Q.length ≤ 1000) =>
      have hb2 : Below w.heap.size w W2 := hb1.trans (hb.mono (by omega))
      changes_any 6 e2 e1 _ _ B A e1 e2 _ _ A B (w.heap.size + 1) (w.heap.size + 1 + 1) w.heap.size (w.heap.size + 1 + 1 + 1) g v' Q W2 (hu.mono hb2) (hv.mono hb2) (g1.below hb (by omega)) (g2.below hb (by omega)) (hv.mono hb2) (hu.mono hb2) ((hb.cell (p := ⟨w.heap.size, 0, none⟩) (by simp <;> omega)).trans d0) hg gl hq (by omega) (by omega) (by omega) hl hQ)
    have HG := Lib.hid (And.intro g1 g2)
    have x1 := g1.facts
    have x2 := g2.facts
    rw [hW1, hW0] at HC HB1 HD HG
    clear hv hu hb0 hb1 hs0 hs1 c0 d0 f1 f2 g1 g2 gl x1 x2 hW1 hW0 W0 W1
    generalize sasc ((A ++ B).filter (pDif e2 B e1 A)) = R5 at HC ⊢
    have hmm : (A ++ B).filter (pDif e1 A e2 B) = (A ++ B).filter (pDif e1 A e2 B) := rfl
    generalize sasc ((A ++ B).filter (pDif e1 A e2 B)) = R6 at HD ⊢
    clear hmm HE
    subst he
    go_enter Try.func36, Try.ntmps36
    go_wp2_with fail
    refine HC.out.mono ?_
    rintro e w2 ⟨rfl, hb2, v2, Q2, hl2, hq2, hQ2⟩
    obtain ⟨x0, x1, _, _⟩ := (HG.out.1.below hb2 (by omega)).facts
    obtain ⟨y0, y1, _, _⟩ := (HG.out.2.below hb2 (by omega)).facts
    have hq2l : Q2.length ≤ 1000 := by
      have := congrArg List.length hQ2
      have h1 : (if R5 = [] then [] else [((5 : Int), g, R5)] : List Rec).length ≤ 1 := by split <;> simp
      rw [List.length_map, List.length_append] at this
      simp only [List.map_nil, List.length_nil] at this
      omega
    have HD2 := Lib.hid (HD.out v2 Q2 w2 hb2 hl2 hq2 hq2l)
    have HQ2 := Lib.hid hQ2
    have HB2 := Lib.hid hb2
    clear hb2 hl2 hq2 hQ2 hq2l
    go_wp2_with fail
    refine HD2.out.mono ?_
    rintro e w3 ⟨rfl, hb3, v3, Q3, hl3, hq3, hQ3⟩
    obtain ⟨z0, _⟩ := hl3.facts
    have HQ3 := Lib.hid hQ3
    have HB3 := Lib.hid hb3
    have HR3 := Lib.hid hq3
    clear hb3 hl3 hq3 hQ3
    go_wp2
    go_ret
    refine ⟨_, rfl, ?_, HB1.out.trans ((HB2.out.trans HB3.out).mono (by omega))⟩
    have e : Q3.map qrec = rec1 5 g R5 ++ rec1 6 g R6 := by
      rw [HQ3.out, HQ2.out]; simp [rec1]
    rw [← e]
    refine HR3.out.recs ?_
    have := congrArg List.length e
    rw [List.length_map, List.length_append] at this
    have h1 := rec1_len 5 g R5
    have h2 := rec1_len 6 g R6
    omega
  · have HE := Lib.hid (show pdiff g e1 A e2 B = [(if e2 then 4 else 3, g, sasc B)] from if_neg he)
    rw [HE.out]
    have hne : (e1 != e2) = true := by simpa using he
    have HC := Lib.hid (norm_any e2 _ B W0.drew ((hu.mono hb0).draws 1) (by omega))
    have HK := Lib.hid (show ∀ W', Below (w.heap.size + 3) W0 W' → W'.cell? ⟨w.heap.size, 0, none⟩ = some (.string (bstr g)) ∧ W'.cell? ⟨w.heap.size + 2, 0, none⟩ = some (.bool e2) ∧ W'.cell? ⟨w.heap.size + 2, 1, none⟩ = some (.slice bo B.length bcap) from fun W' hb =>
      ⟨(hb.cell (p := ⟨w.heap.size, 0, none⟩) (by simp)).trans c0, (f2.below hb (by omega)).facts.1, (f2.below hb (by omega)).facts.2.1⟩)
    have HB0 := Lib.hid hb0
    rw [hW0] at HC HK HB0
    generalize sasc B = R at HC ⊢
    clear hv hu hb0 hs0 c0 f1 f2 hW0 W0 HE
    cases e1 <;> cases e2 <;> simp at he
    · clear hne
      have hfld := run_fieldF
      go_enter Try.func36, Try.ntmps36
      go_wp2
      go_region_held3 (fun w' => w'.cell? ⟨w.heap.size, 0, none⟩ = some (.string (bstr g)) ∧ w'.cell? ⟨w.heap.size + 2, 0, none⟩ = some (.bool true) ∧ w'.cell? ⟨w.heap.size + 2, 1, none⟩ = some (.slice bo B.length bcap)) (first | exact HK.out _ (Below.drew (Below.refl _ _)) | exact HK.out _ HB1.out | exact HK.out _ (HB1.out.alloc (by have := HB1.out.size; simp at this; omega) _)) (((with_reducible refine HC.out.mono ?_); rintro e w' ⟨o, rfl, ho, hb, _⟩; obtain ⟨oo, oc, rfl⟩ := ho.shape; have HB1 := Lib.hid ((Below.drew (Below.refl (w.heap.size + 3) _)).trans (hb.mono (B' := w.heap.size + 3) (by simp))); have HO := Lib.hid ho; clear hb ho))
      go_wp2
      go_ret
      have hb2 : Below w'.heap.size w' (w'.alloc (.cells #[.int .i64 4, .string (bstr g), .slice oo R.length oc] 54)) := (Below.refl _ _).alloc (Nat.le_refl _) _
      have hs := HB1.out.size
      exact ⟨_, rfl, recs_one (heap_new _ _ _ rfl) (HO.out.mono hb2) hg _, (HB0.out.trans (HB1.out.mono (by omega))).trans (hb2.mono (by simp at hs; omega))⟩
    · clear hne
      have hfld := run_fieldF
      go_enter Try.func36, Try.ntmps36
      go_wp2
      go_region_held3 (fun w' => w'.cell? ⟨w.heap.size, 0, none⟩ = some (.string (bstr g)) ∧ w'.cell? ⟨w.heap.size + 2, 0, none⟩ = some (.bool false) ∧ w'.cell? ⟨w.heap.size + 2, 1, none⟩ = some (.slice bo B.length bcap)) (first | exact HK.out _ (Below.drew (Below.refl _ _)) | exact HK.out _ HB1.out | exact HK.out _ (HB1.out.alloc (by have := HB1.out.size; simp at this; omega) _)) (((with_reducible refine HC.out.mono ?_); rintro e w' ⟨o, rfl, ho, hb, _⟩; obtain ⟨oo, oc, rfl⟩ := ho.shape; have HB1 := Lib.hid ((Below.drew (Below.refl (w.heap.size + 3) _)).trans (hb.mono (B' := w.heap.size + 3) (by simp))); have HO := Lib.hid ho; clear hb ho))
      go_wp2
      go_ret
      have hb2 : Below w'.heap.size w' (w'.alloc (.cells #[.int .i64 3, .string (bstr g), .slice oo R.length oc] 54)) := (Below.refl _ _).alloc (Nat.le_refl _) _
      have hs := HB1.out.size
      exact ⟨_, rfl, recs_one (heap_new _ _ _ rfl) (HO.out.mono hb2) hg _, (HB0.out.trans (HB1.out.mono (by omega))).trans (hb2.mono (by simp at hs; omega))⟩
end Go.Proofs.Ytfloipdkhmgibaa
