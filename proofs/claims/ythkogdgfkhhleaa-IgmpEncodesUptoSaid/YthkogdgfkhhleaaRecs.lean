/- Slices of records in memory ('Recs'), and siphonref08.SameRecords. -/
import Derived.Test.YthkogdgfkhhleaaJPlain
import Derived.Test.YthkogdgfkhhleaaStrs
import Derived.Lib.RowBridge
import Derived.Test.YthkogdgfkhhleaaApp
import Derived.Sort.Walk0
import Derived.LoopN
import Derived.Deep.RegionHeld3
import Derived.Deep.DrawnRows
import Derived.Deep.RegionLaw
import Derived.Lib.QuietBelow
import Derived.Deep.DeepCutAuto
namespace Go.Proofs.Ythkogdgfkhhleaa
open Go.RowKit Go.Lib Go.Sort
set_option maxRecDepth 20000

/-- v is a slice of records that read as R -/
def Recs (w : World) (v : Value) (R : List Rec) : Prop :=
  ∃ ao cap b off, ∃ src : Nat → Value, v = .slice ao R.length cap ∧ (R = [] ∨ ao = some ⟨b, off, none⟩) ∧ R.length ≤ 1099511627776 ∧
    (∀ k, k < R.length → b < w.heap.size ∧ w.cell? ⟨b, off + k * 3, none⟩ = some (.int .i64 (R.getD k default).1) ∧ w.cell? ⟨b, off + k * 3 + 1, none⟩ = some (.string (bstr (R.getD k default).2.1)) ∧ w.cell? ⟨b, off + k * 3 + 2, none⟩ = some (src k) ∧
      Strs w (src k) (R.getD k default).2.2 ∧ (R.getD k default).2.1.length ≤ maxLen)

theorem Recs.mono {w w' : World} {v : Value} {R : List Rec} (h : Recs w v R) (hb : Below w.heap.size w w') : Recs w' v R := by
  obtain ⟨ao, cap, b, off, src, rfl, h0, h1, h2⟩ := h
  refine ⟨ao, cap, b, off, src, rfl, h0, h1, fun k hk => ?_⟩
  obtain ⟨hlt, c0, c1, c2, hs, hm⟩ := h2 k hk
  exact ⟨Nat.lt_of_lt_of_le hlt hb.size, (hb.cell (p := ⟨b, off + k * 3, none⟩) hlt).trans c0, (hb.cell (p := ⟨b, off + k * 3 + 1, none⟩) hlt).trans c1, (hb.cell (p := ⟨b, off + k * 3 + 2, none⟩) hlt).trans c2, hs.mono hb, hm⟩

theorem Recs.draws {w : World} {v : Value} {R : List Rec} (h : Recs w v R) (n : Nat) : Recs (w.drewN n) v R := h.mono (below_draws _ (Below.refl _ _) n)
theorem Recs.nil (w : World) : Recs w (.slice none 0 0) [] := ⟨none, 0, 0, 0, fun _ => undef, rfl, .inl rfl, by simp, by simp⟩
theorem Recs.shape {w : World} {v : Value} {R : List Rec} (h : Recs w v R) : ∃ ao cap, v = .slice ao R.length cap := by
  obtain ⟨ao, cap, _, _, _, h, _⟩ := h
  exact ⟨ao, cap, h⟩

/-- What a walk asks of it. -/
theorem Recs.facts {w : World} {v : Value} {R : List Rec} (h : Recs w v R) :
    ∃ b off, ∃ src : Nat → Value, R.length ≤ 1099511627776 ∧ (∀ ty w', (Builtin.len_ #[25] ty #[v]).run Try.prog w' = .ok (.int .i64 R.length) w') ∧
      (∀ k, k < R.length → ∀ w', (Instr.indexAt 25 v (.int .i64 k)).run Try.prog w' = .ok (.pointer (some ⟨b, off + k * 3, none⟩)) w') ∧
      (∀ k, k < R.length → b < w.heap.size ∧ w.cell? ⟨b, off + k * 3, none⟩ = some (.int .i64 (R.getD k default).1) ∧ w.cell? ⟨b, off + k * 3 + 1, none⟩ = some (.string (bstr (R.getD k default).2.1)) ∧ w.cell? ⟨b, off + k * 3 + 2, none⟩ = some (src k) ∧
        Strs w (src k) (R.getD k default).2.2 ∧ (R.getD k default).2.1.length ≤ maxLen) := by
  obtain ⟨ao, cap, b, off, src, rfl, h0, h1, h2⟩ := h
  refine ⟨b, off, src, h1, fun ty w' => run_len_any Try.underlying25 ao R.length cap ty w', fun k hk w' => ?_, h2⟩
  rcases h0 with h0 | rfl
  · subst h0; exact absurd hk (by simp)
  · exact run_index_any (P := Try.prog) (s := 3) Try.underlying25 (fun w => by kernel_rfl) b off R.length cap k hk w'

theorem take_eq_snocR (A B : List Rec) (k : Nat) (ha : k < A.length) (hb : k < B.length) (h : A.take k = B.take k) : (A.take (k + 1) = B.take (k + 1)) ↔ A.getD k default = B.getD k default := by
  rw [take_snoc A k ha, take_snoc B k hb, h, List.append_cancel_left_eq]
  simp [List.getD_eq_getElem?_getD, ha, hb]

/-- a callee that only reads, and may draw, inside a region that draws -/
theorem quietN {P : Program} {f : FuncId} {args : Array Value} {w : World} {n : Nat} {v : Value}
    (h : Calls P f args (w.drewN n) fun e w' => e = .returned v ∧ ∃ m, w' = (w.drewN n).drewN m) : Calls P f args (w.drewN n) fun e w'' => e = .returned v ∧ ∃ m, w'' = w.drewN m := Calls.quiet_of h

set_option maxHeartbeats 4000000 in
theorem samerecs_any (v u : Value) (A B : List Rec) (w : World) (h : Recs w v A) (h' : Recs w u B) :
    Calls Try.prog 22 #[v, u] w fun e w' => e = .returned (.bool (decide (A = B))) ∧ ∃ n, w' = w.drewN n := by
  obtain ⟨b, off, src, hm, hlen, hidx, hc⟩ := h.facts
  obtain ⟨b', off', src', hm', hlen', hidx', hc'⟩ := h'.facts
  clear h h'
  by_cases hl : A.length = B.length
  · have hne : ((A.length : Int) != (B.length : Int)) = false := by rw [hl]; simp
    have HL := Lib.hid hl
    have hle : A.length ≤ B.length := by omega
    have hle' : B.length ≤ A.length := by omega
    clear hl
    go_enter Try.func22, Try.ntmps22
    go_wp2
    go_loopw [5] (fun i wr => ∃ k : Nat, k ≤ A.length ∧ i = .int .i64 k ∧ A.take k = B.take k ∧ ∃ n, wr = w.drewN n) (fun i _ => A.length - (RowKit.intOf i).toNat)
    case atStart => exact ⟨0, Nat.zero_le _, rfl, by simp, 0, rfl⟩
    case round =>
      obtain ⟨k, hk, rfl, hn, n, hwr⟩ := hrel
      have hcw : ∀ p, w.cell? p = wr.cell? p := fun p => by rw [hwr]; rfl
      have HD := Lib.hid (show ∀ s L, Strs w s L → Strs wr s L from fun s L h => by rw [hwr]; exact h.draws n)
      have HWR := Lib.hid hwr
      clear hwr
      have HN := Lib.hid hn
      by_cases hlt : k < A.length
      · have hlt' : k < B.length := by omega
        have HS := Lib.hid (take_eq_snocR A B k hlt hlt' hn)
        obtain ⟨_, x0, x1, x2, hsx, _⟩ := hc k hlt
        obtain ⟨_, y0, y1, y2, hsy, _⟩ := hc' k hlt'
        have hp := hidx k hlt
        have hp' := hidx' k hlt'
        obtain ⟨⟨ka, ga, sa⟩, hra⟩ : ∃ r, A.getD k default = r := ⟨_, rfl⟩
        obtain ⟨⟨kb, gb, sb⟩, hrb⟩ : ∃ r, B.getD k default = r := ⟨_, rfl⟩
        rw [hra] at x0 x1 hsx HS
        rw [hrb] at y0 y1 hsy HS
        rw [hcw] at x0 x1 x2 y0 y1 y2
        simp only at x0 x1 hsx y0 y1 hsy
        have HC := Lib.hid (fun m => ssame_any (src k) (src' k) sa sb _ ((HD.out _ _ hsx).draws m) ((HD.out _ _ hsy).draws m))
        have hbt := bstr_toList
        clear hidx hc hidx' hc' hn hra hrb hsx hsy hcw HD
        obtain ⟨sx, hsx⟩ : ∃ s, src k = s := ⟨_, rfl⟩
        obtain ⟨sy, hsy⟩ : ∃ s, src' k = s := ⟨_, rfl⟩
        rw [hsx] at x2 HC
        rw [hsy] at y2 HC
        clear hsx hsy
        cases hkk : (ka != kb)
        · have ek : ka = kb := by simpa using hkk
          cases hgg : (ga == gb)
          · have HF := Lib.hid (show decide (A = B) = false from decide_eq_false fun e => by
              have := HS.out.1 (by rw [e])
              simp only [Prod.mk.injEq] at this
              rw [this.2.1] at hgg
              simp at hgg)
            clear ek
            go_wp2
            go_quiet (fail)
            go_wp2
            go_ret
            exact ⟨ret_bool (by rw [HF.out]), n + nq, by rw [HWR.out]; simp⟩
          · have eg : ga = gb := by simpa using hgg
            cases hss : (sa == sb)
            · have HF := Lib.hid (show decide (A = B) = false from decide_eq_false fun e => by
                have := HS.out.1 (by rw [e])
                simp only [Prod.mk.injEq] at this
                rw [this.2.2] at hss
                simp at hss)
              rw [hss] at HC
              clear ek eg hss
              go_wp2
              go_quiet ((with_reducible refine quietN (HC.out _)))
              go_wp2
              go_ret
              exact ⟨ret_bool (by rw [HF.out]), n + nq, by rw [HWR.out]; simp⟩
            · have es : sa = sb := by simpa using hss
              rw [hss] at HC
              have HE := Lib.hid (HS.out.2 (by rw [ek, eg, es]))
              clear ek eg es hss
              go_wp2
              go_quiet ((with_reducible refine quietN (HC.out _)))
              go_wp2
              go_roundw
              case rel => exact ⟨k + 1, by omega, by go_num, HE.out, n + nq, by rw [HWR.out]; simp⟩
              case measure => simp [RowKit.intOf]; omega
        · have HF := Lib.hid (show decide (A = B) = false from decide_eq_false fun e => by
            have := HS.out.1 (by rw [e])
            simp only [Prod.mk.injEq] at this
            rw [this.1] at hkk
            simp at hkk)
          go_wp2
          go_quiet (fail)
          go_wp2
          go_ret
          exact ⟨ret_bool (by rw [HF.out]), n + nq, by rw [HWR.out]; simp⟩
      · have HE := Lib.hid (show A = B by rw [List.take_of_length_le (by omega), List.take_of_length_le (by omega)] at hn; exact hn)
        clear hidx hc hidx' hc' hn hcw HD
        go_wp2
        go_ret
        exact ⟨ret_bool (by simp [HE.out]), n, HWR.out⟩
  · have hne : ((A.length : Int) != (B.length : Int)) = true := by rw [bne_iff_ne]; omega
    have HL := Lib.hid hl
    clear hl
    go_enter Try.func22, Try.ntmps22
    go_wp2
    go_ret
    exact ⟨ret_bool (by symm; exact decide_eq_false fun e => HL.out (by rw [e])), 0, rfl⟩
end Go.Proofs.Ythkogdgfkhhleaa
