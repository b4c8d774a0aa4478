/- Texts joined into one file: GRchk, GRead, GState. -/
import Derived.Test.YtfloipdkhmgibaaS09

/- siphonref17.Check: whether a state may be. -/
namespace Go.Proofs.Ytfloipdkhmgibaa
open Go.RowKit Go.Lib Go.Sort
set_option maxRecDepth 20000

set_option maxRecDepth 20000 in
set_option maxHeartbeats 1000000 in
theorem rcheck_any (ex : Bool) (at' : Int) (v : Value) (L : List Tmd) (w : World) (h : Tms w v L) :
    Calls Try.prog 54 #[.agg #[.bool ex, .int .i64 at', v]] w fun e w' => e = .returned (.int .i64 (if pcheck ex at' L then 0 else 3)) ∧ Below w.heap.size w w' := by
  obtain ⟨ao, cap, rfl⟩ := h.shape
  obtain ⟨W0, hW0⟩ : ∃ W0, W0 = w.alloc (.cells #[.bool ex, .int .i64 at', .slice ao L.length cap] 32) := ⟨_, rfl⟩
  have hba : Below w.heap.size w W0 := by rw [hW0]; exact (Below.refl _ _).alloc (Nat.le_refl _) _
  have s1 : CBox W0 w.heap.size 32 #[.bool ex, .int .i64 at', .slice ao L.length cap] := by rw [hW0]; exact CBox.new _ rfl
  have hs0 : W0.heap.size = w.heap.size + 1 := by rw [hW0]; simp
  obtain ⟨b, off, hm, hlen, hidx, hc⟩ := (h.mono hba).facts
  have HBA := Lib.hid hba
  have HS1 := Lib.hid s1
  clear h hba
  obtain ⟨x0, _⟩ := s1.at_ 0 _ rfl
  obtain ⟨x1, _⟩ := s1.at_ 1 _ rfl
  obtain ⟨x2, _⟩ := s1.at_ 2 _ rfl
  clear s1
  have hbt := bstr_toList
  obtain ⟨cd, hcd⟩ : ∃ cd : Int, cd = (if pcheck ex at' L then 0 else 3) := ⟨_, rfl⟩
  rw [← hcd]
  have HCD := Lib.hid hcd
  clear hcd
  by_cases he : L.length ≤ 60 ∧ 0 ≤ at' ∧ ex = decide (0 < at')
  · obtain ⟨h1, h2, h3⟩ := he
    have HE := Lib.hid (show cd = if (List.range L.length).all (okAt ex L) then 0 else 3 from by rw [HCD.out]; unfold pcheck; simp [h1, h2, ← h3])
    clear HCD
    obtain ⟨g, hg⟩ : ∃ g, g = okAt ex L := ⟨_, rfl⟩
    have HG := Lib.hid hg
    clear hg
    cases ex
    · simp at h3
      obtain rfl : at' = 0 := by omega
      go_enter Try.func54, Try.ntmps54
      go_wp2_with fail
      rw [← hW0]
      clear hW0
      go_loopw [3] (fun i wr => ∃ k : Nat, k ≤ L.length ∧ i = .int .i64 k ∧ (∀ j, j < k → g j = true) ∧ Below W0.heap.size W0 wr) (fun i _ => L.length - (intOf i).toNat)
      case atStart => exact ⟨0, Nat.zero_le _, rfl, by simp, Below.refl _ _⟩
      case round =>
        obtain ⟨k, hk, rfl, hn, hbr⟩ := hrel
        have HN := Lib.hid hn
        have HBR := Lib.hid hbr
        have S := Lib.hid (HS1.out.below hbr (by omega))
        have hsz : w.heap.size < wr.heap.size := S.out.lt
        obtain ⟨z0, _⟩ := S.out.at_ 0 _ rfl
        obtain ⟨z1, _⟩ := S.out.at_ 1 _ rfl
        obtain ⟨z2, _⟩ := S.out.at_ 2 _ rfl
        have hcs : ∀ k, k < L.length → wr.cell? ⟨b, off + k * 2, none⟩ = some (.string (bstr (L.getD k default).1)) ∧ wr.cell? ⟨b, off + k * 2 + 1, none⟩ = some (.int .i64 (L.getD k default).2) := fun k hk => ⟨(hbr.cell (p := ⟨b, off + k * 2, none⟩) (hc k hk).1).trans (hc k hk).2.1, (hbr.cell (p := ⟨b, off + k * 2 + 1, none⟩) (hc k hk).1).trans (hc k hk).2.2⟩
        have hbb : ∀ k, k < L.length → b < W0.heap.size := fun k hk => (hc k hk).1
        clear x0 x1 x2 hc hn hbr
        by_cases hlt : k < L.length
        · obtain ⟨⟨s, n⟩, hs⟩ : ∃ s, L.getD k default = s := ⟨_, rfl⟩
          obtain ⟨c0, c1⟩ := hcs k hlt
          rw [hs] at c0 c1
          have hp := hidx k hlt
          cases q1 : decide (n < 0)
          rotate_left
          · have r1 : n < 0 := by simpa using q1
            have HF := Lib.hid (show g k = false from by rw [HG.out]; unfold okAt; rw [hs]; simp [show ¬ 0 ≤ n by omega])
            clear hs hidx hcs hbb
            go_wp2
            go_quiet (fail)
            go_wp2
            go_ret
            exact ⟨ret_code (by rw [HE.out, all_not hlt (HG.out ▸ HF.out)]; rfl), below_draws _ (HBA.out.trans ((HBR.out.mono (by omega)).alloc (by have := HBR.out.size; omega) _)) _⟩
          · have r1 : ¬ n < 0 := by simpa using q1
            have R1 := Lib.hid (show 0 ≤ n by omega)
            clear r1
            cases q2 : (n == 0)
            rotate_left
            · have r2 : n = 0 := by simpa using q2
              have HF := Lib.hid (show g k = false from by rw [HG.out]; unfold okAt; rw [hs]; simp [r2])
              clear hs hidx hcs hbb r2
              go_wp2
              go_quiet (fail)
              go_wp2
              go_ret
              exact ⟨ret_code (by rw [HE.out, all_not hlt (HG.out ▸ HF.out)]; rfl), below_draws _ (HBA.out.trans ((HBR.out.mono (by omega)).alloc (by have := HBR.out.size; omega) _)) _⟩
            · have R2 := Lib.hid (show n ≠ 0 by simpa using q2)
              cases q3 : decide (0 < k)
              · have R3 := Lib.hid (show k = 0 by simpa using q3)
                have HF := Lib.hid (show g k = true from by rw [HG.out]; unfold okAt; rw [hs]; simp [R1.out, R3.out, R2.out])
                clear hs hidx hcs hbb
                go_wp2
                go_quiet (fail)
                go_wp2
                go_roundw
                case rel => exact ⟨k + 1, by omega, by go_num, all_up HN.out HF.out, below_draws _ (HBR.out.alloc HBR.out.size _) _⟩
                case measure => simp [intOf]; omega
              · have R3 := Lib.hid (show k ≠ 0 by have := of_decide_eq_true q3; omega)
                obtain ⟨m, hmk⟩ : ∃ m, m = k - 1 := ⟨_, rfl⟩
                have hm1 : m + 1 = k := by have := R3.out; omega
                obtain ⟨⟨s', n'⟩, hs'⟩ : ∃ s', L.getD m default = s' := ⟨_, rfl⟩
                obtain ⟨d0, d1⟩ := hcs m (by omega)
                rw [hs'] at d0 d1
                have hp' : ∀ w', (Instr.indexAt 30 (.slice ao L.length cap) (.int .i64 ((k : Int) - 1))).run Try.prog w' = .ok (.pointer (some ⟨b, off + m * 2, none⟩)) w' := by
                  have := hidx m (by omega)
                  rwa [show (m : Int) = (k : Int) - 1 from by omega] at this
                have hbl : b < wr.heap.size := Nat.lt_of_lt_of_le (hbb m (by omega)) HBR.out.size
                have hk1 : 0 < k := by omega
                cases q4 : Op.bytesLess s' s
                · have R4 := Lib.hid ((Go.Proofs.bytesLess_eq s' s).symm.trans q4)
                  have HF := Lib.hid (show g k = false from by rw [HG.out]; unfold okAt; rw [← hmk, hs, hs']; rw [R4.out]; simp [R3.out])
                  clear hs hidx hcs hbb hs' hmk hm1
                  go_wp2
                  go_quiet (fail)
                  go_wp2
                  go_ret
                  exact ⟨ret_code (by rw [HE.out, all_not hlt (HG.out ▸ HF.out)]; rfl), below_draws _ (HBA.out.trans ((HBR.out.mono (by omega)).alloc (by have := HBR.out.size; omega) _)) _⟩
                · have R4 := Lib.hid ((Go.Proofs.bytesLess_eq s' s).symm.trans q4)
                  have HF := Lib.hid (show g k = true from by rw [HG.out]; unfold okAt; rw [← hmk, hs, hs', R4.out]; simp [R1.out, R2.out])
                  clear hs hidx hcs hbb hs' hmk hm1
                  go_wp2
                  go_quiet (fail)
                  go_wp2
                  go_roundw
                  case rel => exact ⟨k + 1, by omega, by go_num, all_up HN.out HF.out, below_draws _ (HBR.out.alloc HBR.out.size _) _⟩
                  case measure => simp [intOf]; omega
        · have HT := Lib.hid (show (List.range L.length).all g = true from by rw [List.all_eq_true]; intro j hj; exact HN.out j (by simp at hj; omega))
          clear hidx hcs
          go_wp2
          go_ret
          exact ⟨ret_code (by rw [HE.out, ← HG.out, HT.out]; rfl), HBA.out.trans (HBR.out.mono (by omega))⟩
    · simp at h3
      have h4 : 1 ≤ at' := by omega
      go_enter Try.func54, Try.ntmps54
      go_wp2_with fail
      rw [← hW0]
      clear hW0
      go_loopw [3] (fun i wr => ∃ k : Nat, k ≤ L.length ∧ i = .int .i64 k ∧ (∀ j, j < k → g j = true) ∧ Below W0.heap.size W0 wr) (fun i _ => L.length - (intOf i).toNat)
      case atStart => exact ⟨0, Nat.zero_le _, rfl, by simp, Below.refl _ _⟩
      case round =>
        obtain ⟨k, hk, rfl, hn, hbr⟩ := hrel
        have HN := Lib.hid hn
        have HBR := Lib.hid hbr
        have S := Lib.hid (HS1.out.below hbr (by omega))
        have hsz : w.heap.size < wr.heap.size := S.out.lt
        obtain ⟨z0, _⟩ := S.out.at_ 0 _ rfl
        obtain ⟨z1, _⟩ := S.out.at_ 1 _ rfl
        obtain ⟨z2, _⟩ := S.out.at_ 2 _ rfl
        have hcs : ∀ k, k < L.length → wr.cell? ⟨b, off + k * 2, none⟩ = some (.string (bstr (L.getD k default).1)) ∧ wr.cell? ⟨b, off + k * 2 + 1, none⟩ = some (.int .i64 (L.getD k default).2) := fun k hk => ⟨(hbr.cell (p := ⟨b, off + k * 2, none⟩) (hc k hk).1).trans (hc k hk).2.1, (hbr.cell (p := ⟨b, off + k * 2 + 1, none⟩) (hc k hk).1).trans (hc k hk).2.2⟩
        have hbb : ∀ k, k < L.length → b < W0.heap.size := fun k hk => (hc k hk).1
        clear x0 x1 x2 hc hn hbr
        by_cases hlt : k < L.length
        · obtain ⟨⟨s, n⟩, hs⟩ : ∃ s, L.getD k default = s := ⟨_, rfl⟩
          obtain ⟨c0, c1⟩ := hcs k hlt
          rw [hs] at c0 c1
          have hp := hidx k hlt
          cases q1 : decide (n < 0)
          rotate_left
          · have r1 : n < 0 := by simpa using q1
            have HF := Lib.hid (show g k = false from by rw [HG.out]; unfold okAt; rw [hs]; simp [show ¬ 0 ≤ n by omega])
            clear hs hidx hcs hbb
            go_wp2
            go_quiet (fail)
            go_wp2
            go_ret
            exact ⟨ret_code (by rw [HE.out, all_not hlt (HG.out ▸ HF.out)]; rfl), below_draws _ (HBA.out.trans ((HBR.out.mono (by omega)).alloc (by have := HBR.out.size; omega) _)) _⟩
          · have r1 : ¬ n < 0 := by simpa using q1
            have R1 := Lib.hid (show 0 ≤ n by omega)
            clear r1
            cases q3 : decide (0 < k)
            · have R3 := Lib.hid (show k = 0 by simpa using q3)
              have HF := Lib.hid (show g k = true from by rw [HG.out]; unfold okAt; rw [hs]; simp [R1.out, R3.out])
              clear hs hidx hcs hbb
              go_wp2
              go_quiet (fail)
              go_wp2
              go_roundw
              case rel => exact ⟨k + 1, by omega, by go_num, all_up HN.out HF.out, below_draws _ (HBR.out.alloc HBR.out.size _) _⟩
              case measure => simp [intOf]; omega
            · have R3 := Lib.hid (show k ≠ 0 by have := of_decide_eq_true q3; omega)
              obtain ⟨m, hmk⟩ : ∃ m, m = k - 1 := ⟨_, rfl⟩
              have hm1 : m + 1 = k := by have := R3.out; omega
              obtain ⟨⟨s', n'⟩, hs'⟩ : ∃ s', L.getD m default = s' := ⟨_, rfl⟩
              obtain ⟨d0, d1⟩ := hcs m (by omega)
              rw [hs'] at d0 d1
              have hp' : ∀ w', (Instr.indexAt 30 (.slice ao L.length cap) (.int .i64 ((k : Int) - 1))).run Try.prog w' = .ok (.pointer (some ⟨b, off + m * 2, none⟩)) w' := by
                have := hidx m (by omega)
                rwa [show (m : Int) = (k : Int) - 1 from by omega] at this
              have hbl : b < wr.heap.size := Nat.lt_of_lt_of_le (hbb m (by omega)) HBR.out.size
              have hk1 : 0 < k := by omega
              cases q4 : Op.bytesLess s' s
              · have R4 := Lib.hid ((Go.Proofs.bytesLess_eq s' s).symm.trans q4)
                have HF := Lib.hid (show g k = false from by rw [HG.out]; unfold okAt; rw [← hmk, hs, hs']; rw [R4.out]; simp [R3.out])
                clear hs hidx hcs hbb hs' hmk hm1
                go_wp2
                go_quiet (fail)
                go_wp2
                go_ret
                exact ⟨ret_code (by rw [HE.out, all_not hlt (HG.out ▸ HF.out)]; rfl), below_draws _ (HBA.out.trans ((HBR.out.mono (by omega)).alloc (by have := HBR.out.size; omega) _)) _⟩
              · have R4 := Lib.hid ((Go.Proofs.bytesLess_eq s' s).symm.trans q4)
                have HF := Lib.hid (show g k = true from by rw [HG.out]; unfold okAt; rw [← hmk, hs, hs', R4.out]; simp [R1.out])
                clear hs hidx hcs hbb hs' hmk hm1
                go_wp2
                go_quiet (fail)
                go_wp2
                go_roundw
                case rel => exact ⟨k + 1, by omega, by go_num, all_up HN.out HF.out, below_draws _ (HBR.out.alloc HBR.out.size _) _⟩
                case measure => simp [intOf]; omega
        · have HT := Lib.hid (show (List.range L.length).all g = true from by rw [List.all_eq_true]; intro j hj; exact HN.out j (by simp at hj; omega))
          clear hidx hcs
          go_wp2
          go_ret
          exact ⟨ret_code (by rw [HE.out, ← HG.out, HT.out]; rfl), HBA.out.trans (HBR.out.mono (by omega))⟩
  · have HE := Lib.hid (show 3 = cd from by
      rw [HCD.out, if_neg]
      intro h
      unfold pcheck at h
      simp only [Bool.and_eq_true, decide_eq_true_eq, beq_iff_eq] at h
      exact he ⟨h.1.1.1, h.1.1.2, h.1.2⟩)
    subst hW0
    clear x0 x1 x2 hidx hc HCD HS1
    by_cases p1 : L.length ≤ 60
    · by_cases p2 : 0 ≤ at'
      · cases ex
        · have p3 : 0 < at' := by
            rcases Int.lt_or_le 0 at' with h | h
            · exact h
            · exact absurd ⟨p1, p2, by simp; omega⟩ he
          clear he
          have p4 : 0 ≤ at' := p2
          have p5 : (at' != 0) = true := by simp; omega
          go_enter Try.func54, Try.ntmps54
          go_wp2
          go_ret
          exact ⟨ret_code HE.out, HBA.out⟩
        · have p3 : at' ≤ 0 := by
            rcases Int.lt_or_le 0 at' with h | h
            · exact absurd ⟨p1, p2, by simp; omega⟩ he
            · exact h
          have p3' : at' = 0 := by omega
          subst p3'
          clear he
          go_enter Try.func54, Try.ntmps54
          go_wp2
          go_ret
          exact ⟨ret_code HE.out, HBA.out⟩
      · clear he
        have p2' : at' < 1 := by omega
        have p3' : (at' != 0) = true := by simp; omega
        cases ex
        all_goals
          go_enter Try.func54, Try.ntmps54
          go_wp2
          go_ret
          exact ⟨ret_code HE.out, HBA.out⟩
    · clear he
      have p1' : 60 < (L.length : Int) := by omega
      go_enter Try.func54, Try.ntmps54
      go_wp2
      go_ret
      exact ⟨ret_code HE.out, HBA.out⟩
end Go.Proofs.Ytfloipdkhmgibaa

/- group.read: a state as a map by addresses. -/
namespace Go.Proofs.Ytfloipdkhmgibaa
open Go.RowKit Go.Lib Go.Maps Go.Sort
set_option maxRecDepth 20000

def rd (L : List Tmd) : Str → Option Int := L.foldl (fun F t => upd F t.1 t.2) (fun _ => none)
theorem rd_nil : rd [] = fun _ => none := rfl
theorem rd_snoc (L : List Tmd) (t : Tmd) : rd (L ++ [t]) = upd (rd L) t.1 t.2 := by simp [rd]

/-- a call that hands back a map of its own -/
def RetKn (w : World) (ex : Bool) (at' : Int) (n : Nat) (F : Str → Option Int) (e : Ending) (w' : World) : Prop :=
  ∃ b, e = .returned (.agg #[.bool ex, .int .i64 at', .map (some b)]) ∧ Mp w' b n F ∧ w.heap.size ≤ b ∧ Below w.heap.size w w'

set_option maxRecDepth 20000 in
set_option maxHeartbeats 1000000 in
theorem read_any (ex : Bool) (at' : Int) (v : Value) (L : List Tmd) (w : World) (h : Tms w v L) :
    Calls Try.prog 48 #[.agg #[.bool ex, .int .i64 at', v]] w (RetKn w ex at' L.length (rd L)) := by
  obtain ⟨ao, cap, rfl⟩ := h.shape
  obtain ⟨b, off, hm, hlen, hidx, hc⟩ := h.facts
  have HWF := Lib.hid h.wfs
  obtain ⟨W0, hW0⟩ : ∃ W0, W0 = (((w.alloc (.cells #[.bool ex, .int .i64 at', .slice ao L.length cap] 32)).alloc (.cells #[.bool false, .int .i64 0, .map none] 92)).alloc (.map #[] 0)).alloc (.cells #[.bool ex, .int .i64 at', .map (some (w.heap.size + 1 + 1))] 92) := ⟨_, rfl⟩
  have hba : Below w.heap.size w W0 := by rw [hW0]; exact ((((Below.refl _ _).alloc (Nat.le_refl _) _).alloc (by simp) _).alloc (by simp <;> omega) _).alloc (by simp <;> omega) _
  have hs0 : W0.heap.size = w.heap.size + 4 := by rw [hW0]; simp
  have s2 : CBox W0 (w.heap.size + 1) 92 #[.bool false, .int .i64 0, .map none] := by rw [hW0]; exact ((CBox.new _ (by simp)).old _).old _
  have s3 : CBox W0 (w.heap.size + 1 + 1 + 1) 92 #[.bool ex, .int .i64 at', .map (some (w.heap.size + 1 + 1))] := by rw [hW0]; exact CBox.new _ (by simp)
  have hmp : Mp W0 (w.heap.size + 1 + 1) 0 (fun _ => none) := by
    rw [hW0]
    have := Mp.made ((w.alloc (.cells #[.bool ex, .int .i64 at', .slice ao L.length cap] 32)).alloc (.cells #[.bool false, .int .i64 0, .map none] 92))
    rw [World.size_alloc, World.size_alloc] at this
    exact this.below ((Below.refl _ _).alloc (Nat.le_refl _) _) (by simp)
  clear h
  have hmm := @run_makeMap Try.prog
  go_enter Try.func48, Try.ntmps48
  go_wp2_with fail
  rw [← hW0]
  clear hW0
  go_loopw [15] (fun i wr => ∃ k : Nat, k ≤ L.length ∧ i = .int .i64 k ∧ Mp wr (w.heap.size + 1 + 1) k (rd (L.take k)) ∧ CBox wr (w.heap.size + 1) 92 #[.bool false, .int .i64 0, .map none] ∧ CBox wr (w.heap.size + 1 + 1 + 1) 92 #[.bool ex, .int .i64 at', .map (some (w.heap.size + 1 + 1))] ∧ Below w.heap.size w wr ∧ W0.heap.size ≤ wr.heap.size) (fun i _ => L.length - (intOf i).toNat)
  case atStart => exact ⟨0, Nat.zero_le _, rfl, hmp, s2, s3, hba, Nat.le_refl _⟩
  case round =>
    clear hmp s2 s3 hba
    obtain ⟨k, hk, rfl, hmp, s2, s3, hbel, hsz⟩ := hrel
    have HM := Lib.hid hmp; have S2 := Lib.hid s2; have S3 := Lib.hid s3; have HB := Lib.hid hbel
    obtain ⟨z0, _⟩ := s3.at_ 0 _ rfl
    obtain ⟨z1, _⟩ := s3.at_ 1 _ rfl
    obtain ⟨z2, _⟩ := s3.at_ 2 _ rfl
    have hlt3 := s3.lt
    by_cases hlt : k < L.length
    · obtain ⟨⟨s, n⟩, hs⟩ : ∃ s, L.getD k default = s := ⟨_, rfl⟩
      obtain ⟨hlb, c0, c1⟩ := hc k hlt
      rw [hs] at c0 c1
      have d0 := (hbel.cell (p := ⟨b, off + k * 2, none⟩) hlb).trans c0
      have d1 := (hbel.cell (p := ⟨b, off + k * 2 + 1, none⟩) hlb).trans c1
      have hp := hidx k hlt
      have hL : L[k] = (s, n) := by rw [← hs]; simp [List.getD_eq_getElem?_getD, hlt]
      have hw := HWF.out (s, n) (hL ▸ List.getElem_mem hlt)
      have HT := Lib.hid (show rd (L.take (k + 1)) = upd (rd (L.take k)) s n from by rw [take_snoc L k hlt, rd_snoc, hL])
      obtain ⟨w2, hr, hm2, hg2⟩ := (hmp.below ((Below.refl _ wr).alloc (Nat.le_refl _) (.cells #[.string (bstr s), .int .i64 n] 65)) hmp.lt).put s hw.1 n hw.2 (by unfold maxLen; omega)
      have HM2 := Lib.hid hm2; have HG2 := Lib.hid hg2
      clear hidx hc c0 c1 hs hL hw hmp s2 s3 hbel hm2 hg2
      have HH := Lib.hid (And.intro hlt3 hsz)
      go_wp2
      go_roundw
      case rel =>
        have h1 := HG2.out.size
        have h2 : Below w.heap.size w (wr.alloc (.cells #[.string (bstr s), .int .i64 n] 65)) := HB.out.alloc HB.out.size _
        refine ⟨k + 1, by omega, by go_num, by rw [HT.out]; exact HM2.out, (S2.out.old _).grown HG2.out (by simp), (S3.out.old _).grown HG2.out (by simp), h2.grown HG2.out h2.size (fun j e => by cases e; omega), ?_⟩
        simp at h1
        have := HH.out.2
        omega
      case measure => simp [intOf]; omega
    · have HT := Lib.hid (show L.take k = L from List.take_of_length_le (by omega))
      have hk' : k = L.length := by omega
      obtain ⟨y0, _⟩ := s2.at_ 0 _ rfl
      obtain ⟨y1, _⟩ := s2.at_ 1 _ rfl
      obtain ⟨y2, _⟩ := s2.at_ 2 _ rfl
      clear hidx hc hmp s2 s3 hbel
      go_wp2
      have R := fun u1 u2 u3 => ((S2.out.set 0 u1).set 1 u2).set 2 u3
      have r0 := fun u1 u2 u3 => ((R u1 u2 u3).at_ 0 _ rfl).1
      have r1 := fun u1 u2 u3 => ((R u1 u2 u3).at_ 1 _ rfl).1
      have r2 := fun u1 u2 u3 => ((R u1 u2 u3).at_ 2 _ rfl).1
      refine bodyPost_ret (v := .agg #[.bool ex, .int .i64 at', .map (some (w.heap.size + 1 + 1))]) (by simp [results, Try.results48, go_sem, r0, r1, r2]) rfl ⟨_, rfl, ?_, by omega, ((HB.out.setCell (by simp) _).setCell (by simp) _).setCell (by simp) _⟩
      have := HM.out
      rw [HT.out, hk'] at this
      exact ((this.set (by simp) _).set (by simp) _).set (by simp) _

/-- runs, blocks: what is known of an address -/
theorem runs_any (ex : Bool) (at' : Int) (b n : Nat) (F : Str → Option Int) (a : Str) (ha : a.length ≤ maxLen) (w : World) (h : Mp w b n F) :
    Calls Try.prog 50 #[.agg #[.bool ex, .int .i64 at', .map (some b)], .string (bstr a)] w fun e w' => e = .returned (.bool ((F a).getD 0 != 0)) ∧ Below w.heap.size w w' := by
  have hb : Below w.heap.size w (w.alloc (.cells #[.bool ex, .int .i64 at', .map (some b)] 92)) := (Below.refl _ _).alloc (Nat.le_refl _) _
  have hg := (h.below hb h.lt).get a ha
  have HB := Lib.hid hb
  clear h hb
  go_enter Try.func50, Try.ntmps50
  go_wp2
  go_ret
  exact ⟨rfl, HB.out⟩

theorem blocks_any (ex : Bool) (at' : Int) (b n : Nat) (F : Str → Option Int) (a : Str) (ha : a.length ≤ maxLen) (w : World) (h : Mp w b n F) :
    Calls Try.prog 49 #[.agg #[.bool ex, .int .i64 at', .map (some b)], .string (bstr a)] w fun e w' => e = .returned (.bool (F a == some 0)) ∧ Below w.heap.size w w' := by
  have hb : Below w.heap.size w (w.alloc (.cells #[.bool ex, .int .i64 at', .map (some b)] 92)) := (Below.refl _ _).alloc (Nat.le_refl _) _
  have hg := (h.below hb h.lt).getOk a ha
  have HB := Lib.hid hb
  clear h hb
  obtain ⟨o, ho⟩ : ∃ o, F a = o := ⟨_, rfl⟩
  rw [ho] at hg ⊢
  clear ho
  cases o
  · simp at hg
    go_enter Try.func49, Try.ntmps49
    go_wp2
    go_ret
    exact ⟨rfl, HB.out⟩
  · rename_i z
    simp at hg
    go_enter Try.func49, Try.ntmps49
    go_wp2
    go_ret
    exact ⟨ret_bool (by simp), HB.out⟩
end Go.Proofs.Ytfloipdkhmgibaa

/- (group.known).state: the map as a state: its sources rise. -/
namespace Go.Proofs.Ytfloipdkhmgibaa
open Go.RowKit Go.Lib Go.Maps Go.Sort
set_option maxRecDepth 20000

/-- L is the rising list of what F knows -/
def Asc (F : Str → Option Int) (L : List Tmd) : Prop := KeysOf' F (L.map Prod.fst) ∧ ∀ t ∈ L, F t.1 = some t.2

/-- a call that hands back a state with what F knows -/
def RetAsc (w : World) (ex : Bool) (at' : Int) (n : Nat) (F : Str → Option Int) (e : Ending) (w' : World) : Prop :=
  ∃ v L, e = .returned (.agg #[.bool ex, .int .i64 at', v]) ∧ Tms w' v L ∧ Asc F L ∧ L.length ≤ n ∧ Lies w.heap.size v ∧ Below w.heap.size w w'

def withF (F : Str → Option Int) (K : List Str) : List Tmd := K.map fun a => (a, (F a).getD 0)

theorem asc_with {F : Str → Option Int} {K : List Str} (h : KeysOf' F K) : Asc F (withF F K) := by
  refine ⟨?_, fun t ht => ?_⟩
  · have : (withF F K).map Prod.fst = K := by unfold withF; rw [List.map_map]; exact List.map_id K
    rw [this]; exact h
  · obtain ⟨a, ha, rfl⟩ := List.mem_map.1 ht
    have := (h.2 a).1 ha
    obtain ⟨z, hz⟩ := Option.ne_none_iff_exists'.1 this
    simp [hz]

theorem cell_same {w w' : World} {b : Nat} (h : w'.heap[b]? = w.heap[b]?) (j : Nat) : w'.cell? ⟨b, j, none⟩ = w.cell? ⟨b, j, none⟩ := by simp [World.cell?, h]
theorem Mp.same {w w' : World} {b n : Nat} {F : Str → Option Int} (h : Mp w b n F) (e : w'.heap[b]? = w.heap[b]?) : Mp w' b n F := by
  obtain ⟨D, ⟨es, clock, h1, h2⟩, e'⟩ := h
  exact ⟨D, ⟨es, clock, e.trans h1, h2⟩, e'⟩

theorem sliceOf_tmd (w : World) (a : Str) (z : Int) : SliceOf (w.alloc (.cells #[.string (bstr a), .int .i64 z] 65)) 2 (.slice (some ⟨w.heap.size, 0, none⟩) 1 1) 1 [.string (bstr a), .int .i64 z] := by
  refine ⟨_, _, rfl, rfl, by simp [Value.oneCell'], .inr ⟨_, rfl, fun j x hj => ?_⟩⟩
  rw [add_lit, cell_of_row _ w.heap.size (0 + j) _ _ (0, 0) (heap_alloc_new w _)]
  rw [Nat.zero_add]
  rw [← hj]
  simp

theorem Strs.factsL {w : World} {v : Value} {L : List Str} {lo : Nat} (h : Strs w v L) (hl : Lies lo v) :
    ∃ b off, L.length ≤ 8796093022208 ∧ (∀ ty w', (Builtin.len_ #[26] ty #[v]).run Try.prog w' = .ok (.int .i64 L.length) w') ∧
      (∀ k, k < L.length → ∀ w', (Instr.indexAt 26 v (.int .i64 k)).run Try.prog w' = .ok (.pointer (some ⟨b, off + k, none⟩)) w') ∧
      (∀ k, k < L.length → lo ≤ b ∧ b < w.heap.size ∧ w.cell? ⟨b, off + k, none⟩ = some (encStr (L.getD k []))) := by
  obtain ⟨ao, cap, b, off, rfl, h0, h1, h2, h3⟩ := h
  refine ⟨b, off, h1, fun ty w' => run_len_any Try.underlying26 ao L.length cap ty w', fun k hk w' => ?_, fun k hk => ⟨?_, h3 k hk⟩⟩
  · rcases h0 with h0 | rfl
    · subst h0; exact absurd hk (by simp)
    · have := run_index_any (P := Try.prog) (s := 1) Try.underlying26 (fun w => by kernel_rfl) b off L.length cap k hk w'
      rw [Nat.mul_one] at this
      exact this
  · rcases h0 with h0 | rfl
    · subst h0; exact absurd hk (by simp)
    · exact hl b rfl

theorem with_snoc (F : Str → Option Int) (K : List Str) (k : Nat) (h : k < K.length) : withF F (K.take (k + 1)) = withF F (K.take k) ++ [(K.getD k [], (F (K.getD k [])).getD 0)] := by
  unfold withF
  rw [take_snoc K k h, List.map_append]
  simp [List.getD_eq_getElem?_getD, h]

set_option maxRecDepth 20000 in
set_option maxHeartbeats 1000000 in
theorem state_any (ex : Bool) (at' : Int) (b n : Nat) (F : Str → Option Int) (w : World) (h : Mp w b n F) (hn : n ≤ 1099511627775) :
    Calls Try.prog 53 #[.agg #[.bool ex, .int .i64 at', .map (some b)]] w (RetAsc w ex at' n F) := by
  obtain ⟨i0, hi, hz0, hz1, hz2⟩ := info_parts infoTmd
  have hbl := h.lt
  obtain ⟨W1, hW1⟩ : ∃ W1, W1 = ((w.alloc (.cells #[.bool ex, .int .i64 at', .map (some b)] 92)).alloc (.cells #[.bool false, .int .i64 0, .slice none 0 0] 32)).alloc (.cells #[.bool ex, .int .i64 at', .slice none 0 0] 32) := ⟨_, rfl⟩
  have hb1 : Below w.heap.size w W1 := by rw [hW1]; exact (((Below.refl _ _).alloc (Nat.le_refl _) _).alloc (by simp) _).alloc (by simp <;> omega) _
  have hs1 : W1.heap.size = w.heap.size + 1 + 1 + 1 := by rw [hW1]; simp
  have s1 : CBox W1 w.heap.size 92 #[.bool ex, .int .i64 at', .map (some b)] := by rw [hW1]; exact ((CBox.new _ rfl).old _).old _
  have s2 : CBox W1 (w.heap.size + 1) 32 #[.bool false, .int .i64 0, .slice none 0 0] := by rw [hW1]; exact (CBox.new _ (by simp)).old _
  have s3 : CBox W1 (w.heap.size + 1 + 1) 32 #[.bool ex, .int .i64 at', .slice none 0 0] := by rw [hW1]; exact CBox.new _ (by simp)
  have hm1 := h.below hb1 hbl
  have HK := Lib.hid (keys_any (some b) W1)
  have HS : Hid (Calls Try.prog 72 #[.func (.func 83) #[] #[.pointer (some ⟨w.heap.size + 1 + 1 + 1, 0, none⟩)]] (W1.alloc (.cells #[.map (some b)] 90)) fun e w2 =>
      ∃ ko kc K, e = .returned (.slice ko K.length kc) ∧ Strs w2 (.slice ko K.length kc) K ∧ KeysOf' F K ∧ K.length ≤ n ∧ Lies (w.heap.size + 3) (.slice ko K.length kc) ∧ Mp w2 b n F ∧ CBox w2 w.heap.size 92 #[.bool ex, .int .i64 at', .map (some b)] ∧ CBox w2 (w.heap.size + 1) 32 #[.bool false, .int .i64 0, .slice none 0 0] ∧
        CBox w2 (w.heap.size + 1 + 1) 32 #[.bool ex, .int .i64 at', .slice none 0 0] ∧ Below w.heap.size w w2 ∧ w.heap.size + 3 ≤ w2.heap.size) := by
    have := sortedKeys_any hm1 (by omega)
    rw [hs1] at this
    refine this.mono ?_
    rintro e w2 ⟨vk, K, rfl, hk, hks, hkn, hkl, hkb⟩
    obtain ⟨ko, kc, rfl⟩ := hk.shape
    have hb2 : Below W1.heap.size W1 w2 := by rw [hs1]; exact ((Below.refl _ W1).alloc (by omega) _).trans (hkb.mono (by omega))
    exact ⟨ko, kc, K, rfl, hk, hks, hkn, hkl.mono (by omega), hm1.below hb2 (by omega), s1.below hb2 (by omega), s2.below hb2 (by omega), s3.below hb2 (by omega), hb1.trans (hb2.mono (by omega)), by have := hb2.size; omega⟩
  rw [hW1] at HK HS
  clear h hm1 hb1 s1 s2 s3 hs1 hW1 W1
  go_enter Try.func53, Try.ntmps53
  go_wp2_with (first
    | (with_reducible refine HK.out.mono ?_; rintro e w1 ⟨rfl, rfl⟩)
    | (with_reducible refine HS.out.mono ?_; rintro e w2 ⟨ko, kc, K, rfl, hk, hks, hkn, hkl, hm2, s1, s2, s3, hb2, hz2⟩))
  obtain ⟨kb, koff, hkm, hklen, hkidx, hkc⟩ := hk.factsL hkl
  have hkw := hk.len
  have HKS := Lib.hid hks
  have HM2 := Lib.hid hm2; have HB2 := Lib.hid hb2; have S1 := Lib.hid s1; have S2 := Lib.hid s2; have S3 := Lib.hid s3; have HZ := Lib.hid hz2
  clear HK HS hks hm2 hb2 s1 s2 s3 hk hkl hz2
  go_loopw [16] (fun i wr => ∃ k v', k ≤ K.length ∧ i = .int .i64 (k : Nat) ∧ (∀ j, j < w2.heap.size → j ≠ w.heap.size + 1 + 1 → wr.heap[j]? = w2.heap[j]?) ∧ CBox wr (w.heap.size + 1 + 1) 32 #[.bool ex, .int .i64 at', v'] ∧ wr.ownsRow w2.heap.size 65 2 v' k ((withF F (K.take k)).flatMap tcells) ∧ Below w.heap.size w wr ∧ w2.heap.size ≤ wr.heap.size) (fun i _ => K.length - (intOf i).toNat)
  case atStart => exact ⟨0, _, Nat.zero_le _, rfl, fun _ _ _ => rfl, S3.out, World.ownsRow_nil _ _ _ _, HB2.out, Nat.le_refl _⟩
  case round =>
    obtain ⟨k, v', hk, rfl, hsame, hs3, hown, hbel, hsz⟩ := hrel
    obtain ⟨vo, vc, rfl⟩ := own_form hown
    have hzz := HZ.out
    have t1 : CBox wr w.heap.size 92 #[.bool ex, .int .i64 at', .map (some b)] := (hsame _ S1.out.lt (by omega)).trans S1.out
    have t2 : CBox wr (w.heap.size + 1) 32 #[.bool false, .int .i64 0, .slice none 0 0] := (hsame _ S2.out.lt (by omega)).trans S2.out
    have hm : Mp wr b n F := HM2.out.same (hsame b (by omega) (by omega))
    have HM := Lib.hid hm
    have T2 := Lib.hid t2; have T3 := Lib.hid hs3; have HO := Lib.hid hown; have HB := Lib.hid hbel; have HSM := Lib.hid hsame; have HSZ := Lib.hid hsz
    obtain ⟨x2, _⟩ := t1.at_ 2 _ rfl
    obtain ⟨z0, _⟩ := hs3.at_ 0 _ rfl
    obtain ⟨z1, _⟩ := hs3.at_ 1 _ rfl
    obtain ⟨z2, _⟩ := hs3.at_ 2 _ rfl
    have hl3 := hs3.lt
    by_cases hlt : k < K.length
    · obtain ⟨hkb1, hkb2, hcell⟩ := hkc k hlt
      have HW := Lib.hid (with_snoc F K k hlt)
      obtain ⟨a, ha⟩ : ∃ a, K.getD k [] = a := ⟨_, rfl⟩
      have hal : a.length ≤ maxLen := by rw [← ha]; simp only [List.getD_eq_getElem?_getD, List.getElem?_eq_getElem hlt, Option.getD_some]; exact hkw _ (List.getElem_mem hlt)
      rw [enc_bstr, ha] at hcell
      rw [ha] at HW
      have hc : wr.cell? ⟨kb, koff + k, none⟩ = some (.string (bstr a)) := (cell_same (hsame kb hkb2 (by omega)) _).trans hcell
      have hp := hkidx k hlt
      have hget := hm.get a hal
      obtain ⟨z, hz⟩ : ∃ z, (F a).getD 0 = z := ⟨_, rfl⟩
      rw [hz] at hget HW
      have HSL := Lib.hid (sliceOf_tmd wr a z)
      have h1 : k + 1 ≤ maxLen := by unfold maxLen; omega
      have h2 : (k + 1) * 24 ≤ 140737488355328 := by omega
      have h3 : w2.heap.size ≤ (wr.alloc (.cells #[.string (bstr a), .int .i64 z] 65)).heap.size := by simp; omega
      clear hkidx hkc hkw ha hal hcell hm hz hs3 t1 t2 hown hbel hsame hsz
      go_wp2_with (at_builtin; refine wpList_append_vals _ rfl _ _ 30 rfl w2.heap.size 65 i0 (.agg #[.string ⟨#[]⟩, .int .i64 0]) 2 24 Try.underlying30 hi hz0 hz1 hz2 rfl (by decide) (.slice vo k vc) k _ rfl (HO.out.alloc _) (.slice (some ⟨wr.heap.size, 0, none⟩) 1 1) 1 [.string (bstr a), .int .i64 z] rfl HSL.out h1 h2 h3 ?_; intro v2 w3 hown3 hg3 _; obtain ⟨o2, c2, rfl⟩ := own_form hown3; have U3 := Lib.hid ((T3.out.old (.cells #[.string (bstr a), .int .i64 z] 65)).grown hg3 (fun e => by have := (HO.out.lt _ e.symm).1; omega)); obtain ⟨y0, _⟩ := U3.out.at_ 0 _ rfl; obtain ⟨y1, _⟩ := U3.out.at_ 1 _ rfl; obtain ⟨y2, _⟩ := U3.out.at_ 2 _ rfl; have HO3 := Lib.hid hown3; have HG3 := Lib.hid hg3; clear hown3 hg3)
      go_roundw
      case rel =>
        have g1 := HG3.out.size
        have q1 := HSZ.out
        have g2 : Below w.heap.size w (wr.alloc (.cells #[.string (bstr a), .int .i64 z] 65)) := HB.out.alloc HB.out.size _
        have g3 := g2.grown HG3.out g2.size (fun j e => Nat.le_trans (by have := HB2.out.size; omega) (HO.out.lt j e).1)
        refine ⟨k + 1, _, by omega, by go_num, fun j hj hne => ?_, U3.out.set 2 _, ?_, g3.setCell (by simp <;> omega) _, by simp; simp at g1; omega⟩
        · rw [Below.heap_setCell _ _ _ j (by simpa using hne), HG3.out.block j (by simp; omega) (fun e => by have := (HO.out.lt _ e.symm).1; omega), Below.heap_alloc _ _ j (by omega)]
          exact HSM.out j hj hne
        · rw [HW.out, List.flatMap_append]
          refine ownsRow_setCell_below ?_ (by simp; omega) _
          simpa [tcells] using HO3.out
      case measure => simp [intOf]; omega
    · have HT := Lib.hid (show K.take k = K from List.take_of_length_le (by omega))
      have hk' : k = K.length := by omega
      obtain ⟨y0, _⟩ := t2.at_ 0 _ rfl
      obtain ⟨y1, _⟩ := t2.at_ 1 _ rfl
      obtain ⟨y2, _⟩ := t2.at_ 2 _ rfl
      clear hkidx hkc hm hs3 t1 t2 hown hbel hsame hsz
      go_wp2
      have R := fun u1 u2 u3 => ((T2.out.set 0 u1).set 1 u2).set 2 u3
      have r0 := fun u1 u2 u3 => ((R u1 u2 u3).at_ 0 _ rfl).1
      have r1 := fun u1 u2 u3 => ((R u1 u2 u3).at_ 1 _ rfl).1
      have r2 := fun u1 u2 u3 => ((R u1 u2 u3).at_ 2 _ rfl).1
      have HTM : Tms wr (.slice vo k vc) (withF F K) := by
        have := HO.out
        rw [HT.out] at this
        refine Tms.own (by rw [show (withF F K).length = k from by simp [withF]; omega]; exact this) (by simp [withF]; omega) (fun t ht => ?_)
        obtain ⟨a, ha, rfl⟩ := List.mem_map.1 ht
        obtain ⟨z, hz⟩ := Option.ne_none_iff_exists'.1 ((HKS.out.2 a).1 ha)
        exact ⟨hkw a ha, by rw [hz]; exact HM.out.wf a (hkw a ha) z hz⟩
      have HL : Lies w2.heap.size (.slice vo k vc) := Lies.own HO.out
      refine bodyPost_ret (v := .agg #[.bool ex, .int .i64 at', .slice vo k vc]) (by simp [results, Try.results53, go_sem, r0, r1, r2]; omega) rfl ⟨_, withF F K, rfl, ?_, asc_with HKS.out, by simp [withF]; omega, HL.mono (by omega), ((HB.out.setCell (by simp) _).setCell (by simp) _).setCell (by simp) _⟩
      exact ((HTM.far HL (by simp <;> omega) _).far HL (by simp <;> omega) _).far HL (by simp <;> omega) _
end Go.Proofs.Ytfloipdkhmgibaa
