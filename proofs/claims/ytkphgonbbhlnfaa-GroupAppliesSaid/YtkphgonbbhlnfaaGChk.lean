/- group.Check: whether a state may be. -/
import Derived.Test.YtkphgonbbhlnfaaGCop
namespace Go.Proofs.Ytkphgonbbhlnfaa
open Go.RowKit Go.Lib Go.Sort

def okAt (ex : Bool) (L : List Tmd) (k : Nat) : Bool :=
  decide (0 ≤ (L.getD k default).2) && (ex || decide ((L.getD k default).2 ≠ 0)) && (k == 0 || decide ((L.getD (k - 1) default).1 < (L.getD k default).1))

def pcheck (ex : Bool) (at' : Int) (L : List Tmd) : Bool :=
  decide (L.length ≤ 60) && decide (0 ≤ at') && (ex == decide (0 < at')) && (List.range L.length).all (okAt ex L)

theorem all_not {ex : Bool} {L : List Tmd} {k : Nat} (hk : k < L.length) (h : okAt ex L k = false) : (List.range L.length).all (okAt ex L) = false := by
  rw [List.all_eq_false]
  exact ⟨k, by simpa using hk, by simp [h]⟩

theorem all_up {g : Nat → Bool} {k : Nat} (h : ∀ j, j < k → g j = true) (h' : g k = true) : ∀ j, j < k + 1 → g j = true := by
  intro j hj
  rcases Nat.lt_succ_iff_lt_or_eq.1 hj with hj | rfl
  · exact h j hj
  · exact h'

theorem ret_code {a b : Int} (h : a = b) : Ending.returned (.int .i64 a) = .returned (.int .i64 b) := by rw [h]

set_option maxRecDepth 20000 in
set_option maxHeartbeats 1000000 in
theorem check_any (ex : Bool) (at' : Int) (v : Value) (L : List Tmd) (w : World) (h : Tms w v L) :
    Calls Try.prog 12 #[.agg #[.bool ex, .int .i64 at', v]] w fun e w' => e = .returned (.int .i64 (if pcheck ex at' L then 0 else 3)) ∧ Below w.heap.size w w' := by
  obtain ⟨ao, cap, rfl⟩ := h.shape
  obtain ⟨W0, hW0⟩ : ∃ W0, W0 = w.alloc (.cells #[.bool ex, .int .i64 at', .slice ao L.length cap] 24) := ⟨_, rfl⟩
  have hba : Below w.heap.size w W0 := by rw [hW0]; exact (Below.refl _ _).alloc (Nat.le_refl _) _
  have s1 : CBox W0 w.heap.size 24 #[.bool ex, .int .i64 at', .slice ao L.length cap] := by rw [hW0]; exact CBox.new _ rfl
  have hs0 : W0.heap.size = w.heap.size + 1 := by rw [hW0]; simp
  obtain ⟨b, off, hm, hlen, hidx, hc⟩ := (h.mono hba).facts
  have HBA := Lib.hid hba
  have HS1 := Lib.hid s1
  clear h hba
  obtain ⟨x0, _⟩ := s1.at_ 0 _ rfl
  obtain ⟨x1, _⟩ := s1.at_ 1 _ rfl
  obtain ⟨x2, _⟩ := s1.at_ 2 _ rfl
  clear s1
  have hbt := bstr_toList
  obtain ⟨cd, hcd⟩ : ∃ cd : Int, cd = (if pcheck ex at' L then 0 else 3) := ⟨_, rfl⟩
  rw [← hcd]
  have HCD := Lib.hid hcd
  clear hcd
  by_cases he : L.length ≤ 60 ∧ 0 ≤ at' ∧ ex = decide (0 < at')
  · obtain ⟨h1, h2, h3⟩ := he
    have HE := Lib.hid (show cd = if (List.range L.length).all (okAt ex L) then 0 else 3 from by rw [HCD.out]; unfold pcheck; simp [h1, h2, ← h3])
    clear HCD
    obtain ⟨g, hg⟩ : ∃ g, g = okAt ex L := ⟨_, rfl⟩
    have HG := Lib.hid hg
    clear hg
    cases ex
    · simp at h3
      go_enter Try.func12, Try.ntmps12
      go_wp2_with fail
      rw [← hW0]
      clear hW0
      go_loopw [25] (fun i wr => ∃ k : Nat, k ≤ L.length ∧ i = .int .i64 k ∧ (∀ j, j < k → g j = true) ∧ Below W0.heap.size W0 wr) (fun i _ => L.length - (intOf i).toNat)
      case atStart => exact ⟨0, Nat.zero_le _, rfl, by simp, Below.refl _ _⟩
      case round =>
        obtain ⟨k, hk, rfl, hn, hbr⟩ := hrel
        have HN := Lib.hid hn
        have HBR := Lib.hid hbr
        have S := Lib.hid (HS1.out.below hbr (by omega))
        have hsz : w.heap.size < wr.heap.size := S.out.lt
        obtain ⟨z0, _⟩ := S.out.at_ 0 _ rfl
        obtain ⟨z1, _⟩ := S.out.at_ 1 _ rfl
        obtain ⟨z2, _⟩ := S.out.at_ 2 _ rfl
        have hcs : ∀ k, k < L.length → wr.cell? ⟨b, off + k * 2, none⟩ = some (.string (bstr (L.getD k default).1)) ∧ wr.cell? ⟨b, off + k * 2 + 1, none⟩ = some (.int .i64 (L.getD k default).2) := fun k hk => ⟨(hbr.cell (p := ⟨b, off + k * 2, none⟩) (hc k hk).1).trans (hc k hk).2.1, (hbr.cell (p := ⟨b, off + k * 2 + 1, none⟩) (hc k hk).1).trans (hc k hk).2.2⟩
        have hbb : ∀ k, k < L.length → b < W0.heap.size := fun k hk => (hc k hk).1
        clear x0 x1 x2 hc hn hbr
        by_cases hlt : k < L.length
        · obtain ⟨⟨s, n⟩, hs⟩ : ∃ s, L.getD k default = s := ⟨_, rfl⟩
          obtain ⟨c0, c1⟩ := hcs k hlt
          rw [hs] at c0 c1
          have hp := hidx k hlt
          cases q1 : decide (n < 0)
          rotate_left
          · have r1 : n < 0 := by simpa using q1
            have HF := Lib.hid (show g k = false from by rw [HG.out]; unfold okAt; rw [hs]; simp [show ¬ 0 ≤ n by omega])
            clear hs hidx hcs hbb
            go_wp2
            go_quiet (fail)
            go_wp2
            go_ret
            exact ⟨ret_code (by rw [HE.out, all_not hlt (HG.out ▸ HF.out)]; rfl), below_draws _ (HBA.out.trans ((HBR.out.mono (by omega)).alloc (by have := HBR.out.size; omega) _)) _⟩
          · have r1 : ¬ n < 0 := by simpa using q1
            have R1 := Lib.hid (show 0 ≤ n by omega)
            clear r1
            cases q2 : (n == 0)
            rotate_left
            · have r2 : n = 0 := by simpa using q2
              have HF := Lib.hid (show g k = false from by rw [HG.out]; unfold okAt; rw [hs]; simp [r2])
              clear hs hidx hcs hbb r2
              go_wp2
              go_quiet (fail)
              go_wp2
              go_ret
              exact ⟨ret_code (by rw [HE.out, all_not hlt (HG.out ▸ HF.out)]; rfl), below_draws _ (HBA.out.trans ((HBR.out.mono (by omega)).alloc (by have := HBR.out.size; omega) _)) _⟩
            · have R2 := Lib.hid (show n ≠ 0 by simpa using q2)
              cases q3 : decide (0 < k)
              · have R3 := Lib.hid (show k = 0 by simpa using q3)
                have HF := Lib.hid (show g k = true from by rw [HG.out]; unfold okAt; rw [hs]; simp [R1.out, R3.out, R2.out])
                clear hs hidx hcs hbb
                go_wp2
                go_quiet (fail)
                go_wp2
                go_roundw
                case rel => exact ⟨k + 1, by omega, by go_num, all_up HN.out HF.out, below_draws _ (HBR.out.alloc HBR.out.size _) _⟩
                case measure => simp [intOf]; omega
              · have R3 := Lib.hid (show k ≠ 0 by have := of_decide_eq_true q3; omega)
                obtain ⟨m, hmk⟩ : ∃ m, m = k - 1 := ⟨_, rfl⟩
                have hm1 : m + 1 = k := by have := R3.out; omega
                obtain ⟨⟨s', n'⟩, hs'⟩ : ∃ s', L.getD m default = s' := ⟨_, rfl⟩
                obtain ⟨d0, d1⟩ := hcs m (by omega)
                rw [hs'] at d0 d1
                have hp' : ∀ w', (Instr.indexAt 22 (.slice ao L.length cap) (.int .i64 ((k : Int) - 1))).run Try.prog w' = .ok (.pointer (some ⟨b, off + m * 2, none⟩)) w' := by
                  have := hidx m (by omega)
                  rwa [show (m : Int) = (k : Int) - 1 from by omega] at this
                have hbl : b < wr.heap.size := Nat.lt_of_lt_of_le (hbb m (by omega)) HBR.out.size
                have hk1 : 0 < k := by omega
                cases q4 : Op.bytesLess s' s
                · have R4 := Lib.hid ((Go.Proofs.bytesLess_eq s' s).symm.trans q4)
                  have HF := Lib.hid (show g k = false from by rw [HG.out]; unfold okAt; rw [← hmk, hs, hs']; rw [R4.out]; simp [R3.out])
                  clear hs hidx hcs hbb hs' hmk hm1
                  go_wp2
                  go_quiet (fail)
                  go_wp2
                  go_ret
                  exact ⟨ret_code (by rw [HE.out, all_not hlt (HG.out ▸ HF.out)]; rfl), below_draws _ (HBA.out.trans ((HBR.out.mono (by omega)).alloc (by have := HBR.out.size; omega) _)) _⟩
                · have R4 := Lib.hid ((Go.Proofs.bytesLess_eq s' s).symm.trans q4)
                  have HF := Lib.hid (show g k = true from by rw [HG.out]; unfold okAt; rw [← hmk, hs, hs', R4.out]; simp [R1.out, R2.out])
                  clear hs hidx hcs hbb hs' hmk hm1
                  go_wp2
                  go_quiet (fail)
                  go_wp2
                  go_roundw
                  case rel => exact ⟨k + 1, by omega, by go_num, all_up HN.out HF.out, below_draws _ (HBR.out.alloc HBR.out.size _) _⟩
                  case measure => simp [intOf]; omega
        · have HT := Lib.hid (show (List.range L.length).all g = true from by rw [List.all_eq_true]; intro j hj; exact HN.out j (by simp at hj; omega))
          clear hidx hcs
          go_wp2
          go_ret
          exact ⟨ret_code (by rw [HE.out, ← HG.out, HT.out]; rfl), HBA.out.trans (HBR.out.mono (by omega))⟩
    · simp at h3
      go_enter Try.func12, Try.ntmps12
      go_wp2_with fail
      rw [← hW0]
      clear hW0
      go_loopw [25] (fun i wr => ∃ k : Nat, k ≤ L.length ∧ i = .int .i64 k ∧ (∀ j, j < k → g j = true) ∧ Below W0.heap.size W0 wr) (fun i _ => L.length - (intOf i).toNat)
      case atStart => exact ⟨0, Nat.zero_le _, rfl, by simp, Below.refl _ _⟩
      case round =>
        obtain ⟨k, hk, rfl, hn, hbr⟩ := hrel
        have HN := Lib.hid hn
        have HBR := Lib.hid hbr
        have S := Lib.hid (HS1.out.below hbr (by omega))
        have hsz : w.heap.size < wr.heap.size := S.out.lt
        obtain ⟨z0, _⟩ := S.out.at_ 0 _ rfl
        obtain ⟨z1, _⟩ := S.out.at_ 1 _ rfl
        obtain ⟨z2, _⟩ := S.out.at_ 2 _ rfl
        have hcs : ∀ k, k < L.length → wr.cell? ⟨b, off + k * 2, none⟩ = some (.string (bstr (L.getD k default).1)) ∧ wr.cell? ⟨b, off + k * 2 + 1, none⟩ = some (.int .i64 (L.getD k default).2) := fun k hk => ⟨(hbr.cell (p := ⟨b, off + k * 2, none⟩) (hc k hk).1).trans (hc k hk).2.1, (hbr.cell (p := ⟨b, off + k * 2 + 1, none⟩) (hc k hk).1).trans (hc k hk).2.2⟩
        have hbb : ∀ k, k < L.length → b < W0.heap.size := fun k hk => (hc k hk).1
        clear x0 x1 x2 hc hn hbr
        by_cases hlt : k < L.length
        · obtain ⟨⟨s, n⟩, hs⟩ : ∃ s, L.getD k default = s := ⟨_, rfl⟩
          obtain ⟨c0, c1⟩ := hcs k hlt
          rw [hs] at c0 c1
          have hp := hidx k hlt
          cases q1 : decide (n < 0)
          rotate_left
          · have r1 : n < 0 := by simpa using q1
            have HF := Lib.hid (show g k = false from by rw [HG.out]; unfold okAt; rw [hs]; simp [show ¬ 0 ≤ n by omega])
            clear hs hidx hcs hbb
            go_wp2
            go_quiet (fail)
            go_wp2
            go_ret
            exact ⟨ret_code (by rw [HE.out, all_not hlt (HG.out ▸ HF.out)]; rfl), below_draws _ (HBA.out.trans ((HBR.out.mono (by omega)).alloc (by have := HBR.out.size; omega) _)) _⟩
          · have r1 : ¬ n < 0 := by simpa using q1
            have R1 := Lib.hid (show 0 ≤ n by omega)
            clear r1
            cases q3 : decide (0 < k)
            · have R3 := Lib.hid (show k = 0 by simpa using q3)
              have HF := Lib.hid (show g k = true from by rw [HG.out]; unfold okAt; rw [hs]; simp [R1.out, R3.out])
              clear hs hidx hcs hbb
              go_wp2
              go_quiet (fail)
              go_wp2
              go_roundw
              case rel => exact ⟨k + 1, by omega, by go_num, all_up HN.out HF.out, below_draws _ (HBR.out.alloc HBR.out.size _) _⟩
              case measure => simp [intOf]; omega
            · have R3 := Lib.hid (show k ≠ 0 by have := of_decide_eq_true q3; omega)
              obtain ⟨m, hmk⟩ : ∃ m, m = k - 1 := ⟨_, rfl⟩
              have hm1 : m + 1 = k := by have := R3.out; omega
              obtain ⟨⟨s', n'⟩, hs'⟩ : ∃ s', L.getD m default = s' := ⟨_, rfl⟩
              obtain ⟨d0, d1⟩ := hcs m (by omega)
              rw [hs'] at d0 d1
              have hp' : ∀ w', (Instr.indexAt 22 (.slice ao L.length cap) (.int .i64 ((k : Int) - 1))).run Try.prog w' = .ok (.pointer (some ⟨b, off + m * 2, none⟩)) w' := by
                have := hidx m (by omega)
                rwa [show (m : Int) = (k : Int) - 1 from by omega] at this
              have hbl : b < wr.heap.size := Nat.lt_of_lt_of_le (hbb m (by omega)) HBR.out.size
              have hk1 : 0 < k := by omega
              cases q4 : Op.bytesLess s' s
              · have R4 := Lib.hid ((Go.Proofs.bytesLess_eq s' s).symm.trans q4)
                have HF := Lib.hid (show g k = false from by rw [HG.out]; unfold okAt; rw [← hmk, hs, hs']; rw [R4.out]; simp [R3.out])
                clear hs hidx hcs hbb hs' hmk hm1
                go_wp2
                go_quiet (fail)
                go_wp2
                go_ret
                exact ⟨ret_code (by rw [HE.out, all_not hlt (HG.out ▸ HF.out)]; rfl), below_draws _ (HBA.out.trans ((HBR.out.mono (by omega)).alloc (by have := HBR.out.size; omega) _)) _⟩
              · have R4 := Lib.hid ((Go.Proofs.bytesLess_eq s' s).symm.trans q4)
                have HF := Lib.hid (show g k = true from by rw [HG.out]; unfold okAt; rw [← hmk, hs, hs', R4.out]; simp [R1.out])
                clear hs hidx hcs hbb hs' hmk hm1
                go_wp2
                go_quiet (fail)
                go_wp2
                go_roundw
                case rel => exact ⟨k + 1, by omega, by go_num, all_up HN.out HF.out, below_draws _ (HBR.out.alloc HBR.out.size _) _⟩
                case measure => simp [intOf]; omega
        · have HT := Lib.hid (show (List.range L.length).all g = true from by rw [List.all_eq_true]; intro j hj; exact HN.out j (by simp at hj; omega))
          clear hidx hcs
          go_wp2
          go_ret
          exact ⟨ret_code (by rw [HE.out, ← HG.out, HT.out]; rfl), HBA.out.trans (HBR.out.mono (by omega))⟩
  · have HE := Lib.hid (show 3 = cd from by
      rw [HCD.out, if_neg]
      intro h
      unfold pcheck at h
      simp only [Bool.and_eq_true, decide_eq_true_eq, beq_iff_eq] at h
      exact he ⟨h.1.1.1, h.1.1.2, h.1.2⟩)
    subst hW0
    clear x0 x1 x2 hidx hc HCD HS1
    by_cases p1 : L.length ≤ 60
    · by_cases p2 : 0 ≤ at'
      · cases ex
        · have p3 : 0 < at' := by
            rcases Int.lt_or_le 0 at' with h | h
            · exact h
            · exact absurd ⟨p1, p2, by simp; omega⟩ he
          clear he
          go_enter Try.func12, Try.ntmps12
          go_wp2
          go_ret
          exact ⟨ret_code HE.out, HBA.out⟩
        · have p3 : at' ≤ 0 := by
            rcases Int.lt_or_le 0 at' with h | h
            · exact absurd ⟨p1, p2, by simp; omega⟩ he
            · exact h
          have p3' : at' = 0 := by omega
          subst p3'
          clear he
          go_enter Try.func12, Try.ntmps12
          go_wp2
          go_ret
          exact ⟨ret_code HE.out, HBA.out⟩
      · clear he
        have p2' : at' < 0 := by omega
        go_enter Try.func12, Try.ntmps12
        go_wp2
        go_ret
        exact ⟨ret_code HE.out, HBA.out⟩
    · clear he
      have p1' : 60 < (L.length : Int) := by omega
      go_enter Try.func12, Try.ntmps12
      go_wp2
      go_ret
      exact ⟨ret_code HE.out, HBA.out⟩
end Go.Proofs.Ytkphgonbbhlnfaa
