/- siphonlaw08.few. -/
import Derived.Test.YthkogdgfkhhleaaJEnc
import Derived.Test.YthkogdgfkhhleaaJOpen
namespace Go.Proofs.Ythkogdgfkhhleaa
open Go.RowKit Go.Sort
set_option maxRecDepth 20000
set_option maxRecDepth 20000
attribute [local go_sem] bstr_size bstr_extract bstr_toList bstr_get

def fewB (L : List Str) (R : List Rec) : Bool := decide (L.length ≤ 100) && decide (R.length ≤ 40) && R.all (fun r => decide (r.2.2.length ≤ 100))
def RetF (w : World) (c : Bool) (e : Ending) (w' : World) : Prop := e = .returned (.bool c) ∧ Below w.heap.size w w'
set_option maxHeartbeats 4000000 in
theorem few8_any (k v mx r ev : Int) (g : Str) (q : Bool) (so : Option Addr) (L : List Str) (sc : Nat) (ro : Option Addr) (R : List Rec) (rc : Nat) (w : World) (hr : R.length ≤ 40 → Recs w (.slice ro R.length rc) R) :
    Calls Try.prog 14 #[.agg (msgCells k v g mx q r ev so L.length sc ro R.length rc)] w (RetF w (fewB L R)) := by
  have l1 := run_len_any (P := Try.prog) Try.underlying24 so L.length sc
  have l2 := run_len_any (P := Try.prog) Try.underlying25 ro R.length rc
  have l3 := fun ao n c => run_len_any (P := Try.prog) Try.underlying24 ao n c
  obtain ⟨ns, hns⟩ : ∃ ns, L.length = ns := ⟨_, rfl⟩
  obtain ⟨nr, hnr⟩ : ∃ nr, R.length = nr := ⟨_, rfl⟩
  have HF := Lib.hid (show fewB L R = (decide (ns ≤ 100) && decide (nr ≤ 40) && R.all (fun r => decide (r.2.2.length ≤ 100))) from by unfold fewB; rw [hns, hnr])
  rw [hns] at l1 ⊢
  rw [hnr] at l2 hr ⊢
  obtain ⟨b1, hb1⟩ : ∃ b, w.heap.size = b := ⟨_, rfl⟩
  obtain ⟨W1, hW1⟩ : ∃ W1, w.alloc (.cells (msgCells k v g mx q r ev so ns sc ro nr rc) 27) = W1 := ⟨_, rfl⟩
  have k1 : Below w.heap.size w W1 := by rw [← hW1]; exact (Below.refl _ _).alloc (Nat.le_refl _) _
  have HX1 := Lib.hid (show CBox W1 b1 27 (msgCells k v g mx q r ev so ns sc ro nr rc) from by rw [← hW1]; exact CBox.new _ hb1.symm)
  have HB1 := Lib.hid (show Below b1 w W1 from hb1 ▸ k1)
  have HBB := Lib.hid hb1; have HW1 := Lib.hid hW1; have HNR := Lib.hid hnr
  by_cases hL : 100 < ns
  · have d1 : decide ((100 : Int) < ns) = true := decide_eq_true (by omega)
    have d1' : decide (100 < ns) = true := decide_eq_true hL
    have HE := Lib.hid (show fewB L R = false from by rw [HF.out, decide_eq_false (by omega)]; rfl)
    clear hr hns hnr hb1 hW1 k1 hL
    go_enter Try.func14, Try.ntmps14
    go_upto_region 1 with fail
    rw [HBB.out, HW1.out]
    obtain ⟨x0, xf0⟩ := CBox.at_ HX1.out 0 _ rfl
    obtain ⟨x1, xf1⟩ := CBox.at_ HX1.out 1 _ rfl
    obtain ⟨x2, xf2⟩ := CBox.at_ HX1.out 2 _ rfl
    obtain ⟨x3, xf3⟩ := CBox.at_ HX1.out 3 _ rfl
    obtain ⟨x4, xf4⟩ := CBox.at_ HX1.out 4 _ rfl
    obtain ⟨x5, xf5⟩ := CBox.at_ HX1.out 5 _ rfl
    obtain ⟨x6, xf6⟩ := CBox.at_ HX1.out 6 _ rfl
    obtain ⟨x7, xf7⟩ := CBox.at_ HX1.out 7 _ rfl
    obtain ⟨x8, xf8⟩ := CBox.at_ HX1.out 8 _ rfl
    go_wp2_with fail
    go_ret
    exact ⟨by rw [HE.out]; rfl, HBB.out ▸ HB1.out⟩
  · have d1 : decide ((100 : Int) < ns) = false := decide_eq_false (by omega)
    have d1' : decide (100 < ns) = false := decide_eq_false hL
    by_cases hR : 40 < nr
    · have d2 : decide ((40 : Int) < nr) = true := decide_eq_true (by omega)
      have d2' : decide (40 < nr) = true := decide_eq_true hR
      have HE := Lib.hid (show fewB L R = false from by rw [HF.out, decide_eq_false (show ¬ nr ≤ 40 by omega)]; simp)
      clear hr hns hnr hb1 hW1 k1 hL hR
      go_enter Try.func14, Try.ntmps14
      go_upto_region 1 with fail
      rw [HBB.out, HW1.out]
      obtain ⟨x0, xf0⟩ := CBox.at_ HX1.out 0 _ rfl
      obtain ⟨x1, xf1⟩ := CBox.at_ HX1.out 1 _ rfl
      obtain ⟨x2, xf2⟩ := CBox.at_ HX1.out 2 _ rfl
      obtain ⟨x3, xf3⟩ := CBox.at_ HX1.out 3 _ rfl
      obtain ⟨x4, xf4⟩ := CBox.at_ HX1.out 4 _ rfl
      obtain ⟨x5, xf5⟩ := CBox.at_ HX1.out 5 _ rfl
      obtain ⟨x6, xf6⟩ := CBox.at_ HX1.out 6 _ rfl
      obtain ⟨x7, xf7⟩ := CBox.at_ HX1.out 7 _ rfl
      obtain ⟨x8, xf8⟩ := CBox.at_ HX1.out 8 _ rfl
      go_wp2_with fail
      go_ret
      exact ⟨by rw [HE.out]; rfl, HBB.out ▸ HB1.out⟩
    · have d2 : decide ((40 : Int) < nr) = false := decide_eq_false (by omega)
      have d2' : decide (40 < nr) = false := decide_eq_false hR
      have HE := Lib.hid (show fewB L R = R.all (fun r => decide (r.2.2.length ≤ 100)) from by rw [HF.out, decide_eq_true (by omega), decide_eq_true (by omega)]; rfl)
      have hrs := (hr (by omega)).mono k1
      obtain ⟨bb, off, src, h9, h8, hidx, hc⟩ := hrs.facts
      clear h9 h8
      have HID := Lib.hid hidx; have HCC := Lib.hid hc; have HR40 := Lib.hid (show nr ≤ 40 by omega)
      clear hr hns hb1 hW1 k1 hL hR hrs hidx hc
      go_enter Try.func14, Try.ntmps14
      go_upto_region 1 with fail
      rw [HBB.out, HW1.out]
      obtain ⟨x0, xf0⟩ := CBox.at_ HX1.out 0 _ rfl
      obtain ⟨x1, xf1⟩ := CBox.at_ HX1.out 1 _ rfl
      obtain ⟨x2, xf2⟩ := CBox.at_ HX1.out 2 _ rfl
      obtain ⟨x3, xf3⟩ := CBox.at_ HX1.out 3 _ rfl
      obtain ⟨x4, xf4⟩ := CBox.at_ HX1.out 4 _ rfl
      obtain ⟨x5, xf5⟩ := CBox.at_ HX1.out 5 _ rfl
      obtain ⟨x6, xf6⟩ := CBox.at_ HX1.out 6 _ rfl
      obtain ⟨x7, xf7⟩ := CBox.at_ HX1.out 7 _ rfl
      obtain ⟨x8, xf8⟩ := CBox.at_ HX1.out 8 _ rfl
      go_wp2_with fail
      clear d1 d1' d2 d2'
      go_loop [3] (fun i => ∃ j : Nat, j ≤ nr ∧ i = .int .i64 j ∧ (R.take j).all (fun r => decide (r.2.2.length ≤ 100)) = true) (fun i => nr - (RowKit.intOf i).toNat)
      case atStart => exact ⟨0, Nat.zero_le _, rfl, by simp⟩
      case round =>
        obtain ⟨j, hj, rfl, hall⟩ := hrel
        by_cases hlt : j < nr
        · have hltR : j < R.length := by rw [hnr]; exact hlt
          obtain ⟨_, _, _, hc2, hst, _⟩ := HCC.out j hltR
          have hp := HID.out j hltR
          obtain ⟨S, hS⟩ : ∃ S, (R.getD j default).2.2 = S := ⟨_, rfl⟩
          rw [hS] at hst
          obtain ⟨vs, hvs⟩ : ∃ vs, src j = vs := ⟨_, rfl⟩
          rw [hvs] at hc2 hst
          obtain ⟨ao, cc, rfl⟩ := hst.shape
          have hRj : R[j].2.2 = S := by rw [← hS]; simp [List.getD_eq_getElem?_getD, hltR]
          obtain ⟨n, hn⟩ : ∃ n, S.length = n := ⟨_, rfl⟩
          rw [hn] at hc2
          have HN := Lib.hid (show ∀ r ∈ R.take (j + 1), r ∈ R.take j ∨ r.2.2.length = n from fun r hr => by
            rw [take_snoc R j hltR] at hr
            rcases List.mem_append.1 hr with h | h
            · exact .inl h
            · rw [List.mem_singleton] at h; subst h; exact .inr (by rw [hRj, hn]))
          have HMEM := Lib.hid (show ∃ r ∈ R, r.2.2.length = n from ⟨R[j], List.getElem_mem hltR, by rw [hRj, hn]⟩)
          have HALL := Lib.hid hall
          have hwk : wrap64 ((j : Int) + 1) = (j : Int) + 1 := w64 _ (by omega) (by have := HR40.out; omega)
          clear hltR hst hS hvs hRj hn hall hj
          by_cases hn100 : 100 < n
          · have d3 : decide ((100 : Int) < n) = true := decide_eq_true (by omega)
            have d3' : decide (100 < n) = true := decide_eq_true hn100
            have HE2 := Lib.hid (show fewB L R = false from by
              rw [HE.out, Bool.eq_false_iff]
              intro h
              obtain ⟨r, hr, hrn⟩ := HMEM.out
              have := of_decide_eq_true (List.all_eq_true.1 h r hr)
              omega)
            clear hn100
            go_wp2_with fail
            go_ret
            exact ⟨by rw [HE2.out]; rfl, HBB.out ▸ HB1.out⟩
          · have d3 : decide ((100 : Int) < n) = false := decide_eq_false (by omega)
            have d3' : decide (100 < n) = false := decide_eq_false hn100
            have HA2 := Lib.hid (show (R.take (j + 1)).all (fun r => decide (r.2.2.length ≤ 100)) = true from List.all_eq_true.2 fun r hr => by
              rcases HN.out r hr with h | h
              · exact List.all_eq_true.1 HALL.out r h
              · exact decide_eq_true (by omega))
            clear hn100
            go_wp2_with fail
            exact ⟨⟨j + 1, hlt, by first | rfl | (rw [hwk]; rfl), HA2.out⟩, by first | exact meas_up nr j hlt | (rw [hwk]; exact meas_up nr j hlt)⟩
        · have HA2 := Lib.hid (show fewB L R = true from by rw [HE.out, ← hall, List.take_of_length_le (by omega)])
          obtain rfl : nr = j := by omega
          clear hall hj hlt
          go_wp2_with fail
          go_ret
          exact ⟨by rw [HA2.out]; rfl, HBB.out ▸ HB1.out⟩
end Go.Proofs.Ythkogdgfkhhleaa
