/- Texts joined into one file: MLive. -/
import Derived.Test.YthkibgdeibolfaaQ28
import Derived.Test.YthkibgdeibolfaaQ19
import Derived.Test.YthkibgdeibolfaaQ13
import Derived.Test.YthkibgdeibolfaaQ14

/- live; siphonlaw09.few. -/
namespace Go.Proofs.Ythkibgdeibolfaa
open Go.RowKit Go.Sort
set_option maxRecDepth 20000
set_option maxRecDepth 20000
attribute [local go_sem] bstr_size bstr_extract bstr_toList bstr_get

set_option maxHeartbeats 4000000 in
theorem few9_any (k v mx r ev : Int) (g : Str) (q : Bool) (so : Option Addr) (L : List Str) (sc : Nat) (ro : Option Addr) (R : List Rec) (rc : Nat) (w : World) (hr : R.length ≤ 40 → Recs w (.slice ro R.length rc) R) :
    Calls Try.prog 12 #[.agg (msgCells k v g mx q r ev so L.length sc ro R.length rc)] w (RetF w (fewB L R)) := by
  have l1 := run_len_any (P := Try.prog) Try.underlying26 so L.length sc
  have l2 := run_len_any (P := Try.prog) Try.underlying27 ro R.length rc
  have l3 := fun ao n c => run_len_any (P := Try.prog) Try.underlying26 ao n c
  obtain ⟨ns, hns⟩ : ∃ ns, L.length = ns := ⟨_, rfl⟩
  obtain ⟨nr, hnr⟩ : ∃ nr, R.length = nr := ⟨_, rfl⟩
  have HF := Lib.hid (show fewB L R = (decide (ns ≤ 100) && decide (nr ≤ 40) && R.all (fun r => decide (r.2.2.length ≤ 100))) from by unfold fewB; rw [hns, hnr])
  rw [hns] at l1 ⊢
  rw [hnr] at l2 hr ⊢
  obtain ⟨b1, hb1⟩ : ∃ b, w.heap.size = b := ⟨_, rfl⟩
  obtain ⟨W1, hW1⟩ : ∃ W1, w.alloc (.cells (msgCells k v g mx q r ev so ns sc ro nr rc) 29) = W1 := ⟨_, rfl⟩
  have k1 : Below w.heap.size w W1 := by rw [← hW1]; exact (Below.refl _ _).alloc (Nat.le_refl _) _
  have HX1 := Lib.hid (show CBox W1 b1 29 (msgCells k v g mx q r ev so ns sc ro nr rc) from by rw [← hW1]; exact CBox.new _ hb1.symm)
  have HB1 := Lib.hid (show Below b1 w W1 from hb1 ▸ k1)
  have HBB := Lib.hid hb1; have HW1 := Lib.hid hW1; have HNR := Lib.hid hnr
  by_cases hL : 100 < ns
  · have d1 : decide ((100 : Int) < ns) = true := decide_eq_true (by omega)
    have d1' : decide (100 < ns) = true := decide_eq_true hL
    have HE := Lib.hid (show fewB L R = false from by rw [HF.out, decide_eq_false (by omega)]; rfl)
    clear hr hns hnr hb1 hW1 k1 hL
    go_enter Try.func12, Try.ntmps12
    go_upto_region 1 with fail
    rw [HBB.out, HW1.out]
    obtain ⟨x0, xf0⟩ := CBox.at_ HX1.out 0 _ rfl
    obtain ⟨x1, xf1⟩ := CBox.at_ HX1.out 1 _ rfl
    obtain ⟨x2, xf2⟩ := CBox.at_ HX1.out 2 _ rfl
    obtain ⟨x3, xf3⟩ := CBox.at_ HX1.out 3 _ rfl
    obtain ⟨x4, xf4⟩ := CBox.at_ HX1.out 4 _ rfl
    obtain ⟨x5, xf5⟩ := CBox.at_ HX1.out 5 _ rfl
    obtain ⟨x6, xf6⟩ := CBox.at_ HX1.out 6 _ rfl
    obtain ⟨x7, xf7⟩ := CBox.at_ HX1.out 7 _ rfl
    obtain ⟨x8, xf8⟩ := CBox.at_ HX1.out 8 _ rfl
    go_wp2_with fail
    go_ret
    exact ⟨by rw [HE.out]; rfl, HBB.out ▸ HB1.out⟩
  · have d1 : decide ((100 : Int) < ns) = false := decide_eq_false (by omega)
    have d1' : decide (100 < ns) = false := decide_eq_false hL
    by_cases hR : 40 < nr
    · have d2 : decide ((40 : Int) < nr) = true := decide_eq_true (by omega)
      have d2' : decide (40 < nr) = true := decide_eq_true hR
      have HE := Lib.hid (show fewB L R = false from by rw [HF.out, decide_eq_false (show ¬ nr ≤ 40 by omega)]; simp)
      clear hr hns hnr hb1 hW1 k1 hL hR
      go_enter Try.func12, Try.ntmps12
      go_upto_region 1 with fail
      rw [HBB.out, HW1.out]
      obtain ⟨x0, xf0⟩ := CBox.at_ HX1.out 0 _ rfl
      obtain ⟨x1, xf1⟩ := CBox.at_ HX1.out 1 _ rfl
      obtain ⟨x2, xf2⟩ := CBox.at_ HX1.out 2 _ rfl
      obtain ⟨x3, xf3⟩ := CBox.at_ HX1.out 3 _ rfl
      obtain ⟨x4, xf4⟩ := CBox.at_ HX1.out 4 _ rfl
      obtain ⟨x5, xf5⟩ := CBox.at_ HX1.out 5 _ rfl
      obtain ⟨x6, xf6⟩ := CBox.at_ HX1.out 6 _ rfl
      obtain ⟨x7, xf7⟩ := CBox.at_ HX1.out 7 _ rfl
      obtain ⟨x8, xf8⟩ := CBox.at_ HX1.out 8 _ rfl
      go_wp2_with fail
      go_ret
      exact ⟨by rw [HE.out]; rfl, HBB.out ▸ HB1.out⟩
    · have d2 : decide ((40 : Int) < nr) = false := decide_eq_false (by omega)
      have d2' : decide (40 < nr) = false := decide_eq_false hR
      have HE := Lib.hid (show fewB L R = R.all (fun r => decide (r.2.2.length ≤ 100)) from by rw [HF.out, decide_eq_true (by omega), decide_eq_true (by omega)]; rfl)
      have hrs := (hr (by omega)).mono k1
      obtain ⟨bb, off, src, h9, h8, hidx, hc⟩ := hrs.facts
      clear h9 h8
      have HID := Lib.hid hidx; have HCC := Lib.hid hc; have HR40 := Lib.hid (show nr ≤ 40 by omega)
      clear hr hns hb1 hW1 k1 hL hR hrs hidx hc
      go_enter Try.func12, Try.ntmps12
      go_upto_region 1 with fail
      rw [HBB.out, HW1.out]
      obtain ⟨x0, xf0⟩ := CBox.at_ HX1.out 0 _ rfl
      obtain ⟨x1, xf1⟩ := CBox.at_ HX1.out 1 _ rfl
      obtain ⟨x2, xf2⟩ := CBox.at_ HX1.out 2 _ rfl
      obtain ⟨x3, xf3⟩ := CBox.at_ HX1.out 3 _ rfl
      obtain ⟨x4, xf4⟩ := CBox.at_ HX1.out 4 _ rfl
      obtain ⟨x5, xf5⟩ := CBox.at_ HX1.out 5 _ rfl
      obtain ⟨x6, xf6⟩ := CBox.at_ HX1.out 6 _ rfl
      obtain ⟨x7, xf7⟩ := CBox.at_ HX1.out 7 _ rfl
      obtain ⟨x8, xf8⟩ := CBox.at_ HX1.out 8 _ rfl
      go_wp2_with fail
      clear d1 d1' d2 d2'
      go_loop [3] (fun i => ∃ j : Nat, j ≤ nr ∧ i = .int .i64 j ∧ (R.take j).all (fun r => decide (r.2.2.length ≤ 100)) = true) (fun i => nr - (RowKit.intOf i).toNat)
      case atStart => exact ⟨0, Nat.zero_le _, rfl, by simp⟩
      case round =>
        obtain ⟨j, hj, rfl, hall⟩ := hrel
        by_cases hlt : j < nr
        · have hltR : j < R.length := by rw [hnr]; exact hlt
          obtain ⟨_, _, _, hc2, hst, _⟩ := HCC.out j hltR
          have hp := HID.out j hltR
          obtain ⟨S, hS⟩ : ∃ S, (R.getD j default).2.2 = S := ⟨_, rfl⟩
          rw [hS] at hst
          obtain ⟨vs, hvs⟩ : ∃ vs, src j = vs := ⟨_, rfl⟩
          rw [hvs] at hc2 hst
          obtain ⟨ao, cc, rfl⟩ := hst.shape
          have hRj : R[j].2.2 = S := by rw [← hS]; simp [List.getD_eq_getElem?_getD, hltR]
          obtain ⟨n, hn⟩ : ∃ n, S.length = n := ⟨_, rfl⟩
          rw [hn] at hc2
          have HN := Lib.hid (show ∀ r ∈ R.take (j + 1), r ∈ R.take j ∨ r.2.2.length = n from fun r hr => by
            rw [take_snoc R j hltR] at hr
            rcases List.mem_append.1 hr with h | h
            · exact .inl h
            · rw [List.mem_singleton] at h; subst h; exact .inr (by rw [hRj, hn]))
          have HMEM := Lib.hid (show ∃ r ∈ R, r.2.2.length = n from ⟨R[j], List.getElem_mem hltR, by rw [hRj, hn]⟩)
          have HALL := Lib.hid hall
          have hwk : wrap64 ((j : Int) + 1) = (j : Int) + 1 := w64 _ (by omega) (by have := HR40.out; omega)
          clear hltR hst hS hvs hRj hn hall hj
          by_cases hn100 : 100 < n
          · have d3 : decide ((100 : Int) < n) = true := decide_eq_true (by omega)
            have d3' : decide (100 < n) = true := decide_eq_true hn100
            have HE2 := Lib.hid (show fewB L R = false from by
              rw [HE.out, Bool.eq_false_iff]
              intro h
              obtain ⟨r, hr, hrn⟩ := HMEM.out
              have := of_decide_eq_true (List.all_eq_true.1 h r hr)
              omega)
            clear hn100
            go_wp2_with fail
            go_ret
            exact ⟨by rw [HE2.out]; rfl, HBB.out ▸ HB1.out⟩
          · have d3 : decide ((100 : Int) < n) = false := decide_eq_false (by omega)
            have d3' : decide (100 < n) = false := decide_eq_false hn100
            have HA2 := Lib.hid (show (R.take (j + 1)).all (fun r => decide (r.2.2.length ≤ 100)) = true from List.all_eq_true.2 fun r hr => by
              rcases HN.out r hr with h | h
              · exact List.all_eq_true.1 HALL.out r h
              · exact decide_eq_true (by omega))
            clear hn100
            go_wp2_with fail
            exact ⟨⟨j + 1, hlt, by first | rfl | (rw [hwk]; rfl), HA2.out⟩, by first | exact meas_up nr j hlt | (rw [hwk]; exact meas_up nr j hlt)⟩
        · have HA2 := Lib.hid (show fewB L R = true from by rw [HE.out, ← hall, List.take_of_length_le (by omega)])
          obtain rfl : nr = j := by omega
          clear hall hj hlt
          go_wp2_with fail
          go_ret
          exact ⟨by rw [HA2.out]; rfl, HBB.out ▸ HB1.out⟩

def one9 : Str := [48, 49, 50, 51, 52, 53, 54, 55, 56, 57, 97, 98, 99, 100, 101, 102]
def grp9 : Str := [255, 5, 0, 0, 0, 0, 0, 0, 0, 0, 0, 0, 0, 0, 0, 9]
def txt9 : Str := [131, 0, 79, 88, 0, 0, 0, 0, 255, 5, 0, 0, 0, 0, 0, 0, 0, 0, 0, 0, 0, 0, 0, 9]
def liveM9 : Msg := ⟨2, 1, [255, 5, 0, 0, 0, 0, 0, 0, 0, 0, 0, 0, 0, 0, 0, 9], 0, false, 0, 0, [], []⟩
theorem live9_enc : penc9 [48, 49, 50, 51, 52, 53, 54, 55, 56, 57, 97, 98, 99, 100, 101, 102] [255, 5, 0, 0, 0, 0, 0, 0, 0, 0, 0, 0, 0, 0, 0, 9] liveM9 = ([131, 0, 79, 88, 0, 0, 0, 0, 255, 5, 0, 0, 0, 0, 0, 0, 0, 0, 0, 0, 0, 0, 0, 9], 0) := by decide +kernel
theorem live9_dec : mdec [48, 49, 50, 51, 52, 53, 54, 55, 56, 57, 97, 98, 99, 100, 101, 102] [255, 5, 0, 0, 0, 0, 0, 0, 0, 0, 0, 0, 0, 0, 0, 9] [131, 0, 79, 88, 0, 0, 0, 0, 255, 5, 0, 0, 0, 0, 0, 0, 0, 0, 0, 0, 0, 0, 0, 9] = (0, liveM9) := by decide +kernel
theorem live9_bad : mdec [255, 5, 0, 0, 0, 0, 0, 0, 0, 0, 0, 0, 0, 0, 0, 9] [255, 5, 0, 0, 0, 0, 0, 0, 0, 0, 0, 0, 0, 0, 0, 9] [131, 0, 79, 88, 0, 0, 0, 0, 255, 5, 0, 0, 0, 0, 0, 0, 0, 0, 0, 0, 0, 0, 0, 9] = (4, Msg.zero) := by decide +kernel
theorem live9_not : penc9 [48, 49, 50, 51, 52, 53, 54, 55, 56, 57, 97, 98, 99, 100, 101, 102] [97, 98, 99, 100] liveM9 = ([], 1) := by decide +kernel
theorem live9_c1 (w : World) : Calls Try.prog 13 #[.string (bstr [48, 49, 50, 51, 52, 53, 54, 55, 56, 57, 97, 98, 99, 100, 101, 102]), .string (bstr [255, 5, 0, 0, 0, 0, 0, 0, 0, 0, 0, 0, 0, 0, 0, 9]), .agg #[.int .i64 2, .int .i64 1, .string (bstr [255, 5, 0, 0, 0, 0, 0, 0, 0, 0, 0, 0, 0, 0, 0, 9]), .int .i64 0, .bool false, .int .i64 0, .int .i64 0, .slice none 0 0, .slice none 0 0]] w (RetBody w [131, 0, 79, 88, 0, 0, 0, 0, 255, 5, 0, 0, 0, 0, 0, 0, 0, 0, 0, 0, 0, 0, 0, 9] 0) := by
  have h := mencode_any [48, 49, 50, 51, 52, 53, 54, 55, 56, 57, 97, 98, 99, 100, 101, 102] [255, 5, 0, 0, 0, 0, 0, 0, 0, 0, 0, 0, 0, 0, 0, 9] 2 1 0 0 0 [255, 5, 0, 0, 0, 0, 0, 0, 0, 0, 0, 0, 0, 0, 0, 9] false none [] 0 none [] 0 w (Strs.nil _) (Recs.nil _) (by decide) (fun h => by cases h)
  rw [show penc9 [48, 49, 50, 51, 52, 53, 54, 55, 56, 57, 97, 98, 99, 100, 101, 102] [255, 5, 0, 0, 0, 0, 0, 0, 0, 0, 0, 0, 0, 0, 0, 9] ⟨2, 1, [255, 5, 0, 0, 0, 0, 0, 0, 0, 0, 0, 0, 0, 0, 0, 9], 0, false, 0, 0, [], []⟩ = ([131, 0, 79, 88, 0, 0, 0, 0, 255, 5, 0, 0, 0, 0, 0, 0, 0, 0, 0, 0, 0, 0, 0, 9], 0) from live9_enc] at h
  exact h
theorem live9_c2 (w : World) (so : Option Addr) (sc : Nat) (ro : Option Addr) (rc : Nat) (hs : Strs w (.slice so 0 sc) []) (hr : Recs w (.slice ro 0 rc) []) : Calls Try.prog 13 #[.string (bstr [48, 49, 50, 51, 52, 53, 54, 55, 56, 57, 97, 98, 99, 100, 101, 102]), .string (bstr [97, 98, 99, 100]), .agg #[.int .i64 2, .int .i64 1, .string (bstr [255, 5, 0, 0, 0, 0, 0, 0, 0, 0, 0, 0, 0, 0, 0, 9]), .int .i64 0, .bool false, .int .i64 0, .int .i64 0, .slice so 0 sc, .slice ro 0 rc]] w (RetBody w [] 1) := by
  have h := mencode_any [48, 49, 50, 51, 52, 53, 54, 55, 56, 57, 97, 98, 99, 100, 101, 102] [97, 98, 99, 100] 2 1 0 0 0 [255, 5, 0, 0, 0, 0, 0, 0, 0, 0, 0, 0, 0, 0, 0, 9] false so [] sc ro [] rc w hs hr (by decide) (fun h => by cases h)
  rw [show penc9 [48, 49, 50, 51, 52, 53, 54, 55, 56, 57, 97, 98, 99, 100, 101, 102] [97, 98, 99, 100] ⟨2, 1, [255, 5, 0, 0, 0, 0, 0, 0, 0, 0, 0, 0, 0, 0, 0, 9], 0, false, 0, 0, [], []⟩ = ([], 1) from live9_not] at h
  exact h
theorem live9_c3 (w : World) : Calls Try.prog 9 #[.string (bstr [48, 49, 50, 51, 52, 53, 54, 55, 56, 57, 97, 98, 99, 100, 101, 102]), .string (bstr [255, 5, 0, 0, 0, 0, 0, 0, 0, 0, 0, 0, 0, 0, 0, 9]), .string (bstr [131, 0, 79, 88, 0, 0, 0, 0, 255, 5, 0, 0, 0, 0, 0, 0, 0, 0, 0, 0, 0, 0, 0, 9])] w (RetDecM w liveM9 0) := by
  have h := mdecode_any [48, 49, 50, 51, 52, 53, 54, 55, 56, 57, 97, 98, 99, 100, 101, 102] [255, 5, 0, 0, 0, 0, 0, 0, 0, 0, 0, 0, 0, 0, 0, 9] [131, 0, 79, 88, 0, 0, 0, 0, 255, 5, 0, 0, 0, 0, 0, 0, 0, 0, 0, 0, 0, 0, 0, 9] w (by decide)
  rw [live9_dec] at h
  exact h.mono fun e w' hh => ret_decM hh
theorem live9_c4 (w : World) : Calls Try.prog 9 #[.string (bstr [255, 5, 0, 0, 0, 0, 0, 0, 0, 0, 0, 0, 0, 0, 0, 9]), .string (bstr [255, 5, 0, 0, 0, 0, 0, 0, 0, 0, 0, 0, 0, 0, 0, 9]), .string (bstr [131, 0, 79, 88, 0, 0, 0, 0, 255, 5, 0, 0, 0, 0, 0, 0, 0, 0, 0, 0, 0, 0, 0, 9])] w (RetDecM w Msg.zero 4) := by
  have h := mdecode_any [255, 5, 0, 0, 0, 0, 0, 0, 0, 0, 0, 0, 0, 0, 0, 9] [255, 5, 0, 0, 0, 0, 0, 0, 0, 0, 0, 0, 0, 0, 0, 9] [131, 0, 79, 88, 0, 0, 0, 0, 255, 5, 0, 0, 0, 0, 0, 0, 0, 0, 0, 0, 0, 0, 0, 9] w (by decide)
  rw [live9_bad] at h
  exact h.mono fun e w' hh => ret_decM hh
set_option maxHeartbeats 4000000 in
theorem live9_yes (w : World) : Calls Try.prog 8 #[] w fun e w' => e = .returned (.bool true) ∧ Below w.heap.size w w' := by
  have b0 : (⟨#[]⟩ : ByteArray) = bstr [] := bstr_nil.symm
  have b1 : (⟨#[48, 49, 50, 51, 52, 53, 54, 55, 56, 57, 97, 98, 99, 100, 101, 102]⟩ : ByteArray) = bstr [48, 49, 50, 51, 52, 53, 54, 55, 56, 57, 97, 98, 99, 100, 101, 102] := by rw [bstr_eq]
  have b2 : (⟨#[255, 5, 0, 0, 0, 0, 0, 0, 0, 0, 0, 0, 0, 0, 0, 9]⟩ : ByteArray) = bstr [255, 5, 0, 0, 0, 0, 0, 0, 0, 0, 0, 0, 0, 0, 0, 9] := by rw [bstr_eq]
  have b3 : (⟨#[97, 98, 99, 100]⟩ : ByteArray) = bstr [97, 98, 99, 100] := by rw [bstr_eq]
  have H1 := Lib.hid (live9_c1 w)
  have H2 := Lib.hid live9_c3
  have H3 := Lib.hid live9_c4
  have H4 := Lib.hid live9_c2
  unfold RetBody at H1 H4
  unfold RetDecM liveM9 at H2
  unfold RetDecM Msg.zero at H3
  dsimp only [List.length] at H2 H3
  go_enter Try.func8, Try.ntmps8
  go_upto_region 3 with (first | ((with_reducible refine H1.out.mono ?_); rintro e w1 ⟨rfl, hb1⟩; have HB1 := Lib.hid hb1; clear hb1) | ((with_reducible refine (H2.out _).mono ?_); rintro e w2 ⟨so, sc, ro, rc, rfl, hs2, hr2, hb2⟩; have HB2 := Lib.hid (HB1.out.trans (hb2.mono HB1.out.size)); have HV2 := Lib.hid (And.intro hs2 hr2); clear hb2 hs2 hr2))
  obtain ⟨W3, hW3⟩ : ∃ W3, w2.alloc (.cells (msgCells 2 1 [255, 5, 0, 0, 0, 0, 0, 0, 0, 0, 0, 0, 0, 0, 0, 9] 0 false 0 0 so 0 sc ro 0 rc) 29) = W3 := ⟨_, rfl⟩
  obtain ⟨mb, hmb⟩ : ∃ mb, w2.heap.size = mb := ⟨_, rfl⟩
  have hb3 : Below w2.heap.size w2 W3 := by rw [← hW3]; exact (Below.refl _ _).alloc (Nat.le_refl _) _
  have HX3 := Lib.hid (show CBox W3 mb 29 (msgCells 2 1 [255, 5, 0, 0, 0, 0, 0, 0, 0, 0, 0, 0, 0, 0, 0, 9] 0 false 0 0 so 0 sc ro 0 rc) from by rw [← hW3]; exact CBox.new _ hmb.symm)
  have HB3 := Lib.hid (HB2.out.trans (hb3.mono HB2.out.size))
  have HV3 := Lib.hid (And.intro (HV2.out.1.mono hb3) (HV2.out.2.mono hb3))
  rw [hW3, hmb]
  clear hW3 hmb hb3 H1 H2
  go_upto_region 4 with ((with_reducible refine (H3.out _).mono ?_); rintro e w4 ⟨so', sc', ro', rc', rfl, hs4, hr4, hb4⟩; have HX4 := Lib.hid (HX3.out.below hb4 HX3.out.lt); have HB4 := Lib.hid (HB3.out.trans (hb4.mono HB3.out.size)); have HV4 := Lib.hid (And.intro (HV3.out.1.mono hb4) (HV3.out.2.mono hb4)); clear hb4 hs4 hr4)
  obtain ⟨W5, hW5⟩ : ∃ W5, w4.alloc (.cells (msgCells 0 0 [] 0 false 0 0 so' 0 sc' ro' 0 rc') 29) = W5 := ⟨_, rfl⟩
  have hb5 : Below w4.heap.size w4 W5 := by rw [← hW5]; exact (Below.refl _ _).alloc (Nat.le_refl _) _
  have HX5 := Lib.hid (HX4.out.below hb5 HX4.out.lt)
  have HB5 := Lib.hid (HB4.out.trans (hb5.mono HB4.out.size))
  have HV5 := Lib.hid (And.intro (HV4.out.1.mono hb5) (HV4.out.2.mono hb5))
  rw [hW5]
  clear hW5 hb5 H3
  obtain ⟨x0, xf0⟩ := CBox.at_ HX5.out 0 _ rfl
  obtain ⟨x1, xf1⟩ := CBox.at_ HX5.out 1 _ rfl
  obtain ⟨x2, xf2⟩ := CBox.at_ HX5.out 2 _ rfl
  obtain ⟨x3, xf3⟩ := CBox.at_ HX5.out 3 _ rfl
  obtain ⟨x4, xf4⟩ := CBox.at_ HX5.out 4 _ rfl
  obtain ⟨x5, xf5⟩ := CBox.at_ HX5.out 5 _ rfl
  obtain ⟨x6, xf6⟩ := CBox.at_ HX5.out 6 _ rfl
  obtain ⟨x7, xf7⟩ := CBox.at_ HX5.out 7 _ rfl
  obtain ⟨x8, xf8⟩ := CBox.at_ HX5.out 8 _ rfl
  go_wp2_with ((with_reducible refine (H4.out _ _ _ _ _ HV5.out.1 HV5.out.2).mono ?_); rintro e w6 ⟨rfl, hb6⟩; have HX6 := Lib.hid (HX5.out.below hb6 HX5.out.lt); have HB6 := Lib.hid (HB5.out.trans (hb6.mono HB5.out.size)); clear hb6 x0 xf0 x1 xf1 x2 xf2 x3 xf3 x4 xf4 x5 xf5 x6 xf6 x7 xf7 x8 xf8; obtain ⟨x0, xf0⟩ := HX6.out.at_ 0 _ rfl; obtain ⟨x2, xf2⟩ := HX6.out.at_ 2 _ rfl)
  go_ret
  exact ⟨rfl, HB6.out⟩
end Go.Proofs.Ythkibgdeibolfaa
