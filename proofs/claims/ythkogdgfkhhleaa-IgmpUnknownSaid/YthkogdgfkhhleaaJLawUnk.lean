/- The walk of IgmpUnknown. -/
import Derived.Test.YthkogdgfkhhleaaJLawRecs
import Derived.Test.YthkogdgfkhhleaaJBack
namespace Go.Proofs.Ythkogdgfkhhleaa
open Go.RowKit Go.Sort
set_option maxRecDepth 20000
set_option maxRecDepth 20000
attribute [local go_sem] bstr_size bstr_extract bstr_toList bstr_get

theorem oddB_len (k : UInt8) : (oddB k).length = 16 := rfl
theorem u8_of (z : Int) (h : 0 ≤ z ∧ z ≤ 255) : ∃ k : UInt8, (k.toNat : Int) = z ∧ IntKind.u8.wrap z = (k.toNat : Int) := by
  refine ⟨UInt8.ofNat z.toNat, ?_, ?_⟩
  · simp; omega
  · have : IntKind.u8.wrap z = z := by simp [IntKind.wrap, IntKind.bits, IntKind.signed]; omega
    rw [this]; simp; omega
theorem conv4 (k : UInt8) (W : World) : (convert 44 9 (.slice (some ⟨W.heap.size, 0, none⟩) 4 4)).run Try.prog (W.alloc (.cells #[.int .u8 k.toNat, .int .u8 1, .int .u8 0, .int .u8 1] 5)) = .ok (.string (bstr [k, 1, 0, 1])) (W.alloc (.cells #[.int .u8 k.toNat, .int .u8 1, .int .u8 0, .int .u8 1] 5)) := by
  have h : CBox (W.alloc (.cells #[.int .u8 k.toNat, .int .u8 1, .int .u8 0, .int .u8 1] 5)) W.heap.size 5 #[.int .u8 k.toNat, .int .u8 1, .int .u8 0, .int .u8 1] := CBox.new _ rfl
  refine run_string_b (l := [k, 1, 0, 1]) _ _ _ 5 _ 4 Try.underlying44 Try.underlying5 Try.underlying9 (fun j hj => ?_)
  have hj4 : j < 4 := hj
  refine ⟨h.lt, ?_⟩
  match j, hj4 with
  | 0, _ => exact (h.at_ 0 _ rfl).1
  | 1, _ => exact (h.at_ 1 _ rfl).1
  | 2, _ => exact (h.at_ 2 _ rfl).1
  | 3, _ => exact (h.at_ 3 _ rfl).1
theorem recs4 (s : Str) (n : Int) (w : World) (hs : s.length ≤ 1000000) :
    Calls Try.prog 18 #[.string (bstr s), .int .i64 n, .int .i64 4] w (RetRecsS w (precs s n 4).2 (precs s n 4).1) := (records_any s n 4 w hs).mono fun _ _ h => ret_recsS h
theorem body4' (v : Value) (R : List Rec) (w : World) (h : Recs w v R) :
    Calls Try.prog 20 #[v, .int .i64 4] w (RetBody w (pbody R 4).1 (pbody R 4).2) := body_any v R 4 w h
set_option maxHeartbeats 4000000 in
theorem law_unknown (ro : Option Addr) (R : List Rec) (rc : Nat) (z : Int) (w : World) (hr : R.length ≤ 40 → Recs w (.slice ro R.length rc) R) :
    Calls Try.prog 8 #[.slice ro R.length rc, .int .i64 z] w (YesR w) := by
  have HLV := Lib.hid live_yes
  have b0 : (⟨#[]⟩ : ByteArray) = bstr [] := bstr_nil.symm
  have l2 := run_len_any (P := Try.prog) Try.underlying25 ro R.length rc
  obtain ⟨nr, hnr⟩ : ∃ nr, R.length = nr := ⟨_, rfl⟩
  have HFR := Lib.hid (few0 ro R rc w hr)
  obtain ⟨f, hf⟩ : ∃ f, fewB [] R = f := ⟨_, rfl⟩
  rw [hf] at HFR
  unfold RetF at HFR
  rw [hnr] at l2 hr HFR ⊢
  by_cases c1 : 14 < nr
  · have d1 : decide ((14 : Int) < nr) = true := decide_eq_true (by omega)
    have d1' : decide (14 < nr) = true := decide_eq_true c1
    clear hr hnr hf c1
    go_enter Try.func8, Try.ntmps8
    go_wp2_with ((with_reducible refine (HLV.out _).mono ?_); rintro e w2 ⟨rfl, hb2⟩; have HB2 := Lib.hid hb2; clear hb2)
    go_ret
    exact ⟨rfl, HB2.out⟩
  · have d1 : decide ((14 : Int) < nr) = false := decide_eq_false (by omega)
    have d1' : decide (14 < nr) = false := decide_eq_false c1
    cases f
    · clear hr hnr hf c1
      go_enter Try.func8, Try.ntmps8
      go_wp2_with (first | ((with_reducible refine HFR.out.mono ?_); rintro e w1 ⟨rfl, hb1⟩; have HB1 := Lib.hid hb1; clear hb1) | ((with_reducible refine (HLV.out _).mono ?_); rintro e w2 ⟨rfl, hb2⟩; have HB2 := Lib.hid (HB1.out.trans (hb2.mono HB1.out.size)); clear hb2))
      go_ret
      exact ⟨rfl, HB2.out⟩
    · have HLIVE := Lib.hid HLV.out
      by_cases z1 : 1 ≤ z ∧ z ≤ 6
      · have e1 : decide (1 ≤ z) = true := decide_eq_true z1.1
        have e2 : decide (z ≤ 6) = true := decide_eq_true z1.2
        clear hr hnr hf c1 z1
        go_enter Try.func8, Try.ntmps8
        go_wp2_with (first | ((with_reducible refine HFR.out.mono ?_); rintro e w1 ⟨rfl, hb1⟩; have HB1 := Lib.hid hb1; clear hb1) | ((with_reducible refine (HLV.out _).mono ?_); rintro e w2 ⟨rfl, hb2⟩; have HB2 := Lib.hid (HB1.out.trans (hb2.mono HB1.out.size)); clear hb2))
        go_ret
        exact ⟨rfl, HB2.out⟩
      · by_cases z2 : z < 0
        · have e1 : decide (1 ≤ z) = false := decide_eq_false (by omega)
          have e2 : decide (z < 0) = true := decide_eq_true z2
          clear hr hnr hf c1 z1 z2
          go_enter Try.func8, Try.ntmps8
          go_wp2_with (first | ((with_reducible refine HFR.out.mono ?_); rintro e w1 ⟨rfl, hb1⟩; have HB1 := Lib.hid hb1; clear hb1) | ((with_reducible refine (HLV.out _).mono ?_); rintro e w2 ⟨rfl, hb2⟩; have HB2 := Lib.hid (HB1.out.trans (hb2.mono HB1.out.size)); clear hb2))
          go_ret
          exact ⟨rfl, HB2.out⟩
        · have e2 : decide (z < 0) = false := decide_eq_false z2
          by_cases z3 : 255 < z
          · have e1 : decide (1 ≤ z) = true := decide_eq_true (by omega)
            have e4 : decide (z ≤ 6) = false := decide_eq_false (by omega)
            have e3 : decide (255 < z) = true := decide_eq_true z3
            clear hr hnr hf c1 z1 z2 z3
            go_enter Try.func8, Try.ntmps8
            go_wp2_with (first | ((with_reducible refine HFR.out.mono ?_); rintro e w1 ⟨rfl, hb1⟩; have HB1 := Lib.hid hb1; clear hb1) | ((with_reducible refine (HLV.out _).mono ?_); rintro e w2 ⟨rfl, hb2⟩; have HB2 := Lib.hid (HB1.out.trans (hb2.mono HB1.out.size)); clear hb2))
            go_ret
            exact ⟨rfl, HB2.out⟩
          · have e3 : decide (255 < z) = false := decide_eq_false z3
            obtain ⟨K, hK, hw8⟩ := u8_of z (by omega)
            have hkn : knownK K.toNat = false := by
              unfold knownK
              rw [← Bool.decide_and]
              exact decide_eq_false (by omega)
            have hrr := hr (by omega)
            have HBD := Lib.hid (fun W (hb : Below w.heap.size w W) => body4' (.slice ro nr rc) R W (hrr.mono hb))
            have HRW := Lib.hid (fun W (hb : Below w.heap.size w W) => hrr.mono hb)
            have hz1 : decide (1 ≤ z) = true ∧ decide (z ≤ 6) = false ∨ decide (1 ≤ z) = false := by
              by_cases h : 1 ≤ z
              · exact .inl ⟨decide_eq_true h, decide_eq_false (by omega)⟩
              · exact .inr (decide_eq_false h)
            cases hok : bodyOk R 4
            · rw [show pbody R 4 = ([], 1) from by unfold pbody; rw [hok]; rfl] at HBD
              unfold RetBody at HBD
              clear hr hnr hf c1 z1 z2 z3 hK hw8 hkn hrr hok
              rcases hz1 with ⟨e1, e4⟩ | e1
              all_goals
                go_enter Try.func8, Try.ntmps8
                go_wp2_with (first | ((with_reducible refine HFR.out.mono ?_); rintro e w1 ⟨rfl, hb1⟩; have HB1 := Lib.hid hb1; clear hb1) | ((with_reducible refine (HBD.out w1 HB1.out).mono ?_); rintro e w2 ⟨rfl, hb2⟩; have HB2 := Lib.hid (HB1.out.trans (hb2.mono HB1.out.size)); clear hb2) | ((with_reducible refine (HLV.out _).mono ?_); rintro e w3 ⟨rfl, hb3⟩; have HB3 := Lib.hid (HB2.out.trans (hb3.mono HB2.out.size)); clear hb3))
                go_ret
                exact ⟨rfl, HB3.out⟩
            · obtain ⟨B, hB⟩ : ∃ B, bodyB R = B := ⟨_, rfl⟩
              rw [show pbody R 4 = (B, 0) from by unfold pbody; rw [hok, hB]; rfl] at HBD
              unfold RetBody at HBD
              have hbo := hok
              unfold bodyOk at hbo
              simp only [Bool.and_eq_true, decide_eq_true_eq, List.all_eq_true] at hbo
              have hBl : B.length ≤ 14000 := by have := bodyB_len 4 (by decide) R hbo.2; rw [hB] at this; omega
              have hpr := precs_odd K hkn R (by omega) hbo.2
              rw [hB] at hpr
              obtain ⟨O, hO⟩ : ∃ O, oddB K = O := ⟨_, rfl⟩
              rw [hO] at hpr
              have hOl : O.length = 16 := by rw [← hO]; rfl
              obtain ⟨T4, h4⟩ : ∃ T : Str, O ++ B = T := ⟨_, rfl⟩
              obtain ⟨T5, h5⟩ : ∃ T : Str, T4 ++ O = T := ⟨_, rfl⟩
              rw [h4, h5] at hpr
              have HRC := Lib.hid (fun W => recs4 T5 ((R.length : Int) + 2) W (by rw [← h5, ← h4]; simp only [List.length_append]; omega))
              rw [hpr, hnr] at HRC
              unfold RetRecsS at HRC
              have hwn : wrap64 ((nr : Int) + 2) = (nr : Int) + 2 := w64 _ (by omega) (by omega)
              obtain ⟨A0, hA0⟩ : ∃ A : Str, [K, 1, 0, 1] = A := ⟨_, rfl⟩
              obtain ⟨T1, h1⟩ : ∃ T : Str, A0 ++ [224, 1, 2, 3] = T := ⟨_, rfl⟩
              obtain ⟨T2, h2⟩ : ∃ T : Str, T1 ++ [97, 98, 99, 100] = T := ⟨_, rfl⟩
              have h3 : T2 ++ [119, 120, 121, 122] = O := by rw [← h2, ← h1, ← hA0, ← hO]; rfl
              have k0 : A0.length = 4 := by rw [← hA0]; rfl
              have k1 : T1.length = 8 := by rw [← h1, List.length_append, k0]; rfl
              have k2 : T2.length = 12 := by rw [← h2, List.length_append, k1]; rfl
              have k4 : T4.length ≤ 14016 := by rw [← h4, List.length_append]; omega
              have n4 : ¬ 9223372036854775807 < 16 + B.length := by omega
              have n5 : ¬ 9223372036854775807 < T4.length + 16 := by omega
              have q1 : bstr A0 ++ bstr [224, 1, 2, 3] = bstr T1 := by rw [bstr_append, h1]
              have q2 : bstr T1 ++ bstr [97, 98, 99, 100] = bstr T2 := by rw [bstr_append, h2]
              have q3 : bstr T2 ++ bstr [119, 120, 121, 122] = bstr O := by rw [bstr_append, h3]
              have q4 : bstr O ++ bstr B = bstr T4 := by rw [bstr_append, h4]
              have q5 : bstr T4 ++ bstr O = bstr T5 := by rw [bstr_append, h5]
              have g1 : (⟨#[224, 1, 2, 3]⟩ : ByteArray) = bstr [224, 1, 2, 3] := by rw [bstr_eq]
              have g2 : (⟨#[97, 98, 99, 100]⟩ : ByteArray) = bstr [97, 98, 99, 100] := by rw [bstr_eq]
              have g3 : (⟨#[119, 120, 121, 122]⟩ : ByteArray) = bstr [119, 120, 121, 122] := by rw [bstr_eq]
              have HCV := Lib.hid (fun W => conv4 K W)
              rw [hA0] at HCV
              have HHW := Lib.hid hw8
              clear hr hnr hf c1 z1 z2 z3 hK hkn hrr hok hB hbo hBl hpr hO h1 h2 h3 h4 h5 hA0 k4 hw8
              rcases hz1 with ⟨e1, e4⟩ | e1
              all_goals
                go_enter Try.func8, Try.ntmps8
                go_upto_region 6 with (first | ((with_reducible refine HFR.out.mono ?_); rintro e w1 ⟨rfl, hb1⟩; have HB1 := Lib.hid hb1; clear hb1) | ((with_reducible refine (HBD.out w1 HB1.out).mono ?_); rintro e w2 ⟨rfl, hb2⟩; have HB2 := Lib.hid (HB1.out.trans (hb2.mono HB1.out.size)); clear hb2))
                have hcv := HCV.out w2
                have hw8 := HHW.out
                have k3 : Below w.heap.size w (w2.alloc (.cells #[.int .u8 K.toNat, .int .u8 1, .int .u8 0, .int .u8 1] 5)) := HB2.out.alloc HB2.out.size _
                have HB3 := Lib.hid k3
                clear k3 HBD
                go_wp2_with (first
                  | ((with_reducible refine (HRC.out _).mono ?_); rintro e w4 ⟨ao, c, rfl, hq4, hb4⟩; have HB4 := Lib.hid (HB3.out.trans (hb4.mono HB3.out.size)); have HSM := Lib.hid (srecs_yes _ _ R w4 (HRW.out w4 HB4.out) hq4); clear hb4 hq4)
                  | ((with_reducible refine HSM.out.mono ?_); rintro e w5 ⟨rfl, hb5⟩; have HB5 := Lib.hid (HB4.out.trans (hb5.mono HB4.out.size)); clear hb5)
                  | ((with_reducible refine (HLV.out _).mono ?_); rintro e w6 ⟨rfl, hb6⟩; have HB6 := Lib.hid (HB5.out.trans (hb6.mono HB5.out.size)); clear hb6))
                go_ret
                exact ⟨rfl, HB6.out⟩
end Go.Proofs.Ythkogdgfkhhleaa
