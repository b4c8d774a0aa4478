/- The walk of IgmpRecords. -/
import Derived.Test.YthkogdgfkhhleaaJSame
import Derived.Test.YthkogdgfkhhleaaJRecs2
import Derived.Test.YthkogdgfkhhleaaJBody2
import Derived.Test.YthkogdgfkhhleaaJFew
namespace Go.Proofs.Ythkogdgfkhhleaa
open Go.RowKit Go.Sort
set_option maxRecDepth 20000
set_option maxRecDepth 20000
attribute [local go_sem] bstr_size bstr_extract bstr_toList bstr_get

/-- records handed back, in their form -/
def RetRecsS (w : World) (L : List Rec) (er : Int) (e : Ending) (w' : World) : Prop := ∃ ao c, e = .returned (.tuple #[.slice ao L.length c, .int .i64 er]) ∧ Recs w' (.slice ao L.length c) L ∧ Below w.heap.size w w'
theorem ret_recsS {w w' : World} {e : Ending} {L : List Rec} {er : Int} (h : RetRecsE w L er e w') : RetRecsS w L er e w' := by
  obtain ⟨v, he, hr, hb⟩ := h
  obtain ⟨ao, c, rfl⟩ := hr.shape
  exact ⟨ao, c, he, hr.recs, hb⟩
def YesR (w : World) (e : Ending) (w' : World) : Prop := e = .returned (.bool true) ∧ Below w.heap.size w w'
theorem few0 (ro : Option Addr) (R : List Rec) (rc : Nat) (w : World) (hr : R.length ≤ 40 → Recs w (.slice ro R.length rc) R) :
    Calls Try.prog 14 #[.agg #[.int .i64 0, .int .i64 0, .string (bstr []), .int .i64 0, .bool false, .int .i64 0, .int .i64 0, .slice none 0 0, .slice ro R.length rc]] w (RetF w (fewB [] R)) := few8_any 0 0 0 0 0 [] false none [] 0 ro R rc w hr
set_option maxHeartbeats 4000000 in
theorem law_records (S : Str) (N Z : Int) (ro : Option Addr) (R : List Rec) (rc : Nat) (w : World) (hr : R.length ≤ 40 → Recs w (.slice ro R.length rc) R) :
    Calls Try.prog 5 #[.agg #[.string (bstr S), .int .i64 N, .int .i64 Z, .slice ro R.length rc]] w (YesR w) := by
  have HLV := Lib.hid live_yes
  have b0 : (⟨#[]⟩ : ByteArray) = bstr [] := bstr_nil.symm
  obtain ⟨b1, hb1⟩ : ∃ b, w.heap.size = b := ⟨_, rfl⟩
  obtain ⟨W1, hW1⟩ : ∃ W1, w.alloc (.cells #[.string (bstr S), .int .i64 N, .int .i64 Z, .slice ro R.length rc] 38) = W1 := ⟨_, rfl⟩
  have k1 : Below w.heap.size w W1 := by rw [← hW1]; exact (Below.refl _ _).alloc (Nat.le_refl _) _
  have HX1 := Lib.hid (show CBox W1 b1 38 #[.string (bstr S), .int .i64 N, .int .i64 Z, .slice ro R.length rc] from by rw [← hW1]; exact CBox.new _ hb1.symm)
  have HB1 := Lib.hid (show Below b1 w W1 from hb1 ▸ k1)
  have HBB := Lib.hid hb1; have HW1 := Lib.hid hW1
  have HR1 := Lib.hid (fun h => (hr h).mono k1)
  have HFW := Lib.hid (fun W (hb : Below W1.heap.size W1 W) => few0 ro R rc W (fun h => ((hr h).mono k1).mono hb))
  clear hr hb1 hW1 k1
  obtain ⟨nr, hnr⟩ : ∃ nr, R.length = nr := ⟨_, rfl⟩
  have HNR := Lib.hid hnr
  by_cases hl : 20000 < S.length
  · have d1 : decide ((20000 : Int) < S.length) = true := decide_eq_true (by omega)
    have d1' : decide (20000 < S.length) = true := decide_eq_true hl
    clear hl hnr
    go_enter Try.func5, Try.ntmps5
    go_upto_region 1 with fail
    rw [HBB.out, HW1.out]
    obtain ⟨x0, xf0⟩ := CBox.at_ HX1.out 0 _ rfl
    obtain ⟨x1, xf1⟩ := CBox.at_ HX1.out 1 _ rfl
    obtain ⟨x2, xf2⟩ := CBox.at_ HX1.out 2 _ rfl
    obtain ⟨x3, xf3⟩ := CBox.at_ HX1.out 3 _ rfl
    go_wp2_with ((with_reducible refine (HLV.out _).mono ?_); rintro e w2 ⟨rfl, hb2⟩; have HB2 := Lib.hid (HB1.out.trans (hb2.mono (Nat.le_of_lt HX1.out.lt))); clear hb2)
    go_ret
    exact ⟨rfl, HBB.out ▸ HB2.out⟩
  · have d1 : decide ((20000 : Int) < S.length) = false := decide_eq_false (by omega)
    have d1' : decide (20000 < S.length) = false := decide_eq_false hl
    obtain ⟨f, hf⟩ : ∃ f, fewB [] R = f := ⟨_, rfl⟩
    rw [hf] at HFW
    unfold RetF at HFW
    have HFR := Lib.hid (HFW.out W1 (Below.refl _ _))
    cases f
    · clear hl hnr hf HFW
      go_enter Try.func5, Try.ntmps5
      go_upto_region 1 with fail
      rw [HBB.out, HW1.out]
      obtain ⟨x0, xf0⟩ := CBox.at_ HX1.out 0 _ rfl
      obtain ⟨x1, xf1⟩ := CBox.at_ HX1.out 1 _ rfl
      obtain ⟨x2, xf2⟩ := CBox.at_ HX1.out 2 _ rfl
      obtain ⟨x3, xf3⟩ := CBox.at_ HX1.out 3 _ rfl
      go_wp2_with (first | ((with_reducible refine HFR.out.mono ?_); rintro e w2 ⟨rfl, hb2⟩; have HB2 := Lib.hid (HB1.out.trans (hb2.mono (Nat.le_of_lt HX1.out.lt))); have HS2 := Lib.hid (Nat.le_trans (Nat.le_of_lt HX1.out.lt) hb2.size); clear hb2) | ((with_reducible refine (HLV.out _).mono ?_); rintro e w3 ⟨rfl, hb3⟩; have HB3 := Lib.hid (HB2.out.trans (hb3.mono HS2.out)); clear hb3))
      go_ret
      exact ⟨rfl, HBB.out ▸ HB3.out⟩
    · have h40 : R.length ≤ 40 := by unfold fewB at hf; simp only [Bool.and_eq_true, decide_eq_true_eq] at hf; exact hf.1.2
      have HR := Lib.hid (HR1.out h40)
      have HC1 := Lib.hid (fun W => (records_any S N Z W (by omega)).mono fun _ _ h => ret_recsS h)
      have HC2 := Lib.hid (fun W => (rrecords_any S N Z W (by omega)).mono fun _ _ h => ret_recsS h)
      have HC3 := Lib.hid (fun W (hb : Below W1.heap.size W1 W) => body_any (.slice ro R.length rc) R Z W (HR.out.mono hb))
      have HC4 := Lib.hid (fun W (hb : Below W1.heap.size W1 W) => rbody_any (.slice ro R.length rc) R Z W (HR.out.mono hb))
      obtain ⟨er, her⟩ : ∃ er, (precs S N Z).1 = er := ⟨_, rfl⟩
      obtain ⟨Q, hQ⟩ : ∃ Q, (precs S N Z).2 = Q := ⟨_, rfl⟩
      obtain ⟨be, hbe⟩ : ∃ er, (pbody R Z).2 = er := ⟨_, rfl⟩
      obtain ⟨B, hB⟩ : ∃ B, (pbody R Z).1 = B := ⟨_, rfl⟩
      rw [her, hQ] at HC1 HC2
      rw [hbe, hB] at HC3 HC4
      unfold RetRecsS at HC1 HC2
      unfold RetBody at HC3 HC4
      have RF := Lib.hid (Below.refl W1.heap.size W1)
      clear hl hnr hf h40 her hQ hbe hB HFW HR1
      go_enter Try.func5, Try.ntmps5
      go_upto_region 1 with fail
      rw [HBB.out, HW1.out]
      obtain ⟨x0, xf0⟩ := CBox.at_ HX1.out 0 _ rfl
      obtain ⟨x1, xf1⟩ := CBox.at_ HX1.out 1 _ rfl
      obtain ⟨x2, xf2⟩ := CBox.at_ HX1.out 2 _ rfl
      obtain ⟨x3, xf3⟩ := CBox.at_ HX1.out 3 _ rfl
      go_wp2_with (first
        | ((with_reducible refine HFR.out.mono ?_); rintro e w2 ⟨rfl, hb2⟩; have K2 := Lib.hid hb2; have HX2 := Lib.hid (HX1.out.below hb2 HX1.out.lt); clear hb2 x0 xf0 x1 xf1 x2 xf2 x3 xf3; obtain ⟨x0, xf0⟩ := CBox.at_ HX2.out 0 _ rfl; obtain ⟨x1, xf1⟩ := CBox.at_ HX2.out 1 _ rfl; obtain ⟨x2, xf2⟩ := CBox.at_ HX2.out 2 _ rfl; obtain ⟨x3, xf3⟩ := CBox.at_ HX2.out 3 _ rfl)
        | ((with_reducible refine (HC1.out w2).mono ?_); rintro e w3 ⟨ao, c, rfl, hq3, hb3⟩; have K3 := Lib.hid (K2.out.trans (hb3.mono K2.out.size)); have HQ3 := Lib.hid hq3; have HX3 := Lib.hid (HX1.out.below K3.out HX1.out.lt); clear hb3 hq3 x0 xf0 x1 xf1 x2 xf2 x3 xf3; obtain ⟨x0, xf0⟩ := CBox.at_ HX3.out 0 _ rfl; obtain ⟨x1, xf1⟩ := CBox.at_ HX3.out 1 _ rfl; obtain ⟨x2, xf2⟩ := CBox.at_ HX3.out 2 _ rfl; obtain ⟨x3, xf3⟩ := CBox.at_ HX3.out 3 _ rfl)
        | ((with_reducible refine (HC2.out w3).mono ?_); rintro e w4 ⟨ao', c', rfl, hq4, hb4⟩; have K4 := Lib.hid (K3.out.trans (hb4.mono K3.out.size)); have HQ4 := Lib.hid (And.intro (HQ3.out.mono hb4) hq4); have HX4 := Lib.hid (HX1.out.below K4.out HX1.out.lt); clear hb4 hq4 x0 xf0 x1 xf1 x2 xf2 x3 xf3; obtain ⟨x0, xf0⟩ := CBox.at_ HX4.out 0 _ rfl; obtain ⟨x1, xf1⟩ := CBox.at_ HX4.out 1 _ rfl; obtain ⟨x2, xf2⟩ := CBox.at_ HX4.out 2 _ rfl; obtain ⟨x3, xf3⟩ := CBox.at_ HX4.out 3 _ rfl)
        | ((with_reducible refine (HC3.out w4 K4.out).mono ?_); rintro e w5 ⟨rfl, hb5⟩; have K5 := Lib.hid (K4.out.trans (hb5.mono K4.out.size)); have HQ5 := Lib.hid (And.intro (HQ4.out.1.mono hb5) (HQ4.out.2.mono hb5)); have HX5 := Lib.hid (HX1.out.below K5.out HX1.out.lt); clear hb5 x0 xf0 x1 xf1 x2 xf2 x3 xf3; obtain ⟨x0, xf0⟩ := CBox.at_ HX5.out 0 _ rfl; obtain ⟨x1, xf1⟩ := CBox.at_ HX5.out 1 _ rfl; obtain ⟨x2, xf2⟩ := CBox.at_ HX5.out 2 _ rfl; obtain ⟨x3, xf3⟩ := CBox.at_ HX5.out 3 _ rfl)
        | ((with_reducible refine (HC4.out w5 K5.out).mono ?_); rintro e w6 ⟨rfl, hb6⟩; have K6 := Lib.hid (K5.out.trans (hb6.mono K5.out.size)); have HSM := Lib.hid (srecs_yes _ _ Q w6 (HQ5.out.1.mono hb6) (HQ5.out.2.mono hb6)); clear hb6 x0 xf0 x1 xf1 x2 xf2 x3 xf3)
        | ((with_reducible refine HSM.out.mono ?_); rintro e w7 ⟨rfl, hb7⟩; have K7 := Lib.hid (K6.out.trans (hb7.mono K6.out.size)); clear hb7)
        | ((with_reducible refine (HLV.out w7).mono ?_); rintro e w8 ⟨rfl, hb8⟩; have K8 := Lib.hid (K7.out.trans (hb8.mono K7.out.size)); clear hb8))
      go_ret
      exact ⟨rfl, HBB.out ▸ HB1.out.trans (K8.out.mono (Nat.le_of_lt HX1.out.lt))⟩
end Go.Proofs.Ythkogdgfkhhleaa
