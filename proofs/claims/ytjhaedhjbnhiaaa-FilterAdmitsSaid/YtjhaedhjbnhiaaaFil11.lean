/- siphonlaw11.live: some answers that the document gives. -/
import Derived.Test.YtjhaedhjbnhiaaaFil10
namespace Go.Proofs.Ytjhaedhjbnhiaaa
open Go.RowKit Go.Lib Go.Sort

theorem bstr_lit (l : Str) : bstr l = ⟨l.toArray⟩ := by
  have := bstr_of ⟨l.toArray⟩
  rw [this]

theorem strs_lit (w : World) (L : List Str) (T : TypeId) (n cap b : Nat) (cs : Array Value) (hn : n = L.length) (hb : b = w.heap.size) (hcs : cs = (L.map encStr).toArray) (hl : L.length ≤ 100) (hx : ∀ x ∈ L, x.length ≤ 100) : Strs (w.alloc (.cells cs T)) (.slice (some ⟨b, 0, none⟩) n cap) L := by
  subst hn hb hcs
  refine ⟨_, cap, w.heap.size, 0, rfl, .inr rfl, by omega, fun x h => by have := hx x h; unfold maxLen; omega, fun k hk => ⟨by simp, ?_⟩⟩
  rw [cell_alloc_new rfl (v := encStr (L.getD k [])) (by simp [List.getD_eq_getElem?_getD, hk])]

theorem or_live : sasc (([[97], [98]] ++ [[98]] : List Str).filter (pMade (pOr true [[97], [98]] false [[98]]) (true || false))) = [[97]] := by
  have : (([[97], [98]] ++ [[98]] : List Str).filter (pMade (pOr true [[97], [98]] false [[98]]) (true || false))) = [[97]] := by decide
  rw [this]
  exact sasc_of_rising (by simp)

theorem diff_live : pdiff [103] false [] true [[97]] = [(4, [103], [[97]])] := by
  unfold pdiff
  rw [if_neg (by simp), sasc_of_rising (by simp)]
  rfl

theorem check_live : chk [[98], [97]] = 3 := chk_no (k := 0) (by simp) (by decide)

set_option maxHeartbeats 4000000 in
theorem live_any (w : World) : Calls Try.prog 10 #[] w (RetV w (.bool true)) := by
  obtain ⟨W0, hW0⟩ : ∃ W0, W0 = (w.alloc (.cells #[.string ⟨#[97]⟩, .string ⟨#[98]⟩] 25)).alloc (.cells #[.string ⟨#[98]⟩] 25) := ⟨_, rfl⟩
  have hb0 : Below w.heap.size w W0 := by rw [hW0]; exact ((Below.refl _ _).alloc (Nat.le_refl _) _).alloc (by simp) _
  have hA : Strs W0 (.slice (some ⟨w.heap.size, 0, none⟩) 2 2) [[97], [98]] := by rw [hW0]; exact (strs_lit _ [[97], [98]] _ _ _ _ _ rfl rfl rfl (by simp) (by simp)).mono ((Below.refl _ _).alloc (Nat.le_refl _) _)
  have hB : Strs W0 (.slice (some ⟨w.heap.size + 1, 0, none⟩) 1 1) [[98]] := by rw [hW0]; exact strs_lit _ [[98]] _ _ _ _ _ rfl (by simp) rfl (by simp) (by simp)
  have hC := or_any true false _ _ _ _ W0 hA hB (by simp)
  rw [or_live] at hC
  have HC := Lib.hid hC
  have HB0 := Lib.hid hb0
  rw [hW0] at HC HB0
  clear hA hB hC hb0 hW0 W0
  have HD := Lib.hid (fun W v h => diff_any [103] false true (.slice none 0 0) v [] [[97]] W (by unfold maxLen; simp) (Strs.nil W) h (by simp))
  rw [diff_live, bstr_lit] at HD
  have HS := Lib.hid (fun W v u h h' => same_any true true v u [[97]] [[97]] W h h')
  rw [show (true == true && ([[97]] : List Str) == [[97]]) = true from by decide] at HS
  have HR := Lib.hid (fun W v u h h' => (samerecs_any v u [(4, [103], [[97]])] [(4, [103], [[97]])] W h h').mono fun e w' h => (show e = .returned (.bool true) ∧ Below W.heap.size W w' from ⟨h.1.trans (by simp), by obtain ⟨n, hn⟩ := h.2; rw [hn]; exact below_draws _ (Below.refl _ _) n⟩))
  have HK := Lib.hid (fun W v h => check_any false v [[98], [97]] W h)
  rw [check_live] at HK
  go_enter Try.func10, Try.ntmps10
  go_wp2_with fail
  refine HC.out.mono ?_
  rintro e w1 ⟨o, rfl, ho, hb1, _⟩
  obtain ⟨oo, oc, rfl⟩ := ho.shape
  have HB1 := Lib.hid (HB0.out.trans (hb1.mono HB0.out.size))
  have HO := Lib.hid ho
  clear hb1 ho
  go_wp2_with fail
  have B2 := (HB1.out.alloc HB1.out.size (.cells #[.bool true, .slice oo 1 oc] 24)).alloc (by have := HB1.out.size; simp; omega) (.cells #[.string ⟨#[97]⟩] 25)
  refine (HD.out _ _ (strs_lit _ [[97]] _ _ _ _ _ rfl (by simp) rfl (by simp) (by simp))).mono ?_
  rintro e w2 ⟨l, rfl, hl, hb2⟩
  obtain ⟨lo, lc, rfl⟩ := hl.shape
  have f2 := (FBox.old (FBox.new (w := w1) true (.slice oo 1 oc) rfl) (.cells #[.string ⟨#[97]⟩] 25)).below hb2 (by simp <;> omega)
  obtain ⟨x0, x1, _, _⟩ := f2.facts
  have HO2 := Lib.hid (HO.out.mono ((((Below.refl _ _).alloc (Nat.le_refl _) _).alloc (by simp) _).trans (hb2.mono (by simp <;> omega))))
  have HB2 := Lib.hid (B2.trans (hb2.mono B2.size))
  have HL2 := Lib.hid hl
  clear f2 hl hb2 B2
  go_wp2_with fail
  refine (HS.out _ _ _ (HO2.out.mono ((Below.refl _ _).alloc (Nat.le_refl _) _)) (strs_lit _ [[97]] _ _ _ _ _ rfl rfl rfl (by simp) (by simp))).mono ?_
  rintro e w3 ⟨rfl, hb3⟩
  have B3 := HB2.out.alloc HB2.out.size (.cells #[.string ⟨#[97]⟩] 25)
  have HB3 := Lib.hid (B3.trans (hb3.mono B3.size))
  have HL3 := Lib.hid (HL2.out.mono (((Below.refl _ _).alloc (Nat.le_refl _) _).trans (hb3.mono (by simp))))
  clear B3 hb3 x0 x1
  go_wp2_with fail
  have hb4 : Below w3.heap.size w3 ((w3.alloc (.cells #[.string ⟨#[97]⟩] 25)).alloc (.cells #[.int .i64 4, .string ⟨#[103]⟩, .slice (some ⟨w3.heap.size, 0, none⟩) 1 1] 41)) := ((Below.refl _ _).alloc (Nat.le_refl _) _).alloc (by simp) _
  refine (HR.out _ _ _ (HL3.out.mono hb4) (recs_one (kind := 4) (g := [103]) (s := .slice (some ⟨w3.heap.size, 0, none⟩) 1 1) (T := 41) (by rw [bstr_lit]; exact heap_new _ _ _ (by simp)) ((strs_lit w3 [[97]] _ _ _ _ _ rfl rfl rfl (by simp) (by simp)).mono ((Below.refl _ _).alloc (Nat.le_refl _) _)) (by unfold maxLen; simp) 1)).mono ?_
  rintro e w4 ⟨rfl, hb5⟩
  have B4 := HB3.out.trans (hb4.mono HB3.out.size)
  have HB4 := Lib.hid (B4.trans (hb5.mono B4.size))
  clear B4 hb4 hb5
  go_wp2_with fail
  refine (HK.out _ _ (strs_lit _ [[98], [97]] _ _ _ _ _ rfl rfl rfl (by simp) (by simp))).mono ?_
  rintro e w5 ⟨rfl, hb6⟩
  have B5 := HB4.out.alloc HB4.out.size (.cells #[.string ⟨#[98]⟩, .string ⟨#[97]⟩] 25)
  have HB5 := Lib.hid (B5.trans (hb6.mono B5.size))
  clear B5 hb6
  go_wp2
  go_ret
  exact ⟨rfl, HB5.out⟩
end Go.Proofs.Ytjhaedhjbnhiaaa
