/- igmp.Records. -/
import Derived.Test.YthkogdgfkhhleaaJRec
namespace Go.Proofs.Ythkogdgfkhhleaa
open Go.RowKit Go.Sort
set_option maxRecDepth 20000
set_option maxRecDepth 20000
attribute [local go_sem] bstr_size bstr_extract bstr_toList bstr_get

def recOf (s : Str) (size : Nat) : Rec := (((s.getD 0 0).toNat : Int), (s.drop 4).take size, srcs s (4 + size) (many s) size)
theorem precA_step (size m : Nat) (s : Str) (l : List Rec) : precA size (m + 1) s l = if recE s size = 0 then precA size m (s.drop (whole s size)) (if knownK (s.getD 0 0).toNat then l ++ [recOf s size] else l) else (recE s size, []) := by
  rw [precA]
  unfold recE
  by_cases h1 : s.length < 4 + size
  · rw [if_pos h1, if_pos h1, if_neg (by decide)]
  · rw [if_neg h1, if_neg h1]
    by_cases h2 : s.length < whole s size
    · rw [if_pos h2, if_pos (show s.length < 4 + size + numAt s 2 2 * size + 4 * (s.getD 1 0).toNat from h2), if_neg (by decide)]
    · rw [if_neg h2, if_neg (show ¬ s.length < 4 + size + numAt s 2 2 * size + 4 * (s.getD 1 0).toNat from h2)]
      by_cases h3 : 60 < many s ∨ grp ((s.drop 4).take size) size = false
      · rw [if_pos h3, if_pos (show 60 < numAt s 2 2 ∨ grp ((s.drop 4).take size) size = false from h3), if_neg (by decide)]
      · rw [if_neg h3, if_neg (show ¬ (60 < numAt s 2 2 ∨ grp ((s.drop 4).take size) size = false) from h3), if_pos rfl]
        rfl

def RetRecsE (w : World) (L : List Rec) (er : Int) (e : Ending) (w' : World) : Prop := ∃ v, e = .returned (.tuple #[v, .int .i64 er]) ∧ Row w' w.heap.size v L ∧ Below w.heap.size w w'
theorem recsNil (w w' : World) (er : Int) (hb : Below w.heap.size w w') : RetRecsE w [] er (.returned (.tuple #[.slice none 0 0, .int .i64 er])) w' := ⟨_, rfl, Row.nil _ _, hb⟩

theorem qcells_new (W : World) (k : Int) (g : Str) (ao : Option Addr) (m c : Nat) (T : TypeId) : SliceOf (W.alloc (.cells #[.int .i64 k, .string (bstr g), .slice ao m c] T)) 3 (.slice (some ⟨W.heap.size, 0, none⟩) 1 1) 1 [.int .i64 k, .string (bstr g), .slice ao m c] :=
  sliceOf_block (heap_new _ _ _ rfl) rfl (by simp [Value.oneCell'])

set_option maxHeartbeats 2000000 in
theorem records_nat (s : Str) (n size : Nat) (w : World) (hs : s.length ≤ 1000000) (hsz : size = 4 ∨ size = 16) (hn : n ≤ 30) :
    Calls Try.prog 18 #[.string (bstr s), .int .i64 n, .int .i64 size] w (RetRecsE w (precA size n s []).2 (precA size n s []).1) := by
  obtain ⟨i0, hi, hz0, hz1, hz2⟩ := info_parts infoRec
  have HSZ := Lib.hid (isSize_any size w)
  rw [show okSize (size : Int) = true from by unfold okSize; rcases hsz with rfl | rfl <;> rfl] at HSZ
  have d30 : decide ((30 : Int) < n) = false := decide_eq_false (by omega)
  have hs1 : 1 ≤ size ∧ size ≤ 16 := by omega
  have HS1 := Lib.hid hs1
  obtain ⟨P, hP⟩ : ∃ P, P = precA size n s [] := ⟨_, rfl⟩
  rw [← hP]
  have HP := Lib.hid hP
  have HS := Lib.hid (And.intro hs hn)
  clear hsz hs1 hP hs hn
  go_enter Try.func18, Try.ntmps18
  go_wp2_with ((with_reducible refine HSZ.out.mono ?_); rintro e w2 ⟨rfl, hw2⟩; subst w2)
  clear d30
  go_loopw [0, 8, 9, 10, 11, 24] (fun t l _ _ _ i wr => ∃ (k : Nat) (S : Str) (Q : List QRec), k ≤ n ∧ i = .int .i64 k ∧ t = .string (bstr S) ∧ RowQ wr w.heap.size l Q ∧ S.length ≤ s.length ∧ Q.length ≤ k ∧ P = precA size (n - k) S (Q.map qrec) ∧ Below w.heap.size w wr) (fun _ _ _ _ _ i _ => n - (RowKit.intOf i).toNat)
  case atStart => exact ⟨0, s, [], Nat.zero_le _, rfl, rfl, RowQ.nil _ _, Nat.le_refl _, Nat.le_refl _, HP.out, Below.refl _ _⟩
  case round =>
    obtain ⟨k, S, Q, hk, rfl, rfl, hrow, hSl, hQl, hPQ, hb⟩ := hrel
    obtain ⟨lo, lc, rfl⟩ := own_form hrow.1
    have HROW := Lib.hid hrow; have HB := Lib.hid hb
    have HIN := Lib.hid (And.intro hSl (And.intro hQl hPQ))
    clear hrow hb hSl hQl hPQ
    by_cases hlt : k < n
    · have HR := Lib.hid (record_any S size wr (Nat.le_trans HIN.out.1 HS.out.1) HS1.out.1 HS1.out.2)
      have HST := Lib.hid (show P = if recE S size = 0 then precA size (n - (k + 1)) (S.drop (whole S size)) (if knownK (S.getD 0 0).toNat then Q.map qrec ++ [recOf S size] else Q.map qrec) else (recE S size, []) from by
        rw [HIN.out.2.2, show n - k = n - (k + 1) + 1 from by omega, precA_step])
      obtain ⟨er, her⟩ : ∃ er, er = recE S size := ⟨_, rfl⟩
      unfold RetRec at HR
      rw [← her] at HR HST
      have HER := Lib.hid her
      by_cases h0 : er = 0
      · subst h0
        rw [if_pos rfl] at HST
        clear her
        go_upto_region 9 with ((with_reducible refine HR.out.mono ?_); rintro e w5 ⟨K, G, ao, m, c, N, rfl, hok, hb5⟩; obtain ⟨hK, hG, hst, hli, hN⟩ := hok rfl; have HB5 := Lib.hid (HB.out.trans (hb5.mono HB.out.size)); have HROW5 := Lib.hid (HROW.out.below hb5); have HV := Lib.hid (And.intro hst (And.intro hli (And.intro hK (And.intro hG hN)))); clear hok hb5 hK hG hst hli hN)
        obtain ⟨ao', cc', hsh⟩ := HV.out.1.shape
        injection hsh with e1 e2 e3
        subst e1 e2 e3
        obtain ⟨L, hL⟩ : ∃ L, L = srcs S (4 + size) (many S) size := ⟨_, rfl⟩
        rw [← hL] at HV ⊢
        obtain ⟨W6, hW6⟩ : ∃ W6, w5.alloc (.cells #[.int .i64 K, .string (bstr G), .slice ao L.length c] 57) = W6 := ⟨_, rfl⟩
        have X6 : CBox W6 w5.heap.size 57 #[.int .i64 K, .string (bstr G), .slice ao L.length c] := by rw [← hW6]; exact CBox.new _ rfl
        have hb6 : Below w5.heap.size w5 W6 := by rw [← hW6]; exact (Below.refl _ _).alloc (Nat.le_refl _) _
        rw [hW6]
        have HROW6 := Lib.hid (HROW5.out.below hb6)
        have HST6 := Lib.hid (HV.out.1.mono hb6)
        have HB6 := Lib.hid (HB5.out.trans (hb6.mono HB5.out.size))
        have HX6 := Lib.hid X6
        obtain ⟨x0, f0⟩ := X6.at_ 0 _ rfl
        obtain ⟨x1, f1⟩ := X6.at_ 1 _ rfl
        obtain ⟨x2, f2⟩ := X6.at_ 2 _ rfl
        have HKN := Lib.hid (known_any8 K W6)
        have HKK := Lib.hid (show knownI K = knownK (S.getD 0 0).toNat from by rw [HV.out.2.2.1, knownI_nat])
        have HSH := Lib.hid (show S.drop (whole S size) = S.drop (whole S size) from rfl)
        obtain ⟨Wn, hWn⟩ : ∃ Wn, Wn = whole S size := ⟨_, rfl⟩
        have hN : N = (Wn : Int) := by rw [hWn]; exact HV.out.2.2.2.2
        subst hN
        clear hb6 hW6 X6 HSH
        have HNX := Lib.hid (show S.drop Wn = S.drop (whole S size) from by rw [hWn])
        have HWL := Lib.hid (show Wn ≤ S.length from by
          have h9 : recE S size = 0 := HER.out.symm
          rw [hWn]
          unfold recE at h9
          by_cases h1 : S.length < 4 + size
          · rw [if_pos h1] at h9; exact absurd h9 (by decide)
          · rw [if_neg h1] at h9
            by_cases h2 : S.length < whole S size
            · rw [if_pos h2] at h9; exact absurd h9 (by decide)
            · exact Nat.le_of_not_lt h2)
        have hWL := Int.ofNat_le.2 HWL.out
        have htS : List.take (S.length - Wn) (S.drop Wn) = S.drop Wn := List.take_of_length_le (by rw [List.length_drop]; exact Nat.le_refl _)
        have HRO := Lib.hid (show recOf S size = (K, G, L) from by rw [hL]; unfold recOf; rw [HV.out.2.2.1, HV.out.2.2.2.1])
        have hwk : wrap64 ((k : Int) + 1) = (k : Int) + 1 := w64 _ (Int.le_add_one (Int.natCast_nonneg _)) (Int.le_trans (Int.ofNat_le.2 (Nat.succ_le_succ (Nat.le_trans (Nat.le_of_lt hlt) HS.out.2))) (by decide))
        clear hWn hL
        cases hk : knownI K
        · rw [hk] at HKN
          have HST2 := Lib.hid (show P = precA size (n - (k + 1)) (S.drop Wn) (Q.map qrec) from by
            rw [HST.out, HNX.out, if_neg (by rw [← HKK.out, hk]; decide)])
          clear hk
          go_wp2_with ((with_reducible refine HKN.out.mono ?_); rintro e w7 ⟨rfl, hw7⟩; subst w7)
          refine ⟨⟨k + 1, S.drop Wn, Q, hlt, by rw [hwk]; rfl, rfl, HROW6.out, by rw [List.length_drop]; exact Nat.le_trans (Nat.sub_le _ _) HIN.out.1, Nat.le_trans HIN.out.2.1 (Nat.le_succ k), HST2.out, HB6.out⟩, by rw [hwk]; exact meas_up n k hlt⟩
        · rw [hk] at HKN
          have HST2 := Lib.hid (show P = precA size (n - (k + 1)) (S.drop Wn) (Q.map qrec ++ [(K, G, L)]) from by
            rw [HST.out, HNX.out, if_pos (by rw [← HKK.out, hk]), HRO.out])
          have hc3 : Q.length + 1 ≤ maxLen := Nat.le_trans (Nat.succ_le_succ (Nat.le_trans HIN.out.2.1 (Nat.le_trans (Nat.le_of_lt hlt) HS.out.2))) (by decide)
          have hc4 : (Q.length + 1) * 48 ≤ 140737488355328 := Nat.le_trans (Nat.mul_le_mul_right 48 (Nat.succ_le_succ (Nat.le_trans HIN.out.2.1 (Nat.le_trans (Nat.le_of_lt hlt) HS.out.2)))) (by decide)
          have hbs : w.heap.size ≤ (W6.alloc (.cells #[.int .i64 K, .string (bstr G), .slice ao L.length c] 57)).heap.size := by rw [World.size_alloc]; exact Nat.le_succ_of_le HB6.out.size
          have HNE := Lib.hid (show L ≠ [] → (Value.slice ao L.length c).ownBlock ≠ (Value.slice lo Q.length lc).ownBlock from fun hne e => by
            obtain ⟨bb, hbb, _⟩ := HV.out.1.block hne
            have h1 := HV.out.2.1 bb hbb
            have h2 := (HROW.out.1.lt bb (e ▸ hbb)).2
            exact absurd h1 (Nat.not_le.2 h2))
          have HGL := Lib.hid (show G.length ≤ maxLen from by rw [HV.out.2.2.2.1]; exact Nat.le_trans (by rw [List.length_take]; exact Nat.min_le_left _ _) (Nat.le_trans HS1.out.2 (by decide)))
          have HLI := Lib.hid (show Lies w.heap.size (.slice ao L.length c) from HV.out.2.1.mono HB.out.size)
          clear hk
          go_wp2_with (first | ((with_reducible refine HKN.out.mono ?_); rintro e w7 ⟨rfl, hw7⟩; subst w7) | (at_builtin; refine wpList_append_vals _ rfl _ _ 25 rfl w.heap.size 57 i0 _ 3 48 Try.underlying25 hi hz0 hz1 hz2 rfl (by decide) _ _ _ rfl (HROW6.out.1.alloc _) _ 1 [.int .i64 K, .string (bstr G), .slice ao L.length c] rfl (qcells_new _ _ _ _ _ _ _) hc3 hc4 hbs ?_; intro v8 w8 ho hgr hv; obtain ⟨vo, vc, rfl⟩ := own_form ho; have HP8 := Lib.hid (HROW6.out.push_new (L := L) HST6.out HLI.out HGL.out HB6.out.size HNE.out ho hgr hv); clear ho hgr hv))
          refine ⟨⟨k + 1, S.drop Wn, Q ++ [(K, G, .slice ao L.length c, L)], hlt, by rw [hwk]; rfl, rfl, HP8.out.1, by rw [List.length_drop]; exact Nat.le_trans (Nat.sub_le _ _) HIN.out.1, by rw [List.length_append]; exact Nat.succ_le_succ HIN.out.2.1, by rw [HST2.out, List.map_append]; rfl, HB6.out.trans HP8.out.2⟩, by rw [hwk]; exact meas_up n k hlt⟩
      · have hne : (er != 0) = true := bne_iff_ne.2 h0
        rw [if_neg h0] at HST
        have HPE := Lib.hid (show P.2 = [] ∧ P.1 = er from by rw [HST.out]; exact ⟨rfl, rfl⟩)
        rw [HPE.out.1, HPE.out.2]
        clear her h0 hk
        go_wp2_with ((with_reducible refine HR.out.mono ?_); rintro e w5 ⟨K, G, ao, m, c, N, rfl, _, hb5⟩; have HB5 := Lib.hid (HB.out.trans (hb5.mono HB.out.size)); clear hb5)
        go_ret2
        exact recsNil w _ er (HB5.out.alloc HB5.out.size _)
    · obtain rfl : n = k := Nat.le_antisymm (Nat.le_of_not_lt hlt) hk
      have HPE := Lib.hid (show P = (0, Q.map qrec) from by rw [HIN.out.2.2, Nat.sub_self]; rfl)
      rw [HPE.out]
      dsimp only
      go_wp2_with fail
      go_ret2
      exact ⟨_, by rw [HPE.out]; rfl, by rw [HPE.out]; exact ⟨Q, HROW.out, rfl, Nat.le_trans HIN.out.2.1 (Nat.le_trans HS.out.2 (by decide))⟩, HB.out⟩

theorem records_any (s : Str) (n size : Int) (w : World) (hs : s.length ≤ 1000000) :
    Calls Try.prog 18 #[.string (bstr s), .int .i64 n, .int .i64 size] w (RetRecsE w (precs s n size).2 (precs s n size).1) := by
  by_cases h : n < 0 ∨ okSize size = false
  · have hP : precs s n size = (1, []) := if_pos h
    rw [hP]
    have HSZ := Lib.hid (isSize_any size w)
    by_cases h0 : n < 0
    · have d0 : decide (n < 0) = true := decide_eq_true h0
      clear h hP h0
      go_enter Try.func18, Try.ntmps18
      go_wp2_with ((with_reducible refine HSZ.out.mono ?_); rintro e w2 ⟨rfl, hw2⟩; subst w2)
      go_ret2
      exact recsNil w _ 1 (Below.refl _ _)
    · have d0 : decide (n < 0) = false := decide_eq_false h0
      rw [h.resolve_left h0] at HSZ
      clear h hP h0
      go_enter Try.func18, Try.ntmps18
      go_wp2_with ((with_reducible refine HSZ.out.mono ?_); rintro e w2 ⟨rfl, hw2⟩; subst w2)
      go_ret2
      exact recsNil w _ 1 (Below.refl _ _)
  · have h0 : ¬ n < 0 := fun e => h (.inl e)
    have hz : okSize size = true := by
      cases q : okSize size
      · exact absurd (.inr q) h
      · rfl
    obtain ⟨m, rfl⟩ := Int.eq_ofNat_of_zero_le (Int.not_lt.1 h0)
    obtain ⟨z, rfl, hz2⟩ : ∃ z : Nat, size = z ∧ (z = 4 ∨ z = 16) := by
      unfold okSize at hz
      rcases Bool.or_eq_true _ _ ▸ hz with e | e
      · exact ⟨4, of_decide_eq_true e, .inl rfl⟩
      · exact ⟨16, of_decide_eq_true e, .inr rfl⟩
    by_cases h30 : 30 < m
    · have hP : precs s m z = (3, []) := by unfold precs; rw [if_neg h, if_pos (by omega)]
      rw [hP]
      have HSZ := Lib.hid (isSize_any z w)
      rw [hz] at HSZ
      have d30 : decide ((30 : Int) < m) = true := decide_eq_true (by omega)
      have d30' : decide (30 < m) = true := decide_eq_true h30
      clear h hP h0 h30 hz
      go_enter Try.func18, Try.ntmps18
      go_wp2_with ((with_reducible refine HSZ.out.mono ?_); rintro e w2 ⟨rfl, hw2⟩; subst w2)
      go_ret2
      exact recsNil w _ 3 (Below.refl _ _)
    · have hP : precs s m z = precA z m s [] := by unfold precs; rw [if_neg h, if_neg (by omega), Int.toNat_natCast, Int.toNat_natCast]
      rw [hP]
      exact records_nat s m z w hs hz2 (by omega)
end Go.Proofs.Ythkogdgfkhhleaa
