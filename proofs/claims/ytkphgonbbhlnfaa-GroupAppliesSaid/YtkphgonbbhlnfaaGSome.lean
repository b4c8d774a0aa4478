/- siphonref17.some. -/
import Derived.Test.YtkphgonbbhlnfaaGSA
namespace Go.Proofs.Ytkphgonbbhlnfaa
open Go.RowKit Go.Lib Go.Maps Go.Sort

set_option maxRecDepth 20000 in
set_option maxHeartbeats 2000000 in
theorem some_1 (ex : Bool) (at' : Int) (v : Value) (L : List Tmd) {F : Str → Option Int} (rv : Value) (C : List Str) (m : Int) (w : World) (h : Tms w v L) (hA : Asc F L) (hr : Strs w rv C) (hL : L.length ≤ 60) (hC : C.length ≤ 60) (hm : (Lit.int .i64 m).wf = true) :
    Calls Try.prog 39 #[.agg #[.bool ex, .int .i64 at', v], .int .i64 1, rv, .int .i64 m] w (RetSA w false 0 (setF (keepF (fun _ => none) (nmL L false) F) C m) false ([])) := by
  obtain ⟨vo, vc, rfl⟩ := h.shape
  obtain ⟨ro, rc, rfl⟩ := hr.shape
  have q1 := nmL_len L false; have q2 := nmL_len L true
  have qbx := bothL_len (nmL L false) C; have qlx := lessF_len (nmL L false) C
  have qby := bothL_len (nmL L true) C; have qly := lessF_len (nmL L true) C
  have qr1 := lessF_len C (sasc (nmL L false ++ nmL L true)); have qr2 := lessF_len C (nmL L true)
  have HB := Lib.hid (Below.refl w.heap.size w)
  have TT := Lib.hid h
  have Sr := Lib.hid hr
  clear h hr
  have hb0 : Below w.heap.size w (((w.alloc (.cells #[.bool ex, .int .i64 at', .slice vo L.length vc] 24)).alloc (.cells #[.bool false, .int .i64 0, .slice none 0 0] 24)).alloc (.cells #[.bool false, .slice none 0 0] 47)) := (((Below.refl _ _).alloc (Nat.le_refl _) _).alloc (by simp) _).alloc (by simp <;> omega) _
  replace Sr := Lib.hid (Sr.out.mono hb0)
  replace TT := Lib.hid (TT.out.mono hb0)
  replace HB := Lib.hid (HB.out.trans (hb0.mono HB.out.size))
  have Xp := Lib.hid (show CBox (((w.alloc (.cells #[.bool ex, .int .i64 at', .slice vo L.length vc] 24)).alloc (.cells #[.bool false, .int .i64 0, .slice none 0 0] 24)).alloc (.cells #[.bool false, .slice none 0 0] 47)) w.heap.size 24 #[.bool ex, .int .i64 at', .slice vo L.length vc] from ((CBox.new _ rfl).old _).old _)
  have Xs := Lib.hid (show CBox (((w.alloc (.cells #[.bool ex, .int .i64 at', .slice vo L.length vc] 24)).alloc (.cells #[.bool false, .int .i64 0, .slice none 0 0] 24)).alloc (.cells #[.bool false, .slice none 0 0] 47)) (w.heap.size + 1) 24 #[.bool false, .int .i64 0, .slice none 0 0] from (CBox.new _ (by simp)).old _)
  have Xk := Lib.hid (show CBox (((w.alloc (.cells #[.bool ex, .int .i64 at', .slice vo L.length vc] 24)).alloc (.cells #[.bool false, .int .i64 0, .slice none 0 0] 24)).alloc (.cells #[.bool false, .slice none 0 0] 47)) (w.heap.size + 1 + 1) 47 #[.bool false, .slice none 0 0] from CBox.new _ (by simp))
  clear hb0
  obtain ⟨x1, x1f⟩ := Xp.out.at_ 0 (.bool ex) rfl
  obtain ⟨x2, x2f⟩ := Xp.out.at_ 1 (.int .i64 at') rfl
  obtain ⟨x3, x3f⟩ := Xp.out.at_ 2 (.slice vo L.length vc) rfl
  go_enter Try.func39, Try.ntmps39
  go_wp2_with fail
  refine (rnames_any ex at' _ L false _ TT.out).mono ?_
  try clear x1 x1f x2 x2f x3 x3f
  rintro e w1 ⟨o, rfl, ho, hb, hlo⟩
  obtain ⟨aao, aac, rfl⟩ := ho.shape
  have hza : w.heap.size + 3 ≤ (((w.alloc (.cells #[.bool ex, .int .i64 at', .slice vo L.length vc] 24)).alloc (.cells #[.bool false, .int .i64 0, .slice none 0 0] 24)).alloc (.cells #[.bool false, .slice none 0 0] 47)).heap.size := Xk.out.lt
  replace Xp := Lib.hid (Xp.out.below hb Xp.out.lt)
  replace Xs := Lib.hid (Xs.out.below hb Xs.out.lt)
  replace Xk := Lib.hid (Xk.out.below hb Xk.out.lt)
  replace Sr := Lib.hid (Sr.out.mono hb)
  replace TT := Lib.hid (TT.out.mono hb)
  replace HB := Lib.hid (HB.out.trans (hb.mono HB.out.size))
  have Sa := Lib.hid ho
  have hla := hlo
  clear hb ho hlo
  go_wp2_with fail
  refine (both_in _ _ _ _ _ Sa.out Sr.out).mono ?_
  rintro e w2 ⟨o, rfl, ho, hb, hlo⟩
  obtain ⟨cao, cac, rfl⟩ := ho.shape
  have hzc : w.heap.size + 3 ≤ w1.heap.size := Xk.out.lt
  replace Xp := Lib.hid (Xp.out.below hb Xp.out.lt)
  replace Xs := Lib.hid (Xs.out.below hb Xs.out.lt)
  replace Xk := Lib.hid (Xk.out.below hb Xk.out.lt)
  replace Sr := Lib.hid (Sr.out.mono hb)
  replace Sa := Lib.hid (Sa.out.mono hb)
  replace TT := Lib.hid (TT.out.mono hb)
  replace HB := Lib.hid (HB.out.trans (hb.mono HB.out.size))
  have Sc := Lib.hid ho
  have hlc := hlo
  clear hb ho hlo
  have hSlo : w.heap.size ≤ w2.heap.size := by have := HB.out.size; omega
  have hS3 : w.heap.size + 3 ≤ w2.heap.size := by have := Xk.out.lt; omega
  have Np : w2.heap.size ≠ w.heap.size := by omega
  have Ns : w2.heap.size ≠ w.heap.size + 1 := by omega
  have Nk : w2.heap.size ≠ w.heap.size + 1 + 1 := by omega
  have Nr := Lib.hid (Sr.out.ne_ge (b := w2.heap.size) (by omega))
  have Na := Lib.hid (Sa.out.ne_ge (b := w2.heap.size) (by omega))
  have Nc := Lib.hid (Sc.out.ne_ge (b := w2.heap.size) (by omega))
  have Mr := Lib.hid (Sr.out.ne_ge (b := w2.heap.size + 1) (by omega))
  have Ma := Lib.hid (Sa.out.ne_ge (b := w2.heap.size + 1) (by omega))
  have Mc := Lib.hid (Sc.out.ne_ge (b := w2.heap.size + 1) (by omega))
  have NTT := Lib.hid (TT.out.ne_ge (b := w2.heap.size) (by omega))
  have hb0 : Below w2.heap.size w2 ((w2.alloc (.cells #[.bool false, .int .i64 0, .slice none 0 0] 24)).alloc (.cells #[.bool false, .slice none 0 0] 47)) := ((Below.refl _ _).alloc (Nat.le_refl _) _).alloc (by simp) _
  replace Xp := Lib.hid (Xp.out.below hb0 Xp.out.lt)
  replace Xs := Lib.hid (Xs.out.below hb0 Xs.out.lt)
  replace Xk := Lib.hid (Xk.out.below hb0 Xk.out.lt)
  replace Sr := Lib.hid (Sr.out.mono hb0)
  replace Sa := Lib.hid (Sa.out.mono hb0)
  replace Sc := Lib.hid (Sc.out.mono hb0)
  replace TT := Lib.hid (TT.out.mono hb0)
  replace HB := Lib.hid (HB.out.trans (hb0.mono HB.out.size))
  have OO := Lib.hid (show StBox ((w2.alloc (.cells #[.bool false, .int .i64 0, .slice none 0 0] 24)).alloc (.cells #[.bool false, .slice none 0 0] 47)) w2.heap.size (fun b => w2.heap.size + 2 ≤ b) false 0 0 (fun _ => none) from ⟨_, [], (CBox.new _ rfl).old _, Tms.nil _, asc_nil (fun _ => rfl), Nat.le_refl _, fun h => absurd rfl h⟩)
  have Xz := Lib.hid (show CBox ((w2.alloc (.cells #[.bool false, .int .i64 0, .slice none 0 0] 24)).alloc (.cells #[.bool false, .slice none 0 0] 47)) (w2.heap.size + 1) 47 #[.bool false, .slice none 0 0] from CBox.new _ (by simp))
  have Nz : w2.heap.size ≠ w2.heap.size + 1 := by omega
  clear hb0
  obtain ⟨x4, x4f⟩ := Xp.out.at_ 0 (.bool ex) rfl
  obtain ⟨x5, x5f⟩ := Xp.out.at_ 1 (.int .i64 at') rfl
  obtain ⟨x6, x6f⟩ := Xp.out.at_ 2 (.slice vo L.length vc) rfl
  go_wp2_with fail
  refine (kept_any (fun b hb => Nat.le_trans Xz.out.lt hb) _ (nmL L false) ex at' _ L OO.out (by omega) Sa.out Na.out TT.out hA NTT.out).mono ?_
  try clear x4 x4f x5 x5f x6 x6f
  rintro e w3 ⟨rfl, hst, hg⟩
  replace Xp := Lib.hid (Xp.out.grown hg (ne_some Np))
  replace Xs := Lib.hid (Xs.out.grown hg (ne_some Ns))
  replace Xk := Lib.hid (Xk.out.grown hg (ne_some Nk))
  replace Xz := Lib.hid (Xz.out.grown hg (ne_some Nz))
  replace Sr := Lib.hid (Sr.out.grown' hg Nr.out)
  replace Sa := Lib.hid (Sa.out.grown' hg Na.out)
  replace Sc := Lib.hid (Sc.out.grown' hg Nc.out)
  replace TT := Lib.hid (TT.out.grown' hg NTT.out)
  replace HB := Lib.hid (HB.out.grown hg HB.out.size (fun j e => by injection e with e; subst e; exact hSlo))
  replace OO := Lib.hid hst
  clear hg hst
  go_wp2_with fail
  refine (all_any _ (C) m (fun b hb => Nat.le_trans Xz.out.lt hb) OO.out (by omega) Sr.out Nr.out hm).mono ?_
  rintro e w4 ⟨rfl, hst, hg⟩
  replace Xp := Lib.hid (Xp.out.grown hg (ne_some Np))
  replace Xs := Lib.hid (Xs.out.grown hg (ne_some Ns))
  replace Xk := Lib.hid (Xk.out.grown hg (ne_some Nk))
  replace Xz := Lib.hid (Xz.out.grown hg (ne_some Nz))
  replace Sr := Lib.hid (Sr.out.grown' hg Nr.out)
  replace Sa := Lib.hid (Sa.out.grown' hg Na.out)
  replace Sc := Lib.hid (Sc.out.grown' hg Nc.out)
  replace TT := Lib.hid (TT.out.grown' hg NTT.out)
  replace HB := Lib.hid (HB.out.grown hg HB.out.size (fun j e => by injection e with e; subst e; exact hSlo))
  replace OO := Lib.hid hst
  clear hg hst
  obtain ⟨v9, L9, hc9, hT9, hA9, hl9, hk9⟩ := OO.out
  obtain ⟨v9o, v9c, rfl⟩ := hT9.shape
  have C9 := Lib.hid hc9; have T9 := Lib.hid hT9; have A9 := Lib.hid hA9; have L9' := Lib.hid hl9; have K9 := Lib.hid hk9
  obtain ⟨c0, c0f⟩ := hc9.at_ 0 (.bool false) rfl
  obtain ⟨c1, c1f⟩ := hc9.at_ 1 (.int .i64 0) rfl
  obtain ⟨c2, c2f⟩ := hc9.at_ 2 (.slice v9o L9.length v9c) rfl
  obtain ⟨d0, d0f⟩ := Xz.out.at_ 0 (.bool false) rfl
  obtain ⟨d1, d1f⟩ := Xz.out.at_ 1 (.slice none 0 0) rfl
  obtain ⟨e0, e0f⟩ := Xs.out.at_ 0 (.bool false) rfl
  obtain ⟨e1, e1f⟩ := Xs.out.at_ 1 (.int .i64 0) rfl
  obtain ⟨e2, e2f⟩ := Xs.out.at_ 2 (.slice none 0 0) rfl
  obtain ⟨f0, f0f⟩ := Xk.out.at_ 0 (.bool false) rfl
  obtain ⟨f1, f1f⟩ := Xk.out.at_ 1 (.slice none 0 0) rfl
  clear hc9 hT9 hA9 hl9 hk9
  go_wp2_with fail
  go_region
  all_goals
    go_wp2_with fail
    obtain ⟨r0, r1, r2, r3, r4⟩ := boxes_end5 Xs.out Xk.out (.bool false) (.int .i64 0) (.slice v9o L9.length v9c) (.bool false) (.slice none 0 0)
    have hT := T9.out.end5' (lo := w.heap.size + 1) (fun hL b hb => by have := K9.out hL b hb; omega) (.bool false) (.int .i64 0) (.slice v9o L9.length v9c) (.bool false) (.slice none 0 0)
    have hBB := below_end5' HB.out (lo := w.heap.size + 1) (by omega) (.bool false) (.int .i64 0) (.slice v9o L9.length v9c) (.bool false) (.slice none 0 0)
    refine bodyPost_ret (v := .tuple #[.agg #[.bool false, .int .i64 0, .slice v9o L9.length v9c], .agg #[.bool false, (.slice none 0 0)]]) (by simp [results, Try.results39, go_sem, r0, r1, r2, r3, r4]) rfl ⟨_, L9, _, rfl, ?_, A9.out, ?_, ?_⟩
    · first | with_reducible exact hT | with_reducible exact hT.drew
    · exact Strs.nil _
    · first | with_reducible exact hBB | with_reducible exact hBB.drew

set_option maxRecDepth 20000 in
set_option maxHeartbeats 2000000 in
theorem some_2 (ex : Bool) (at' : Int) (v : Value) (L : List Tmd) {F : Str → Option Int} (rv : Value) (C : List Str) (m : Int) (w : World) (h : Tms w v L) (hA : Asc F L) (hr : Strs w rv C) (hL : L.length ≤ 60) (hC : C.length ≤ 60) (_hm : (Lit.int .i64 m).wf = true) :
    Calls Try.prog 39 #[.agg #[.bool ex, .int .i64 at', v], .int .i64 2, rv, .int .i64 m] w (RetSA w true m (keepF (setF (fun _ => none) C 0) (bothL (nmL L false) C) F) false ([])) := by
  obtain ⟨vo, vc, rfl⟩ := h.shape
  obtain ⟨ro, rc, rfl⟩ := hr.shape
  have q1 := nmL_len L false; have q2 := nmL_len L true
  have qbx := bothL_len (nmL L false) C; have qlx := lessF_len (nmL L false) C
  have qby := bothL_len (nmL L true) C; have qly := lessF_len (nmL L true) C
  have qr1 := lessF_len C (sasc (nmL L false ++ nmL L true)); have qr2 := lessF_len C (nmL L true)
  have HB := Lib.hid (Below.refl w.heap.size w)
  have TT := Lib.hid h
  have Sr := Lib.hid hr
  clear h hr
  have hb0 : Below w.heap.size w (((w.alloc (.cells #[.bool ex, .int .i64 at', .slice vo L.length vc] 24)).alloc (.cells #[.bool false, .int .i64 0, .slice none 0 0] 24)).alloc (.cells #[.bool false, .slice none 0 0] 47)) := (((Below.refl _ _).alloc (Nat.le_refl _) _).alloc (by simp) _).alloc (by simp <;> omega) _
  replace Sr := Lib.hid (Sr.out.mono hb0)
  replace TT := Lib.hid (TT.out.mono hb0)
  replace HB := Lib.hid (HB.out.trans (hb0.mono HB.out.size))
  have Xp := Lib.hid (show CBox (((w.alloc (.cells #[.bool ex, .int .i64 at', .slice vo L.length vc] 24)).alloc (.cells #[.bool false, .int .i64 0, .slice none 0 0] 24)).alloc (.cells #[.bool false, .slice none 0 0] 47)) w.heap.size 24 #[.bool ex, .int .i64 at', .slice vo L.length vc] from ((CBox.new _ rfl).old _).old _)
  have Xs := Lib.hid (show CBox (((w.alloc (.cells #[.bool ex, .int .i64 at', .slice vo L.length vc] 24)).alloc (.cells #[.bool false, .int .i64 0, .slice none 0 0] 24)).alloc (.cells #[.bool false, .slice none 0 0] 47)) (w.heap.size + 1) 24 #[.bool false, .int .i64 0, .slice none 0 0] from (CBox.new _ (by simp)).old _)
  have Xk := Lib.hid (show CBox (((w.alloc (.cells #[.bool ex, .int .i64 at', .slice vo L.length vc] 24)).alloc (.cells #[.bool false, .int .i64 0, .slice none 0 0] 24)).alloc (.cells #[.bool false, .slice none 0 0] 47)) (w.heap.size + 1 + 1) 47 #[.bool false, .slice none 0 0] from CBox.new _ (by simp))
  clear hb0
  obtain ⟨x1, x1f⟩ := Xp.out.at_ 0 (.bool ex) rfl
  obtain ⟨x2, x2f⟩ := Xp.out.at_ 1 (.int .i64 at') rfl
  obtain ⟨x3, x3f⟩ := Xp.out.at_ 2 (.slice vo L.length vc) rfl
  go_enter Try.func39, Try.ntmps39
  go_wp2_with fail
  refine (rnames_any ex at' _ L false _ TT.out).mono ?_
  try clear x1 x1f x2 x2f x3 x3f
  rintro e w1 ⟨o, rfl, ho, hb, hlo⟩
  obtain ⟨aao, aac, rfl⟩ := ho.shape
  have hza : w.heap.size + 3 ≤ (((w.alloc (.cells #[.bool ex, .int .i64 at', .slice vo L.length vc] 24)).alloc (.cells #[.bool false, .int .i64 0, .slice none 0 0] 24)).alloc (.cells #[.bool false, .slice none 0 0] 47)).heap.size := Xk.out.lt
  replace Xp := Lib.hid (Xp.out.below hb Xp.out.lt)
  replace Xs := Lib.hid (Xs.out.below hb Xs.out.lt)
  replace Xk := Lib.hid (Xk.out.below hb Xk.out.lt)
  replace Sr := Lib.hid (Sr.out.mono hb)
  replace TT := Lib.hid (TT.out.mono hb)
  replace HB := Lib.hid (HB.out.trans (hb.mono HB.out.size))
  have Sa := Lib.hid ho
  have hla := hlo
  clear hb ho hlo
  go_wp2_with fail
  refine (both_in _ _ _ _ _ Sa.out Sr.out).mono ?_
  rintro e w2 ⟨o, rfl, ho, hb, hlo⟩
  obtain ⟨cao, cac, rfl⟩ := ho.shape
  have hzc : w.heap.size + 3 ≤ w1.heap.size := Xk.out.lt
  replace Xp := Lib.hid (Xp.out.below hb Xp.out.lt)
  replace Xs := Lib.hid (Xs.out.below hb Xs.out.lt)
  replace Xk := Lib.hid (Xk.out.below hb Xk.out.lt)
  replace Sr := Lib.hid (Sr.out.mono hb)
  replace Sa := Lib.hid (Sa.out.mono hb)
  replace TT := Lib.hid (TT.out.mono hb)
  replace HB := Lib.hid (HB.out.trans (hb.mono HB.out.size))
  have Sc := Lib.hid ho
  have hlc := hlo
  clear hb ho hlo
  have hSlo : w.heap.size ≤ w2.heap.size := by have := HB.out.size; omega
  have hS3 : w.heap.size + 3 ≤ w2.heap.size := by have := Xk.out.lt; omega
  have Np : w2.heap.size ≠ w.heap.size := by omega
  have Ns : w2.heap.size ≠ w.heap.size + 1 := by omega
  have Nk : w2.heap.size ≠ w.heap.size + 1 + 1 := by omega
  have Nr := Lib.hid (Sr.out.ne_ge (b := w2.heap.size) (by omega))
  have Na := Lib.hid (Sa.out.ne_ge (b := w2.heap.size) (by omega))
  have Nc := Lib.hid (Sc.out.ne_ge (b := w2.heap.size) (by omega))
  have Mr := Lib.hid (Sr.out.ne_ge (b := w2.heap.size + 1) (by omega))
  have Ma := Lib.hid (Sa.out.ne_ge (b := w2.heap.size + 1) (by omega))
  have Mc := Lib.hid (Sc.out.ne_ge (b := w2.heap.size + 1) (by omega))
  have NTT := Lib.hid (TT.out.ne_ge (b := w2.heap.size) (by omega))
  have hb0 : Below w2.heap.size w2 ((w2.alloc (.cells #[.bool true, .int .i64 m, .slice none 0 0] 24)).alloc (.cells #[.bool false, .slice none 0 0] 47)) := ((Below.refl _ _).alloc (Nat.le_refl _) _).alloc (by simp) _
  replace Xp := Lib.hid (Xp.out.below hb0 Xp.out.lt)
  replace Xs := Lib.hid (Xs.out.below hb0 Xs.out.lt)
  replace Xk := Lib.hid (Xk.out.below hb0 Xk.out.lt)
  replace Sr := Lib.hid (Sr.out.mono hb0)
  replace Sa := Lib.hid (Sa.out.mono hb0)
  replace Sc := Lib.hid (Sc.out.mono hb0)
  replace TT := Lib.hid (TT.out.mono hb0)
  replace HB := Lib.hid (HB.out.trans (hb0.mono HB.out.size))
  have OO := Lib.hid (show StBox ((w2.alloc (.cells #[.bool true, .int .i64 m, .slice none 0 0] 24)).alloc (.cells #[.bool false, .slice none 0 0] 47)) w2.heap.size (fun b => w2.heap.size + 2 ≤ b) true m 0 (fun _ => none) from ⟨_, [], (CBox.new _ rfl).old _, Tms.nil _, asc_nil (fun _ => rfl), Nat.le_refl _, fun h => absurd rfl h⟩)
  have Xz := Lib.hid (show CBox ((w2.alloc (.cells #[.bool true, .int .i64 m, .slice none 0 0] 24)).alloc (.cells #[.bool false, .slice none 0 0] 47)) (w2.heap.size + 1) 47 #[.bool false, .slice none 0 0] from CBox.new _ (by simp))
  have Nz : w2.heap.size ≠ w2.heap.size + 1 := by omega
  clear hb0
  obtain ⟨x4, x4f⟩ := Xp.out.at_ 0 (.bool ex) rfl
  obtain ⟨x5, x5f⟩ := Xp.out.at_ 1 (.int .i64 at') rfl
  obtain ⟨x6, x6f⟩ := Xp.out.at_ 2 (.slice vo L.length vc) rfl
  go_wp2_with fail
  refine (all_any _ (C) 0 (fun b hb => Nat.le_trans Xz.out.lt hb) OO.out (by omega) Sr.out Nr.out rfl).mono ?_
  try clear x4 x4f x5 x5f x6 x6f
  rintro e w3 ⟨rfl, hst, hg⟩
  replace Xp := Lib.hid (Xp.out.grown hg (ne_some Np))
  replace Xs := Lib.hid (Xs.out.grown hg (ne_some Ns))
  replace Xk := Lib.hid (Xk.out.grown hg (ne_some Nk))
  replace Xz := Lib.hid (Xz.out.grown hg (ne_some Nz))
  replace Sr := Lib.hid (Sr.out.grown' hg Nr.out)
  replace Sa := Lib.hid (Sa.out.grown' hg Na.out)
  replace Sc := Lib.hid (Sc.out.grown' hg Nc.out)
  replace TT := Lib.hid (TT.out.grown' hg NTT.out)
  replace HB := Lib.hid (HB.out.grown hg HB.out.size (fun j e => by injection e with e; subst e; exact hSlo))
  replace OO := Lib.hid hst
  clear hg hst
  obtain ⟨x7, x7f⟩ := Xp.out.at_ 0 (.bool ex) rfl
  obtain ⟨x8, x8f⟩ := Xp.out.at_ 1 (.int .i64 at') rfl
  obtain ⟨x9, x9f⟩ := Xp.out.at_ 2 (.slice vo L.length vc) rfl
  go_wp2_with fail
  refine (kept_any (fun b hb => Nat.le_trans Xz.out.lt hb) _ (bothL (nmL L false) C) ex at' _ L OO.out (by omega) Sc.out Nc.out TT.out hA NTT.out).mono ?_
  try clear x7 x7f x8 x8f x9 x9f
  rintro e w4 ⟨rfl, hst, hg⟩
  replace Xp := Lib.hid (Xp.out.grown hg (ne_some Np))
  replace Xs := Lib.hid (Xs.out.grown hg (ne_some Ns))
  replace Xk := Lib.hid (Xk.out.grown hg (ne_some Nk))
  replace Xz := Lib.hid (Xz.out.grown hg (ne_some Nz))
  replace Sr := Lib.hid (Sr.out.grown' hg Nr.out)
  replace Sa := Lib.hid (Sa.out.grown' hg Na.out)
  replace Sc := Lib.hid (Sc.out.grown' hg Nc.out)
  replace TT := Lib.hid (TT.out.grown' hg NTT.out)
  replace HB := Lib.hid (HB.out.grown hg HB.out.size (fun j e => by injection e with e; subst e; exact hSlo))
  replace OO := Lib.hid hst
  clear hg hst
  obtain ⟨v9, L9, hc9, hT9, hA9, hl9, hk9⟩ := OO.out
  obtain ⟨v9o, v9c, rfl⟩ := hT9.shape
  have C9 := Lib.hid hc9; have T9 := Lib.hid hT9; have A9 := Lib.hid hA9; have L9' := Lib.hid hl9; have K9 := Lib.hid hk9
  obtain ⟨c0, c0f⟩ := hc9.at_ 0 (.bool true) rfl
  obtain ⟨c1, c1f⟩ := hc9.at_ 1 (.int .i64 m) rfl
  obtain ⟨c2, c2f⟩ := hc9.at_ 2 (.slice v9o L9.length v9c) rfl
  obtain ⟨d0, d0f⟩ := Xz.out.at_ 0 (.bool false) rfl
  obtain ⟨d1, d1f⟩ := Xz.out.at_ 1 (.slice none 0 0) rfl
  obtain ⟨e0, e0f⟩ := Xs.out.at_ 0 (.bool false) rfl
  obtain ⟨e1, e1f⟩ := Xs.out.at_ 1 (.int .i64 0) rfl
  obtain ⟨e2, e2f⟩ := Xs.out.at_ 2 (.slice none 0 0) rfl
  obtain ⟨f0, f0f⟩ := Xk.out.at_ 0 (.bool false) rfl
  obtain ⟨f1, f1f⟩ := Xk.out.at_ 1 (.slice none 0 0) rfl
  clear hc9 hT9 hA9 hl9 hk9
  go_wp2_with fail
  go_region
  all_goals
    go_wp2_with fail
    obtain ⟨r0, r1, r2, r3, r4⟩ := boxes_end5 Xs.out Xk.out (.bool true) (.int .i64 m) (.slice v9o L9.length v9c) (.bool false) (.slice none 0 0)
    have hT := T9.out.end5' (lo := w.heap.size + 1) (fun hL b hb => by have := K9.out hL b hb; omega) (.bool true) (.int .i64 m) (.slice v9o L9.length v9c) (.bool false) (.slice none 0 0)
    have hBB := below_end5' HB.out (lo := w.heap.size + 1) (by omega) (.bool true) (.int .i64 m) (.slice v9o L9.length v9c) (.bool false) (.slice none 0 0)
    refine bodyPost_ret (v := .tuple #[.agg #[.bool true, .int .i64 m, .slice v9o L9.length v9c], .agg #[.bool false, (.slice none 0 0)]]) (by simp [results, Try.results39, go_sem, r0, r1, r2, r3, r4]) rfl ⟨_, L9, _, rfl, ?_, A9.out, ?_, ?_⟩
    · first | with_reducible exact hT | with_reducible exact hT.drew
    · exact Strs.nil _
    · first | with_reducible exact hBB | with_reducible exact hBB.drew

set_option maxRecDepth 20000 in
set_option maxHeartbeats 2000000 in
theorem some_3 (ex : Bool) (at' : Int) (v : Value) (L : List Tmd) {F : Str → Option Int} (rv : Value) (C : List Str) (m : Int) (w : World) (h : Tms w v L) (hA : Asc F L) (hr : Strs w rv C) (hL : L.length ≤ 60) (hC : C.length ≤ 60) (hm : (Lit.int .i64 m).wf = true) :
    Calls Try.prog 39 #[.agg #[.bool ex, .int .i64 at', v], .int .i64 3, rv, .int .i64 m] w (RetSA w false 0 (setF (keepF (fun _ => none) (nmL L false) F) C m) false (lessF (nmL L false) C)) := by
  obtain ⟨vo, vc, rfl⟩ := h.shape
  obtain ⟨ro, rc, rfl⟩ := hr.shape
  have q1 := nmL_len L false; have q2 := nmL_len L true
  have qbx := bothL_len (nmL L false) C; have qlx := lessF_len (nmL L false) C
  have qby := bothL_len (nmL L true) C; have qly := lessF_len (nmL L true) C
  have qr1 := lessF_len C (sasc (nmL L false ++ nmL L true)); have qr2 := lessF_len C (nmL L true)
  have HB := Lib.hid (Below.refl w.heap.size w)
  have TT := Lib.hid h
  have Sr := Lib.hid hr
  clear h hr
  have hb0 : Below w.heap.size w (((w.alloc (.cells #[.bool ex, .int .i64 at', .slice vo L.length vc] 24)).alloc (.cells #[.bool false, .int .i64 0, .slice none 0 0] 24)).alloc (.cells #[.bool false, .slice none 0 0] 47)) := (((Below.refl _ _).alloc (Nat.le_refl _) _).alloc (by simp) _).alloc (by simp <;> omega) _
  replace Sr := Lib.hid (Sr.out.mono hb0)
  replace TT := Lib.hid (TT.out.mono hb0)
  replace HB := Lib.hid (HB.out.trans (hb0.mono HB.out.size))
  have Xp := Lib.hid (show CBox (((w.alloc (.cells #[.bool ex, .int .i64 at', .slice vo L.length vc] 24)).alloc (.cells #[.bool false, .int .i64 0, .slice none 0 0] 24)).alloc (.cells #[.bool false, .slice none 0 0] 47)) w.heap.size 24 #[.bool ex, .int .i64 at', .slice vo L.length vc] from ((CBox.new _ rfl).old _).old _)
  have Xs := Lib.hid (show CBox (((w.alloc (.cells #[.bool ex, .int .i64 at', .slice vo L.length vc] 24)).alloc (.cells #[.bool false, .int .i64 0, .slice none 0 0] 24)).alloc (.cells #[.bool false, .slice none 0 0] 47)) (w.heap.size + 1) 24 #[.bool false, .int .i64 0, .slice none 0 0] from (CBox.new _ (by simp)).old _)
  have Xk := Lib.hid (show CBox (((w.alloc (.cells #[.bool ex, .int .i64 at', .slice vo L.length vc] 24)).alloc (.cells #[.bool false, .int .i64 0, .slice none 0 0] 24)).alloc (.cells #[.bool false, .slice none 0 0] 47)) (w.heap.size + 1 + 1) 47 #[.bool false, .slice none 0 0] from CBox.new _ (by simp))
  clear hb0
  obtain ⟨x1, x1f⟩ := Xp.out.at_ 0 (.bool ex) rfl
  obtain ⟨x2, x2f⟩ := Xp.out.at_ 1 (.int .i64 at') rfl
  obtain ⟨x3, x3f⟩ := Xp.out.at_ 2 (.slice vo L.length vc) rfl
  go_enter Try.func39, Try.ntmps39
  go_wp2_with fail
  refine (rnames_any ex at' _ L false _ TT.out).mono ?_
  try clear x1 x1f x2 x2f x3 x3f
  rintro e w1 ⟨o, rfl, ho, hb, hlo⟩
  obtain ⟨aao, aac, rfl⟩ := ho.shape
  have hza : w.heap.size + 3 ≤ (((w.alloc (.cells #[.bool ex, .int .i64 at', .slice vo L.length vc] 24)).alloc (.cells #[.bool false, .int .i64 0, .slice none 0 0] 24)).alloc (.cells #[.bool false, .slice none 0 0] 47)).heap.size := Xk.out.lt
  replace Xp := Lib.hid (Xp.out.below hb Xp.out.lt)
  replace Xs := Lib.hid (Xs.out.below hb Xs.out.lt)
  replace Xk := Lib.hid (Xk.out.below hb Xk.out.lt)
  replace Sr := Lib.hid (Sr.out.mono hb)
  replace TT := Lib.hid (TT.out.mono hb)
  replace HB := Lib.hid (HB.out.trans (hb.mono HB.out.size))
  have Sa := Lib.hid ho
  have hla := hlo
  clear hb ho hlo
  go_wp2_with fail
  refine (both_in _ _ _ _ _ Sa.out Sr.out).mono ?_
  rintro e w2 ⟨o, rfl, ho, hb, hlo⟩
  obtain ⟨cao, cac, rfl⟩ := ho.shape
  have hzc : w.heap.size + 3 ≤ w1.heap.size := Xk.out.lt
  replace Xp := Lib.hid (Xp.out.below hb Xp.out.lt)
  replace Xs := Lib.hid (Xs.out.below hb Xs.out.lt)
  replace Xk := Lib.hid (Xk.out.below hb Xk.out.lt)
  replace Sr := Lib.hid (Sr.out.mono hb)
  replace Sa := Lib.hid (Sa.out.mono hb)
  replace TT := Lib.hid (TT.out.mono hb)
  replace HB := Lib.hid (HB.out.trans (hb.mono HB.out.size))
  have Sc := Lib.hid ho
  have hlc := hlo
  clear hb ho hlo
  have hSlo : w.heap.size ≤ w2.heap.size := by have := HB.out.size; omega
  have hS3 : w.heap.size + 3 ≤ w2.heap.size := by have := Xk.out.lt; omega
  have Np : w2.heap.size ≠ w.heap.size := by omega
  have Ns : w2.heap.size ≠ w.heap.size + 1 := by omega
  have Nk : w2.heap.size ≠ w.heap.size + 1 + 1 := by omega
  have Nr := Lib.hid (Sr.out.ne_ge (b := w2.heap.size) (by omega))
  have Na := Lib.hid (Sa.out.ne_ge (b := w2.heap.size) (by omega))
  have Nc := Lib.hid (Sc.out.ne_ge (b := w2.heap.size) (by omega))
  have Mr := Lib.hid (Sr.out.ne_ge (b := w2.heap.size + 1) (by omega))
  have Ma := Lib.hid (Sa.out.ne_ge (b := w2.heap.size + 1) (by omega))
  have Mc := Lib.hid (Sc.out.ne_ge (b := w2.heap.size + 1) (by omega))
  have NTT := Lib.hid (TT.out.ne_ge (b := w2.heap.size) (by omega))
  have hb0 : Below w2.heap.size w2 ((w2.alloc (.cells #[.bool false, .int .i64 0, .slice none 0 0] 24)).alloc (.cells #[.bool false, .slice none 0 0] 47)) := ((Below.refl _ _).alloc (Nat.le_refl _) _).alloc (by simp) _
  replace Xp := Lib.hid (Xp.out.below hb0 Xp.out.lt)
  replace Xs := Lib.hid (Xs.out.below hb0 Xs.out.lt)
  replace Xk := Lib.hid (Xk.out.below hb0 Xk.out.lt)
  replace Sr := Lib.hid (Sr.out.mono hb0)
  replace Sa := Lib.hid (Sa.out.mono hb0)
  replace Sc := Lib.hid (Sc.out.mono hb0)
  replace TT := Lib.hid (TT.out.mono hb0)
  replace HB := Lib.hid (HB.out.trans (hb0.mono HB.out.size))
  have OO := Lib.hid (show StBox ((w2.alloc (.cells #[.bool false, .int .i64 0, .slice none 0 0] 24)).alloc (.cells #[.bool false, .slice none 0 0] 47)) w2.heap.size (fun b => w2.heap.size + 2 ≤ b) false 0 0 (fun _ => none) from ⟨_, [], (CBox.new _ rfl).old _, Tms.nil _, asc_nil (fun _ => rfl), Nat.le_refl _, fun h => absurd rfl h⟩)
  have Xz := Lib.hid (show CBox ((w2.alloc (.cells #[.bool false, .int .i64 0, .slice none 0 0] 24)).alloc (.cells #[.bool false, .slice none 0 0] 47)) (w2.heap.size + 1) 47 #[.bool false, .slice none 0 0] from CBox.new _ (by simp))
  have Nz : w2.heap.size ≠ w2.heap.size + 1 := by omega
  clear hb0
  obtain ⟨x4, x4f⟩ := Xp.out.at_ 0 (.bool ex) rfl
  obtain ⟨x5, x5f⟩ := Xp.out.at_ 1 (.int .i64 at') rfl
  obtain ⟨x6, x6f⟩ := Xp.out.at_ 2 (.slice vo L.length vc) rfl
  go_wp2_with fail
  refine (kept_any (fun b hb => Nat.le_trans Xz.out.lt hb) _ (nmL L false) ex at' _ L OO.out (by omega) Sa.out Na.out TT.out hA NTT.out).mono ?_
  try clear x4 x4f x5 x5f x6 x6f
  rintro e w3 ⟨rfl, hst, hg⟩
  replace Xp := Lib.hid (Xp.out.grown hg (ne_some Np))
  replace Xs := Lib.hid (Xs.out.grown hg (ne_some Ns))
  replace Xk := Lib.hid (Xk.out.grown hg (ne_some Nk))
  replace Xz := Lib.hid (Xz.out.grown hg (ne_some Nz))
  replace Sr := Lib.hid (Sr.out.grown' hg Nr.out)
  replace Sa := Lib.hid (Sa.out.grown' hg Na.out)
  replace Sc := Lib.hid (Sc.out.grown' hg Nc.out)
  replace TT := Lib.hid (TT.out.grown' hg NTT.out)
  replace HB := Lib.hid (HB.out.grown hg HB.out.size (fun j e => by injection e with e; subst e; exact hSlo))
  replace OO := Lib.hid hst
  clear hg hst
  go_wp2_with fail
  refine (all_any _ (C) m (fun b hb => Nat.le_trans Xz.out.lt hb) OO.out (by omega) Sr.out Nr.out hm).mono ?_
  rintro e w4 ⟨rfl, hst, hg⟩
  replace Xp := Lib.hid (Xp.out.grown hg (ne_some Np))
  replace Xs := Lib.hid (Xs.out.grown hg (ne_some Ns))
  replace Xk := Lib.hid (Xk.out.grown hg (ne_some Nk))
  replace Xz := Lib.hid (Xz.out.grown hg (ne_some Nz))
  replace Sr := Lib.hid (Sr.out.grown' hg Nr.out)
  replace Sa := Lib.hid (Sa.out.grown' hg Na.out)
  replace Sc := Lib.hid (Sc.out.grown' hg Nc.out)
  replace TT := Lib.hid (TT.out.grown' hg NTT.out)
  replace HB := Lib.hid (HB.out.grown hg HB.out.size (fun j e => by injection e with e; subst e; exact hSlo))
  replace OO := Lib.hid hst
  clear hg hst
  go_wp2_with fail
  refine (less_in _ _ _ _ _ Sa.out Sr.out).mono ?_
  rintro e w5 ⟨o, rfl, ho, hb, hlo⟩
  obtain ⟨dao, dac, rfl⟩ := ho.shape
  have Nd := Lib.hid (show (lessF (nmL L false) C) ≠ [] → (Value.slice dao (lessF (nmL L false) C).length dac).ownBlock ≠ some w2.heap.size from fun _ => hlo.ne OO.out.lt)
  have hzd : w.heap.size + 3 ≤ w4.heap.size := Xk.out.lt
  have Md := Lib.hid (show (lessF (nmL L false) C) ≠ [] → (Value.slice dao (lessF (nmL L false) C).length dac).ownBlock ≠ some (w2.heap.size + 1) from fun _ => hlo.ne Xz.out.lt)
  replace Xp := Lib.hid (Xp.out.below hb Xp.out.lt)
  replace Xs := Lib.hid (Xs.out.below hb Xs.out.lt)
  replace Xk := Lib.hid (Xk.out.below hb Xk.out.lt)
  replace Xz := Lib.hid (Xz.out.below hb Xz.out.lt)
  replace Sr := Lib.hid (Sr.out.mono hb)
  replace Sa := Lib.hid (Sa.out.mono hb)
  replace Sc := Lib.hid (Sc.out.mono hb)
  replace TT := Lib.hid (TT.out.mono hb)
  replace OO := Lib.hid (OO.out.mono hb)
  replace HB := Lib.hid (HB.out.trans (hb.mono HB.out.size))
  have Sd := Lib.hid ho
  have hld := hlo
  clear hb ho hlo
  obtain ⟨vq7, Lq7, hq7, hT7, _⟩ := OO.out
  obtain ⟨vq7o, vq7c, rfl⟩ := hT7.shape
  obtain ⟨x7a, x7af⟩ := hq7.at_ 0 (.bool false) rfl
  obtain ⟨x7b, x7bf⟩ := hq7.at_ 1 (.int .i64 0) rfl
  obtain ⟨x7c, x7cf⟩ := hq7.at_ 2 (.slice vq7o Lq7.length vq7c) rfl
  obtain ⟨x8, x8f⟩ := Xz.out.at_ 0 (.bool false) rfl
  obtain ⟨x9, x9f⟩ := Xz.out.at_ 1 (.slice none 0 0) rfl
  replace Xp := Lib.hid (Xp.out.far (p := ⟨w2.heap.size + 1, 1, none⟩) (by simp <;> omega) (.slice dao (lessF (nmL L false) C).length dac))
  replace Xs := Lib.hid (Xs.out.far (p := ⟨w2.heap.size + 1, 1, none⟩) (by simp <;> omega) (.slice dao (lessF (nmL L false) C).length dac))
  replace Xk := Lib.hid (Xk.out.far (p := ⟨w2.heap.size + 1, 1, none⟩) (by simp <;> omega) (.slice dao (lessF (nmL L false) C).length dac))
  replace Xz := Lib.hid (show CBox (w5.setCell ⟨w2.heap.size + 1, 1, none⟩ (.slice dao (lessF (nmL L false) C).length dac)) (w2.heap.size + 1) 47 #[.bool false, .slice dao (lessF (nmL L false) C).length dac] from by simpa using Xz.out.set 1 (.slice dao (lessF (nmL L false) C).length dac))
  clear Sr
  clear Sa
  clear Sc
  replace Sd := Lib.hid (Sd.out.apart' (p := ⟨w2.heap.size + 1, 1, none⟩) (fun hL b hb e => Md.out hL (hb.trans (congrArg some e))) (.slice dao (lessF (nmL L false) C).length dac))
  replace OO := Lib.hid (OO.out.far (p := ⟨w2.heap.size + 1, 1, none⟩) (by simp) (fun b hb => by simp; omega) (.slice dao (lessF (nmL L false) C).length dac))
  replace HB := Lib.hid (HB.out.setCell (p := ⟨w2.heap.size + 1, 1, none⟩) (by simp <;> omega) (.slice dao (lessF (nmL L false) C).length dac))
  obtain ⟨v9, L9, hc9, hT9, hA9, hl9, hk9⟩ := OO.out
  obtain ⟨v9o, v9c, rfl⟩ := hT9.shape
  have C9 := Lib.hid hc9; have T9 := Lib.hid hT9; have A9 := Lib.hid hA9; have L9' := Lib.hid hl9; have K9 := Lib.hid hk9
  obtain ⟨c0, c0f⟩ := hc9.at_ 0 (.bool false) rfl
  obtain ⟨c1, c1f⟩ := hc9.at_ 1 (.int .i64 0) rfl
  obtain ⟨c2, c2f⟩ := hc9.at_ 2 (.slice v9o L9.length v9c) rfl
  obtain ⟨d0, d0f⟩ := Xz.out.at_ 0 (.bool false) rfl
  obtain ⟨d1, d1f⟩ := Xz.out.at_ 1 (.slice dao (lessF (nmL L false) C).length dac) rfl
  obtain ⟨e0, e0f⟩ := Xs.out.at_ 0 (.bool false) rfl
  obtain ⟨e1, e1f⟩ := Xs.out.at_ 1 (.int .i64 0) rfl
  obtain ⟨e2, e2f⟩ := Xs.out.at_ 2 (.slice none 0 0) rfl
  obtain ⟨f0, f0f⟩ := Xk.out.at_ 0 (.bool false) rfl
  obtain ⟨f1, f1f⟩ := Xk.out.at_ 1 (.slice none 0 0) rfl
  clear hc9 hT9 hA9 hl9 hk9
  go_wp2_with fail
  go_region
  all_goals
    go_wp2_with fail
    obtain ⟨r0, r1, r2, r3, r4⟩ := boxes_end5 Xs.out Xk.out (.bool false) (.int .i64 0) (.slice v9o L9.length v9c) (.bool false) (.slice dao (lessF (nmL L false) C).length dac)
    have hT := T9.out.end5' (lo := w.heap.size + 1) (fun hL b hb => by have := K9.out hL b hb; omega) (.bool false) (.int .i64 0) (.slice v9o L9.length v9c) (.bool false) (.slice dao (lessF (nmL L false) C).length dac)
    have hU := Sd.out.end5' (lo := w.heap.size + 1) (fun hL b hb => by have := hld b hb; have := hzd; omega) (.bool false) (.int .i64 0) (.slice v9o L9.length v9c) (.bool false) (.slice dao (lessF (nmL L false) C).length dac)
    have hBB := below_end5' HB.out (lo := w.heap.size + 1) (by omega) (.bool false) (.int .i64 0) (.slice v9o L9.length v9c) (.bool false) (.slice dao (lessF (nmL L false) C).length dac)
    refine bodyPost_ret (v := .tuple #[.agg #[.bool false, .int .i64 0, .slice v9o L9.length v9c], .agg #[.bool false, (.slice dao (lessF (nmL L false) C).length dac)]]) (by simp [results, Try.results39, go_sem, r0, r1, r2, r3, r4]) rfl ⟨_, L9, _, rfl, ?_, A9.out, ?_, ?_⟩
    · first | with_reducible exact hT | with_reducible exact hT.drew
    · first | with_reducible exact hU | with_reducible exact hU.drew
    · first | with_reducible exact hBB | with_reducible exact hBB.drew

set_option maxRecDepth 20000 in
set_option maxHeartbeats 2000000 in
theorem some_4 (ex : Bool) (at' : Int) (v : Value) (L : List Tmd) {F : Str → Option Int} (rv : Value) (C : List Str) (m : Int) (w : World) (h : Tms w v L) (hA : Asc F L) (hr : Strs w rv C) (hL : L.length ≤ 60) (hC : C.length ≤ 60) (_hm : (Lit.int .i64 m).wf = true) :
    Calls Try.prog 39 #[.agg #[.bool ex, .int .i64 at', v], .int .i64 4, rv, .int .i64 m] w (RetSA w true m (keepF (setF (fun _ => none) C 0) (bothL (nmL L false) C) F) false (bothL (nmL L false) C)) := by
  obtain ⟨vo, vc, rfl⟩ := h.shape
  obtain ⟨ro, rc, rfl⟩ := hr.shape
  have q1 := nmL_len L false; have q2 := nmL_len L true
  have qbx := bothL_len (nmL L false) C; have qlx := lessF_len (nmL L false) C
  have qby := bothL_len (nmL L true) C; have qly := lessF_len (nmL L true) C
  have qr1 := lessF_len C (sasc (nmL L false ++ nmL L true)); have qr2 := lessF_len C (nmL L true)
  have HB := Lib.hid (Below.refl w.heap.size w)
  have TT := Lib.hid h
  have Sr := Lib.hid hr
  clear h hr
  have hb0 : Below w.heap.size w (((w.alloc (.cells #[.bool ex, .int .i64 at', .slice vo L.length vc] 24)).alloc (.cells #[.bool false, .int .i64 0, .slice none 0 0] 24)).alloc (.cells #[.bool false, .slice none 0 0] 47)) := (((Below.refl _ _).alloc (Nat.le_refl _) _).alloc (by simp) _).alloc (by simp <;> omega) _
  replace Sr := Lib.hid (Sr.out.mono hb0)
  replace TT := Lib.hid (TT.out.mono hb0)
  replace HB := Lib.hid (HB.out.trans (hb0.mono HB.out.size))
  have Xp := Lib.hid (show CBox (((w.alloc (.cells #[.bool ex, .int .i64 at', .slice vo L.length vc] 24)).alloc (.cells #[.bool false, .int .i64 0, .slice none 0 0] 24)).alloc (.cells #[.bool false, .slice none 0 0] 47)) w.heap.size 24 #[.bool ex, .int .i64 at', .slice vo L.length vc] from ((CBox.new _ rfl).old _).old _)
  have Xs := Lib.hid (show CBox (((w.alloc (.cells #[.bool ex, .int .i64 at', .slice vo L.length vc] 24)).alloc (.cells #[.bool false, .int .i64 0, .slice none 0 0] 24)).alloc (.cells #[.bool false, .slice none 0 0] 47)) (w.heap.size + 1) 24 #[.bool false, .int .i64 0, .slice none 0 0] from (CBox.new _ (by simp)).old _)
  have Xk := Lib.hid (show CBox (((w.alloc (.cells #[.bool ex, .int .i64 at', .slice vo L.length vc] 24)).alloc (.cells #[.bool false, .int .i64 0, .slice none 0 0] 24)).alloc (.cells #[.bool false, .slice none 0 0] 47)) (w.heap.size + 1 + 1) 47 #[.bool false, .slice none 0 0] from CBox.new _ (by simp))
  clear hb0
  obtain ⟨x1, x1f⟩ := Xp.out.at_ 0 (.bool ex) rfl
  obtain ⟨x2, x2f⟩ := Xp.out.at_ 1 (.int .i64 at') rfl
  obtain ⟨x3, x3f⟩ := Xp.out.at_ 2 (.slice vo L.length vc) rfl
  go_enter Try.func39, Try.ntmps39
  go_wp2_with fail
  refine (rnames_any ex at' _ L false _ TT.out).mono ?_
  try clear x1 x1f x2 x2f x3 x3f
  rintro e w1 ⟨o, rfl, ho, hb, hlo⟩
  obtain ⟨aao, aac, rfl⟩ := ho.shape
  have hza : w.heap.size + 3 ≤ (((w.alloc (.cells #[.bool ex, .int .i64 at', .slice vo L.length vc] 24)).alloc (.cells #[.bool false, .int .i64 0, .slice none 0 0] 24)).alloc (.cells #[.bool false, .slice none 0 0] 47)).heap.size := Xk.out.lt
  replace Xp := Lib.hid (Xp.out.below hb Xp.out.lt)
  replace Xs := Lib.hid (Xs.out.below hb Xs.out.lt)
  replace Xk := Lib.hid (Xk.out.below hb Xk.out.lt)
  replace Sr := Lib.hid (Sr.out.mono hb)
  replace TT := Lib.hid (TT.out.mono hb)
  replace HB := Lib.hid (HB.out.trans (hb.mono HB.out.size))
  have Sa := Lib.hid ho
  have hla := hlo
  clear hb ho hlo
  go_wp2_with fail
  refine (both_in _ _ _ _ _ Sa.out Sr.out).mono ?_
  rintro e w2 ⟨o, rfl, ho, hb, hlo⟩
  obtain ⟨cao, cac, rfl⟩ := ho.shape
  have hzc : w.heap.size + 3 ≤ w1.heap.size := Xk.out.lt
  replace Xp := Lib.hid (Xp.out.below hb Xp.out.lt)
  replace Xs := Lib.hid (Xs.out.below hb Xs.out.lt)
  replace Xk := Lib.hid (Xk.out.below hb Xk.out.lt)
  replace Sr := Lib.hid (Sr.out.mono hb)
  replace Sa := Lib.hid (Sa.out.mono hb)
  replace TT := Lib.hid (TT.out.mono hb)
  replace HB := Lib.hid (HB.out.trans (hb.mono HB.out.size))
  have Sc := Lib.hid ho
  have hlc := hlo
  clear hb ho hlo
  have hSlo : w.heap.size ≤ w2.heap.size := by have := HB.out.size; omega
  have hS3 : w.heap.size + 3 ≤ w2.heap.size := by have := Xk.out.lt; omega
  have Np : w2.heap.size ≠ w.heap.size := by omega
  have Ns : w2.heap.size ≠ w.heap.size + 1 := by omega
  have Nk : w2.heap.size ≠ w.heap.size + 1 + 1 := by omega
  have Nr := Lib.hid (Sr.out.ne_ge (b := w2.heap.size) (by omega))
  have Na := Lib.hid (Sa.out.ne_ge (b := w2.heap.size) (by omega))
  have Nc := Lib.hid (Sc.out.ne_ge (b := w2.heap.size) (by omega))
  have Mr := Lib.hid (Sr.out.ne_ge (b := w2.heap.size + 1) (by omega))
  have Ma := Lib.hid (Sa.out.ne_ge (b := w2.heap.size + 1) (by omega))
  have Mc := Lib.hid (Sc.out.ne_ge (b := w2.heap.size + 1) (by omega))
  have NTT := Lib.hid (TT.out.ne_ge (b := w2.heap.size) (by omega))
  have hb0 : Below w2.heap.size w2 ((w2.alloc (.cells #[.bool true, .int .i64 m, .slice none 0 0] 24)).alloc (.cells #[.bool false, .slice none 0 0] 47)) := ((Below.refl _ _).alloc (Nat.le_refl _) _).alloc (by simp) _
  replace Xp := Lib.hid (Xp.out.below hb0 Xp.out.lt)
  replace Xs := Lib.hid (Xs.out.below hb0 Xs.out.lt)
  replace Xk := Lib.hid (Xk.out.below hb0 Xk.out.lt)
  replace Sr := Lib.hid (Sr.out.mono hb0)
  replace Sa := Lib.hid (Sa.out.mono hb0)
  replace Sc := Lib.hid (Sc.out.mono hb0)
  replace TT := Lib.hid (TT.out.mono hb0)
  replace HB := Lib.hid (HB.out.trans (hb0.mono HB.out.size))
  have OO := Lib.hid (show StBox ((w2.alloc (.cells #[.bool true, .int .i64 m, .slice none 0 0] 24)).alloc (.cells #[.bool false, .slice none 0 0] 47)) w2.heap.size (fun b => w2.heap.size + 2 ≤ b) true m 0 (fun _ => none) from ⟨_, [], (CBox.new _ rfl).old _, Tms.nil _, asc_nil (fun _ => rfl), Nat.le_refl _, fun h => absurd rfl h⟩)
  have Xz := Lib.hid (show CBox ((w2.alloc (.cells #[.bool true, .int .i64 m, .slice none 0 0] 24)).alloc (.cells #[.bool false, .slice none 0 0] 47)) (w2.heap.size + 1) 47 #[.bool false, .slice none 0 0] from CBox.new _ (by simp))
  have Nz : w2.heap.size ≠ w2.heap.size + 1 := by omega
  clear hb0
  obtain ⟨x4, x4f⟩ := Xp.out.at_ 0 (.bool ex) rfl
  obtain ⟨x5, x5f⟩ := Xp.out.at_ 1 (.int .i64 at') rfl
  obtain ⟨x6, x6f⟩ := Xp.out.at_ 2 (.slice vo L.length vc) rfl
  go_wp2_with fail
  refine (all_any _ (C) 0 (fun b hb => Nat.le_trans Xz.out.lt hb) OO.out (by omega) Sr.out Nr.out rfl).mono ?_
  try clear x4 x4f x5 x5f x6 x6f
  rintro e w3 ⟨rfl, hst, hg⟩
  replace Xp := Lib.hid (Xp.out.grown hg (ne_some Np))
  replace Xs := Lib.hid (Xs.out.grown hg (ne_some Ns))
  replace Xk := Lib.hid (Xk.out.grown hg (ne_some Nk))
  replace Xz := Lib.hid (Xz.out.grown hg (ne_some Nz))
  replace Sr := Lib.hid (Sr.out.grown' hg Nr.out)
  replace Sa := Lib.hid (Sa.out.grown' hg Na.out)
  replace Sc := Lib.hid (Sc.out.grown' hg Nc.out)
  replace TT := Lib.hid (TT.out.grown' hg NTT.out)
  replace HB := Lib.hid (HB.out.grown hg HB.out.size (fun j e => by injection e with e; subst e; exact hSlo))
  replace OO := Lib.hid hst
  clear hg hst
  obtain ⟨x7, x7f⟩ := Xp.out.at_ 0 (.bool ex) rfl
  obtain ⟨x8, x8f⟩ := Xp.out.at_ 1 (.int .i64 at') rfl
  obtain ⟨x9, x9f⟩ := Xp.out.at_ 2 (.slice vo L.length vc) rfl
  go_wp2_with fail
  refine (kept_any (fun b hb => Nat.le_trans Xz.out.lt hb) _ (bothL (nmL L false) C) ex at' _ L OO.out (by omega) Sc.out Nc.out TT.out hA NTT.out).mono ?_
  try clear x7 x7f x8 x8f x9 x9f
  rintro e w4 ⟨rfl, hst, hg⟩
  replace Xp := Lib.hid (Xp.out.grown hg (ne_some Np))
  replace Xs := Lib.hid (Xs.out.grown hg (ne_some Ns))
  replace Xk := Lib.hid (Xk.out.grown hg (ne_some Nk))
  replace Xz := Lib.hid (Xz.out.grown hg (ne_some Nz))
  replace Sr := Lib.hid (Sr.out.grown' hg Nr.out)
  replace Sa := Lib.hid (Sa.out.grown' hg Na.out)
  replace Sc := Lib.hid (Sc.out.grown' hg Nc.out)
  replace TT := Lib.hid (TT.out.grown' hg NTT.out)
  replace HB := Lib.hid (HB.out.grown hg HB.out.size (fun j e => by injection e with e; subst e; exact hSlo))
  replace OO := Lib.hid hst
  clear hg hst
  obtain ⟨vq10, Lq10, hq10, hT10, _⟩ := OO.out
  obtain ⟨vq10o, vq10c, rfl⟩ := hT10.shape
  obtain ⟨x10a, x10af⟩ := hq10.at_ 0 (.bool true) rfl
  obtain ⟨x10b, x10bf⟩ := hq10.at_ 1 (.int .i64 m) rfl
  obtain ⟨x10c, x10cf⟩ := hq10.at_ 2 (.slice vq10o Lq10.length vq10c) rfl
  obtain ⟨x11, x11f⟩ := Xz.out.at_ 0 (.bool false) rfl
  obtain ⟨x12, x12f⟩ := Xz.out.at_ 1 (.slice none 0 0) rfl
  replace Xp := Lib.hid (Xp.out.far (p := ⟨w2.heap.size + 1, 1, none⟩) (by simp <;> omega) (.slice cao (bothL (nmL L false) C).length cac))
  replace Xs := Lib.hid (Xs.out.far (p := ⟨w2.heap.size + 1, 1, none⟩) (by simp <;> omega) (.slice cao (bothL (nmL L false) C).length cac))
  replace Xk := Lib.hid (Xk.out.far (p := ⟨w2.heap.size + 1, 1, none⟩) (by simp <;> omega) (.slice cao (bothL (nmL L false) C).length cac))
  replace Xz := Lib.hid (show CBox (w4.setCell ⟨w2.heap.size + 1, 1, none⟩ (.slice cao (bothL (nmL L false) C).length cac)) (w2.heap.size + 1) 47 #[.bool false, .slice cao (bothL (nmL L false) C).length cac] from by simpa using Xz.out.set 1 (.slice cao (bothL (nmL L false) C).length cac))
  clear Sr
  clear Sa
  replace Sc := Lib.hid (Sc.out.apart' (p := ⟨w2.heap.size + 1, 1, none⟩) (fun hL b hb e => Mc.out hL (hb.trans (congrArg some e))) (.slice cao (bothL (nmL L false) C).length cac))
  replace OO := Lib.hid (OO.out.far (p := ⟨w2.heap.size + 1, 1, none⟩) (by simp) (fun b hb => by simp; omega) (.slice cao (bothL (nmL L false) C).length cac))
  replace HB := Lib.hid (HB.out.setCell (p := ⟨w2.heap.size + 1, 1, none⟩) (by simp <;> omega) (.slice cao (bothL (nmL L false) C).length cac))
  obtain ⟨v9, L9, hc9, hT9, hA9, hl9, hk9⟩ := OO.out
  obtain ⟨v9o, v9c, rfl⟩ := hT9.shape
  have C9 := Lib.hid hc9; have T9 := Lib.hid hT9; have A9 := Lib.hid hA9; have L9' := Lib.hid hl9; have K9 := Lib.hid hk9
  obtain ⟨c0, c0f⟩ := hc9.at_ 0 (.bool true) rfl
  obtain ⟨c1, c1f⟩ := hc9.at_ 1 (.int .i64 m) rfl
  obtain ⟨c2, c2f⟩ := hc9.at_ 2 (.slice v9o L9.length v9c) rfl
  obtain ⟨d0, d0f⟩ := Xz.out.at_ 0 (.bool false) rfl
  obtain ⟨d1, d1f⟩ := Xz.out.at_ 1 (.slice cao (bothL (nmL L false) C).length cac) rfl
  obtain ⟨e0, e0f⟩ := Xs.out.at_ 0 (.bool false) rfl
  obtain ⟨e1, e1f⟩ := Xs.out.at_ 1 (.int .i64 0) rfl
  obtain ⟨e2, e2f⟩ := Xs.out.at_ 2 (.slice none 0 0) rfl
  obtain ⟨f0, f0f⟩ := Xk.out.at_ 0 (.bool false) rfl
  obtain ⟨f1, f1f⟩ := Xk.out.at_ 1 (.slice none 0 0) rfl
  clear hc9 hT9 hA9 hl9 hk9
  go_wp2_with fail
  go_region
  all_goals
    go_wp2_with fail
    obtain ⟨r0, r1, r2, r3, r4⟩ := boxes_end5 Xs.out Xk.out (.bool true) (.int .i64 m) (.slice v9o L9.length v9c) (.bool false) (.slice cao (bothL (nmL L false) C).length cac)
    have hT := T9.out.end5' (lo := w.heap.size + 1) (fun hL b hb => by have := K9.out hL b hb; omega) (.bool true) (.int .i64 m) (.slice v9o L9.length v9c) (.bool false) (.slice cao (bothL (nmL L false) C).length cac)
    have hU := Sc.out.end5' (lo := w.heap.size + 1) (fun hL b hb => by have := hlc b hb; have := hzc; omega) (.bool true) (.int .i64 m) (.slice v9o L9.length v9c) (.bool false) (.slice cao (bothL (nmL L false) C).length cac)
    have hBB := below_end5' HB.out (lo := w.heap.size + 1) (by omega) (.bool true) (.int .i64 m) (.slice v9o L9.length v9c) (.bool false) (.slice cao (bothL (nmL L false) C).length cac)
    refine bodyPost_ret (v := .tuple #[.agg #[.bool true, .int .i64 m, .slice v9o L9.length v9c], .agg #[.bool false, (.slice cao (bothL (nmL L false) C).length cac)]]) (by simp [results, Try.results39, go_sem, r0, r1, r2, r3, r4]) rfl ⟨_, L9, _, rfl, ?_, A9.out, ?_, ?_⟩
    · first | with_reducible exact hT | with_reducible exact hT.drew
    · first | with_reducible exact hU | with_reducible exact hU.drew
    · first | with_reducible exact hBB | with_reducible exact hBB.drew

set_option maxRecDepth 20000 in
set_option maxHeartbeats 2000000 in
theorem some_5 (ex : Bool) (at' : Int) (v : Value) (L : List Tmd) {F : Str → Option Int} (rv : Value) (C : List Str) (m : Int) (w : World) (h : Tms w v L) (hA : Asc F L) (hr : Strs w rv C) (hL : L.length ≤ 60) (hC : C.length ≤ 60) (hm : (Lit.int .i64 m).wf = true) :
    Calls Try.prog 39 #[.agg #[.bool ex, .int .i64 at', v], .int .i64 5, rv, .int .i64 m] w (RetSA w false 0 (setF (keepF (fun _ => none) (nmL L false) F) C m) false ([])) := by
  obtain ⟨vo, vc, rfl⟩ := h.shape
  obtain ⟨ro, rc, rfl⟩ := hr.shape
  have q1 := nmL_len L false; have q2 := nmL_len L true
  have qbx := bothL_len (nmL L false) C; have qlx := lessF_len (nmL L false) C
  have qby := bothL_len (nmL L true) C; have qly := lessF_len (nmL L true) C
  have qr1 := lessF_len C (sasc (nmL L false ++ nmL L true)); have qr2 := lessF_len C (nmL L true)
  have HB := Lib.hid (Below.refl w.heap.size w)
  have TT := Lib.hid h
  have Sr := Lib.hid hr
  clear h hr
  have hb0 : Below w.heap.size w (((w.alloc (.cells #[.bool ex, .int .i64 at', .slice vo L.length vc] 24)).alloc (.cells #[.bool false, .int .i64 0, .slice none 0 0] 24)).alloc (.cells #[.bool false, .slice none 0 0] 47)) := (((Below.refl _ _).alloc (Nat.le_refl _) _).alloc (by simp) _).alloc (by simp <;> omega) _
  replace Sr := Lib.hid (Sr.out.mono hb0)
  replace TT := Lib.hid (TT.out.mono hb0)
  replace HB := Lib.hid (HB.out.trans (hb0.mono HB.out.size))
  have Xp := Lib.hid (show CBox (((w.alloc (.cells #[.bool ex, .int .i64 at', .slice vo L.length vc] 24)).alloc (.cells #[.bool false, .int .i64 0, .slice none 0 0] 24)).alloc (.cells #[.bool false, .slice none 0 0] 47)) w.heap.size 24 #[.bool ex, .int .i64 at', .slice vo L.length vc] from ((CBox.new _ rfl).old _).old _)
  have Xs := Lib.hid (show CBox (((w.alloc (.cells #[.bool ex, .int .i64 at', .slice vo L.length vc] 24)).alloc (.cells #[.bool false, .int .i64 0, .slice none 0 0] 24)).alloc (.cells #[.bool false, .slice none 0 0] 47)) (w.heap.size + 1) 24 #[.bool false, .int .i64 0, .slice none 0 0] from (CBox.new _ (by simp)).old _)
  have Xk := Lib.hid (show CBox (((w.alloc (.cells #[.bool ex, .int .i64 at', .slice vo L.length vc] 24)).alloc (.cells #[.bool false, .int .i64 0, .slice none 0 0] 24)).alloc (.cells #[.bool false, .slice none 0 0] 47)) (w.heap.size + 1 + 1) 47 #[.bool false, .slice none 0 0] from CBox.new _ (by simp))
  clear hb0
  obtain ⟨x1, x1f⟩ := Xp.out.at_ 0 (.bool ex) rfl
  obtain ⟨x2, x2f⟩ := Xp.out.at_ 1 (.int .i64 at') rfl
  obtain ⟨x3, x3f⟩ := Xp.out.at_ 2 (.slice vo L.length vc) rfl
  go_enter Try.func39, Try.ntmps39
  go_wp2_with fail
  refine (rnames_any ex at' _ L false _ TT.out).mono ?_
  try clear x1 x1f x2 x2f x3 x3f
  rintro e w1 ⟨o, rfl, ho, hb, hlo⟩
  obtain ⟨aao, aac, rfl⟩ := ho.shape
  have hza : w.heap.size + 3 ≤ (((w.alloc (.cells #[.bool ex, .int .i64 at', .slice vo L.length vc] 24)).alloc (.cells #[.bool false, .int .i64 0, .slice none 0 0] 24)).alloc (.cells #[.bool false, .slice none 0 0] 47)).heap.size := Xk.out.lt
  replace Xp := Lib.hid (Xp.out.below hb Xp.out.lt)
  replace Xs := Lib.hid (Xs.out.below hb Xs.out.lt)
  replace Xk := Lib.hid (Xk.out.below hb Xk.out.lt)
  replace Sr := Lib.hid (Sr.out.mono hb)
  replace TT := Lib.hid (TT.out.mono hb)
  replace HB := Lib.hid (HB.out.trans (hb.mono HB.out.size))
  have Sa := Lib.hid ho
  have hla := hlo
  clear hb ho hlo
  go_wp2_with fail
  refine (both_in _ _ _ _ _ Sa.out Sr.out).mono ?_
  rintro e w2 ⟨o, rfl, ho, hb, hlo⟩
  obtain ⟨cao, cac, rfl⟩ := ho.shape
  have hzc : w.heap.size + 3 ≤ w1.heap.size := Xk.out.lt
  replace Xp := Lib.hid (Xp.out.below hb Xp.out.lt)
  replace Xs := Lib.hid (Xs.out.below hb Xs.out.lt)
  replace Xk := Lib.hid (Xk.out.below hb Xk.out.lt)
  replace Sr := Lib.hid (Sr.out.mono hb)
  replace Sa := Lib.hid (Sa.out.mono hb)
  replace TT := Lib.hid (TT.out.mono hb)
  replace HB := Lib.hid (HB.out.trans (hb.mono HB.out.size))
  have Sc := Lib.hid ho
  have hlc := hlo
  clear hb ho hlo
  have hSlo : w.heap.size ≤ w2.heap.size := by have := HB.out.size; omega
  have hS3 : w.heap.size + 3 ≤ w2.heap.size := by have := Xk.out.lt; omega
  have Np : w2.heap.size ≠ w.heap.size := by omega
  have Ns : w2.heap.size ≠ w.heap.size + 1 := by omega
  have Nk : w2.heap.size ≠ w.heap.size + 1 + 1 := by omega
  have Nr := Lib.hid (Sr.out.ne_ge (b := w2.heap.size) (by omega))
  have Na := Lib.hid (Sa.out.ne_ge (b := w2.heap.size) (by omega))
  have Nc := Lib.hid (Sc.out.ne_ge (b := w2.heap.size) (by omega))
  have Mr := Lib.hid (Sr.out.ne_ge (b := w2.heap.size + 1) (by omega))
  have Ma := Lib.hid (Sa.out.ne_ge (b := w2.heap.size + 1) (by omega))
  have Mc := Lib.hid (Sc.out.ne_ge (b := w2.heap.size + 1) (by omega))
  have NTT := Lib.hid (TT.out.ne_ge (b := w2.heap.size) (by omega))
  have hb0 : Below w2.heap.size w2 ((w2.alloc (.cells #[.bool false, .int .i64 0, .slice none 0 0] 24)).alloc (.cells #[.bool false, .slice none 0 0] 47)) := ((Below.refl _ _).alloc (Nat.le_refl _) _).alloc (by simp) _
  replace Xp := Lib.hid (Xp.out.below hb0 Xp.out.lt)
  replace Xs := Lib.hid (Xs.out.below hb0 Xs.out.lt)
  replace Xk := Lib.hid (Xk.out.below hb0 Xk.out.lt)
  replace Sr := Lib.hid (Sr.out.mono hb0)
  replace Sa := Lib.hid (Sa.out.mono hb0)
  replace Sc := Lib.hid (Sc.out.mono hb0)
  replace TT := Lib.hid (TT.out.mono hb0)
  replace HB := Lib.hid (HB.out.trans (hb0.mono HB.out.size))
  have OO := Lib.hid (show StBox ((w2.alloc (.cells #[.bool false, .int .i64 0, .slice none 0 0] 24)).alloc (.cells #[.bool false, .slice none 0 0] 47)) w2.heap.size (fun b => w2.heap.size + 2 ≤ b) false 0 0 (fun _ => none) from ⟨_, [], (CBox.new _ rfl).old _, Tms.nil _, asc_nil (fun _ => rfl), Nat.le_refl _, fun h => absurd rfl h⟩)
  have Xz := Lib.hid (show CBox ((w2.alloc (.cells #[.bool false, .int .i64 0, .slice none 0 0] 24)).alloc (.cells #[.bool false, .slice none 0 0] 47)) (w2.heap.size + 1) 47 #[.bool false, .slice none 0 0] from CBox.new _ (by simp))
  have Nz : w2.heap.size ≠ w2.heap.size + 1 := by omega
  clear hb0
  obtain ⟨x4, x4f⟩ := Xp.out.at_ 0 (.bool ex) rfl
  obtain ⟨x5, x5f⟩ := Xp.out.at_ 1 (.int .i64 at') rfl
  obtain ⟨x6, x6f⟩ := Xp.out.at_ 2 (.slice vo L.length vc) rfl
  go_wp2_with fail
  refine (kept_any (fun b hb => Nat.le_trans Xz.out.lt hb) _ (nmL L false) ex at' _ L OO.out (by omega) Sa.out Na.out TT.out hA NTT.out).mono ?_
  try clear x4 x4f x5 x5f x6 x6f
  rintro e w3 ⟨rfl, hst, hg⟩
  replace Xp := Lib.hid (Xp.out.grown hg (ne_some Np))
  replace Xs := Lib.hid (Xs.out.grown hg (ne_some Ns))
  replace Xk := Lib.hid (Xk.out.grown hg (ne_some Nk))
  replace Xz := Lib.hid (Xz.out.grown hg (ne_some Nz))
  replace Sr := Lib.hid (Sr.out.grown' hg Nr.out)
  replace Sa := Lib.hid (Sa.out.grown' hg Na.out)
  replace Sc := Lib.hid (Sc.out.grown' hg Nc.out)
  replace TT := Lib.hid (TT.out.grown' hg NTT.out)
  replace HB := Lib.hid (HB.out.grown hg HB.out.size (fun j e => by injection e with e; subst e; exact hSlo))
  replace OO := Lib.hid hst
  clear hg hst
  go_wp2_with fail
  refine (all_any _ (C) m (fun b hb => Nat.le_trans Xz.out.lt hb) OO.out (by omega) Sr.out Nr.out hm).mono ?_
  rintro e w4 ⟨rfl, hst, hg⟩
  replace Xp := Lib.hid (Xp.out.grown hg (ne_some Np))
  replace Xs := Lib.hid (Xs.out.grown hg (ne_some Ns))
  replace Xk := Lib.hid (Xk.out.grown hg (ne_some Nk))
  replace Xz := Lib.hid (Xz.out.grown hg (ne_some Nz))
  replace Sr := Lib.hid (Sr.out.grown' hg Nr.out)
  replace Sa := Lib.hid (Sa.out.grown' hg Na.out)
  replace Sc := Lib.hid (Sc.out.grown' hg Nc.out)
  replace TT := Lib.hid (TT.out.grown' hg NTT.out)
  replace HB := Lib.hid (HB.out.grown hg HB.out.size (fun j e => by injection e with e; subst e; exact hSlo))
  replace OO := Lib.hid hst
  clear hg hst
  obtain ⟨v9, L9, hc9, hT9, hA9, hl9, hk9⟩ := OO.out
  obtain ⟨v9o, v9c, rfl⟩ := hT9.shape
  have C9 := Lib.hid hc9; have T9 := Lib.hid hT9; have A9 := Lib.hid hA9; have L9' := Lib.hid hl9; have K9 := Lib.hid hk9
  obtain ⟨c0, c0f⟩ := hc9.at_ 0 (.bool false) rfl
  obtain ⟨c1, c1f⟩ := hc9.at_ 1 (.int .i64 0) rfl
  obtain ⟨c2, c2f⟩ := hc9.at_ 2 (.slice v9o L9.length v9c) rfl
  obtain ⟨d0, d0f⟩ := Xz.out.at_ 0 (.bool false) rfl
  obtain ⟨d1, d1f⟩ := Xz.out.at_ 1 (.slice none 0 0) rfl
  obtain ⟨e0, e0f⟩ := Xs.out.at_ 0 (.bool false) rfl
  obtain ⟨e1, e1f⟩ := Xs.out.at_ 1 (.int .i64 0) rfl
  obtain ⟨e2, e2f⟩ := Xs.out.at_ 2 (.slice none 0 0) rfl
  obtain ⟨f0, f0f⟩ := Xk.out.at_ 0 (.bool false) rfl
  obtain ⟨f1, f1f⟩ := Xk.out.at_ 1 (.slice none 0 0) rfl
  clear hc9 hT9 hA9 hl9 hk9
  go_wp2_with fail
  go_region
  all_goals
    go_wp2_with fail
    obtain ⟨r0, r1, r2, r3, r4⟩ := boxes_end5 Xs.out Xk.out (.bool false) (.int .i64 0) (.slice v9o L9.length v9c) (.bool false) (.slice none 0 0)
    have hT := T9.out.end5' (lo := w.heap.size + 1) (fun hL b hb => by have := K9.out hL b hb; omega) (.bool false) (.int .i64 0) (.slice v9o L9.length v9c) (.bool false) (.slice none 0 0)
    have hBB := below_end5' HB.out (lo := w.heap.size + 1) (by omega) (.bool false) (.int .i64 0) (.slice v9o L9.length v9c) (.bool false) (.slice none 0 0)
    refine bodyPost_ret (v := .tuple #[.agg #[.bool false, .int .i64 0, .slice v9o L9.length v9c], .agg #[.bool false, (.slice none 0 0)]]) (by simp [results, Try.results39, go_sem, r0, r1, r2, r3, r4]) rfl ⟨_, L9, _, rfl, ?_, A9.out, ?_, ?_⟩
    · first | with_reducible exact hT | with_reducible exact hT.drew
    · exact Strs.nil _
    · first | with_reducible exact hBB | with_reducible exact hBB.drew

set_option maxRecDepth 20000 in
set_option maxHeartbeats 2000000 in
theorem some_6 (ex : Bool) (at' : Int) (v : Value) (L : List Tmd) {F : Str → Option Int} (rv : Value) (C : List Str) (m : Int) (w : World) (h : Tms w v L) (hA : Asc F L) (hr : Strs w rv C) (hL : L.length ≤ 60) (_hC : C.length ≤ 60) (_hm : (Lit.int .i64 m).wf = true) :
    Calls Try.prog 39 #[.agg #[.bool ex, .int .i64 at', v], .int .i64 6, rv, .int .i64 m] w (RetSA w false 0 (keepF (fun _ => none) (nmL L false) F) false (bothL (nmL L false) C)) := by
  obtain ⟨vo, vc, rfl⟩ := h.shape
  obtain ⟨ro, rc, rfl⟩ := hr.shape
  have q1 := nmL_len L false; have q2 := nmL_len L true
  have qbx := bothL_len (nmL L false) C; have qlx := lessF_len (nmL L false) C
  have qby := bothL_len (nmL L true) C; have qly := lessF_len (nmL L true) C
  have qr1 := lessF_len C (sasc (nmL L false ++ nmL L true)); have qr2 := lessF_len C (nmL L true)
  have HB := Lib.hid (Below.refl w.heap.size w)
  have TT := Lib.hid h
  have Sr := Lib.hid hr
  clear h hr
  have hb0 : Below w.heap.size w (((w.alloc (.cells #[.bool ex, .int .i64 at', .slice vo L.length vc] 24)).alloc (.cells #[.bool false, .int .i64 0, .slice none 0 0] 24)).alloc (.cells #[.bool false, .slice none 0 0] 47)) := (((Below.refl _ _).alloc (Nat.le_refl _) _).alloc (by simp) _).alloc (by simp <;> omega) _
  replace Sr := Lib.hid (Sr.out.mono hb0)
  replace TT := Lib.hid (TT.out.mono hb0)
  replace HB := Lib.hid (HB.out.trans (hb0.mono HB.out.size))
  have Xp := Lib.hid (show CBox (((w.alloc (.cells #[.bool ex, .int .i64 at', .slice vo L.length vc] 24)).alloc (.cells #[.bool false, .int .i64 0, .slice none 0 0] 24)).alloc (.cells #[.bool false, .slice none 0 0] 47)) w.heap.size 24 #[.bool ex, .int .i64 at', .slice vo L.length vc] from ((CBox.new _ rfl).old _).old _)
  have Xs := Lib.hid (show CBox (((w.alloc (.cells #[.bool ex, .int .i64 at', .slice vo L.length vc] 24)).alloc (.cells #[.bool false, .int .i64 0, .slice none 0 0] 24)).alloc (.cells #[.bool false, .slice none 0 0] 47)) (w.heap.size + 1) 24 #[.bool false, .int .i64 0, .slice none 0 0] from (CBox.new _ (by simp)).old _)
  have Xk := Lib.hid (show CBox (((w.alloc (.cells #[.bool ex, .int .i64 at', .slice vo L.length vc] 24)).alloc (.cells #[.bool false, .int .i64 0, .slice none 0 0] 24)).alloc (.cells #[.bool false, .slice none 0 0] 47)) (w.heap.size + 1 + 1) 47 #[.bool false, .slice none 0 0] from CBox.new _ (by simp))
  clear hb0
  obtain ⟨x1, x1f⟩ := Xp.out.at_ 0 (.bool ex) rfl
  obtain ⟨x2, x2f⟩ := Xp.out.at_ 1 (.int .i64 at') rfl
  obtain ⟨x3, x3f⟩ := Xp.out.at_ 2 (.slice vo L.length vc) rfl
  go_enter Try.func39, Try.ntmps39
  go_wp2_with fail
  refine (rnames_any ex at' _ L false _ TT.out).mono ?_
  try clear x1 x1f x2 x2f x3 x3f
  rintro e w1 ⟨o, rfl, ho, hb, hlo⟩
  obtain ⟨aao, aac, rfl⟩ := ho.shape
  have hza : w.heap.size + 3 ≤ (((w.alloc (.cells #[.bool ex, .int .i64 at', .slice vo L.length vc] 24)).alloc (.cells #[.bool false, .int .i64 0, .slice none 0 0] 24)).alloc (.cells #[.bool false, .slice none 0 0] 47)).heap.size := Xk.out.lt
  replace Xp := Lib.hid (Xp.out.below hb Xp.out.lt)
  replace Xs := Lib.hid (Xs.out.below hb Xs.out.lt)
  replace Xk := Lib.hid (Xk.out.below hb Xk.out.lt)
  replace Sr := Lib.hid (Sr.out.mono hb)
  replace TT := Lib.hid (TT.out.mono hb)
  replace HB := Lib.hid (HB.out.trans (hb.mono HB.out.size))
  have Sa := Lib.hid ho
  have hla := hlo
  clear hb ho hlo
  go_wp2_with fail
  refine (both_in _ _ _ _ _ Sa.out Sr.out).mono ?_
  rintro e w2 ⟨o, rfl, ho, hb, hlo⟩
  obtain ⟨cao, cac, rfl⟩ := ho.shape
  have hzc : w.heap.size + 3 ≤ w1.heap.size := Xk.out.lt
  replace Xp := Lib.hid (Xp.out.below hb Xp.out.lt)
  replace Xs := Lib.hid (Xs.out.below hb Xs.out.lt)
  replace Xk := Lib.hid (Xk.out.below hb Xk.out.lt)
  replace Sr := Lib.hid (Sr.out.mono hb)
  replace Sa := Lib.hid (Sa.out.mono hb)
  replace TT := Lib.hid (TT.out.mono hb)
  replace HB := Lib.hid (HB.out.trans (hb.mono HB.out.size))
  have Sc := Lib.hid ho
  have hlc := hlo
  clear hb ho hlo
  have hSlo : w.heap.size ≤ w2.heap.size := by have := HB.out.size; omega
  have hS3 : w.heap.size + 3 ≤ w2.heap.size := by have := Xk.out.lt; omega
  have Np : w2.heap.size ≠ w.heap.size := by omega
  have Ns : w2.heap.size ≠ w.heap.size + 1 := by omega
  have Nk : w2.heap.size ≠ w.heap.size + 1 + 1 := by omega
  have Nr := Lib.hid (Sr.out.ne_ge (b := w2.heap.size) (by omega))
  have Na := Lib.hid (Sa.out.ne_ge (b := w2.heap.size) (by omega))
  have Nc := Lib.hid (Sc.out.ne_ge (b := w2.heap.size) (by omega))
  have Mr := Lib.hid (Sr.out.ne_ge (b := w2.heap.size + 1) (by omega))
  have Ma := Lib.hid (Sa.out.ne_ge (b := w2.heap.size + 1) (by omega))
  have Mc := Lib.hid (Sc.out.ne_ge (b := w2.heap.size + 1) (by omega))
  have NTT := Lib.hid (TT.out.ne_ge (b := w2.heap.size) (by omega))
  have hb0 : Below w2.heap.size w2 ((w2.alloc (.cells #[.bool false, .int .i64 0, .slice none 0 0] 24)).alloc (.cells #[.bool false, .slice none 0 0] 47)) := ((Below.refl _ _).alloc (Nat.le_refl _) _).alloc (by simp) _
  replace Xp := Lib.hid (Xp.out.below hb0 Xp.out.lt)
  replace Xs := Lib.hid (Xs.out.below hb0 Xs.out.lt)
  replace Xk := Lib.hid (Xk.out.below hb0 Xk.out.lt)
  replace Sr := Lib.hid (Sr.out.mono hb0)
  replace Sa := Lib.hid (Sa.out.mono hb0)
  replace Sc := Lib.hid (Sc.out.mono hb0)
  replace TT := Lib.hid (TT.out.mono hb0)
  replace HB := Lib.hid (HB.out.trans (hb0.mono HB.out.size))
  have OO := Lib.hid (show StBox ((w2.alloc (.cells #[.bool false, .int .i64 0, .slice none 0 0] 24)).alloc (.cells #[.bool false, .slice none 0 0] 47)) w2.heap.size (fun b => w2.heap.size + 2 ≤ b) false 0 0 (fun _ => none) from ⟨_, [], (CBox.new _ rfl).old _, Tms.nil _, asc_nil (fun _ => rfl), Nat.le_refl _, fun h => absurd rfl h⟩)
  have Xz := Lib.hid (show CBox ((w2.alloc (.cells #[.bool false, .int .i64 0, .slice none 0 0] 24)).alloc (.cells #[.bool false, .slice none 0 0] 47)) (w2.heap.size + 1) 47 #[.bool false, .slice none 0 0] from CBox.new _ (by simp))
  have Nz : w2.heap.size ≠ w2.heap.size + 1 := by omega
  clear hb0
  obtain ⟨x4, x4f⟩ := Xp.out.at_ 0 (.bool ex) rfl
  obtain ⟨x5, x5f⟩ := Xp.out.at_ 1 (.int .i64 at') rfl
  obtain ⟨x6, x6f⟩ := Xp.out.at_ 2 (.slice vo L.length vc) rfl
  go_wp2_with fail
  refine (kept_any (fun b hb => Nat.le_trans Xz.out.lt hb) _ (nmL L false) ex at' _ L OO.out (by omega) Sa.out Na.out TT.out hA NTT.out).mono ?_
  try clear x4 x4f x5 x5f x6 x6f
  rintro e w3 ⟨rfl, hst, hg⟩
  replace Xp := Lib.hid (Xp.out.grown hg (ne_some Np))
  replace Xs := Lib.hid (Xs.out.grown hg (ne_some Ns))
  replace Xk := Lib.hid (Xk.out.grown hg (ne_some Nk))
  replace Xz := Lib.hid (Xz.out.grown hg (ne_some Nz))
  replace Sr := Lib.hid (Sr.out.grown' hg Nr.out)
  replace Sa := Lib.hid (Sa.out.grown' hg Na.out)
  replace Sc := Lib.hid (Sc.out.grown' hg Nc.out)
  replace TT := Lib.hid (TT.out.grown' hg NTT.out)
  replace HB := Lib.hid (HB.out.grown hg HB.out.size (fun j e => by injection e with e; subst e; exact hSlo))
  replace OO := Lib.hid hst
  clear hg hst
  obtain ⟨vq7, Lq7, hq7, hT7, _⟩ := OO.out
  obtain ⟨vq7o, vq7c, rfl⟩ := hT7.shape
  obtain ⟨x7a, x7af⟩ := hq7.at_ 0 (.bool false) rfl
  obtain ⟨x7b, x7bf⟩ := hq7.at_ 1 (.int .i64 0) rfl
  obtain ⟨x7c, x7cf⟩ := hq7.at_ 2 (.slice vq7o Lq7.length vq7c) rfl
  obtain ⟨x8, x8f⟩ := Xz.out.at_ 0 (.bool false) rfl
  obtain ⟨x9, x9f⟩ := Xz.out.at_ 1 (.slice none 0 0) rfl
  replace Xp := Lib.hid (Xp.out.far (p := ⟨w2.heap.size + 1, 1, none⟩) (by simp <;> omega) (.slice cao (bothL (nmL L false) C).length cac))
  replace Xs := Lib.hid (Xs.out.far (p := ⟨w2.heap.size + 1, 1, none⟩) (by simp <;> omega) (.slice cao (bothL (nmL L false) C).length cac))
  replace Xk := Lib.hid (Xk.out.far (p := ⟨w2.heap.size + 1, 1, none⟩) (by simp <;> omega) (.slice cao (bothL (nmL L false) C).length cac))
  replace Xz := Lib.hid (show CBox (w3.setCell ⟨w2.heap.size + 1, 1, none⟩ (.slice cao (bothL (nmL L false) C).length cac)) (w2.heap.size + 1) 47 #[.bool false, .slice cao (bothL (nmL L false) C).length cac] from by simpa using Xz.out.set 1 (.slice cao (bothL (nmL L false) C).length cac))
  clear Sr
  clear Sa
  replace Sc := Lib.hid (Sc.out.apart' (p := ⟨w2.heap.size + 1, 1, none⟩) (fun hL b hb e => Mc.out hL (hb.trans (congrArg some e))) (.slice cao (bothL (nmL L false) C).length cac))
  replace OO := Lib.hid (OO.out.far (p := ⟨w2.heap.size + 1, 1, none⟩) (by simp) (fun b hb => by simp; omega) (.slice cao (bothL (nmL L false) C).length cac))
  replace HB := Lib.hid (HB.out.setCell (p := ⟨w2.heap.size + 1, 1, none⟩) (by simp <;> omega) (.slice cao (bothL (nmL L false) C).length cac))
  obtain ⟨v9, L9, hc9, hT9, hA9, hl9, hk9⟩ := OO.out
  obtain ⟨v9o, v9c, rfl⟩ := hT9.shape
  have C9 := Lib.hid hc9; have T9 := Lib.hid hT9; have A9 := Lib.hid hA9; have L9' := Lib.hid hl9; have K9 := Lib.hid hk9
  obtain ⟨c0, c0f⟩ := hc9.at_ 0 (.bool false) rfl
  obtain ⟨c1, c1f⟩ := hc9.at_ 1 (.int .i64 0) rfl
  obtain ⟨c2, c2f⟩ := hc9.at_ 2 (.slice v9o L9.length v9c) rfl
  obtain ⟨d0, d0f⟩ := Xz.out.at_ 0 (.bool false) rfl
  obtain ⟨d1, d1f⟩ := Xz.out.at_ 1 (.slice cao (bothL (nmL L false) C).length cac) rfl
  obtain ⟨e0, e0f⟩ := Xs.out.at_ 0 (.bool false) rfl
  obtain ⟨e1, e1f⟩ := Xs.out.at_ 1 (.int .i64 0) rfl
  obtain ⟨e2, e2f⟩ := Xs.out.at_ 2 (.slice none 0 0) rfl
  obtain ⟨f0, f0f⟩ := Xk.out.at_ 0 (.bool false) rfl
  obtain ⟨f1, f1f⟩ := Xk.out.at_ 1 (.slice none 0 0) rfl
  clear hc9 hT9 hA9 hl9 hk9
  go_wp2_with fail
  go_region
  all_goals
    go_wp2_with fail
    obtain ⟨r0, r1, r2, r3, r4⟩ := boxes_end5 Xs.out Xk.out (.bool false) (.int .i64 0) (.slice v9o L9.length v9c) (.bool false) (.slice cao (bothL (nmL L false) C).length cac)
    have hT := T9.out.end5' (lo := w.heap.size + 1) (fun hL b hb => by have := K9.out hL b hb; omega) (.bool false) (.int .i64 0) (.slice v9o L9.length v9c) (.bool false) (.slice cao (bothL (nmL L false) C).length cac)
    have hU := Sc.out.end5' (lo := w.heap.size + 1) (fun hL b hb => by have := hlc b hb; have := hzc; omega) (.bool false) (.int .i64 0) (.slice v9o L9.length v9c) (.bool false) (.slice cao (bothL (nmL L false) C).length cac)
    have hBB := below_end5' HB.out (lo := w.heap.size + 1) (by omega) (.bool false) (.int .i64 0) (.slice v9o L9.length v9c) (.bool false) (.slice cao (bothL (nmL L false) C).length cac)
    refine bodyPost_ret (v := .tuple #[.agg #[.bool false, .int .i64 0, .slice v9o L9.length v9c], .agg #[.bool false, (.slice cao (bothL (nmL L false) C).length cac)]]) (by simp [results, Try.results39, go_sem, r0, r1, r2, r3, r4]) rfl ⟨_, L9, _, rfl, ?_, A9.out, ?_, ?_⟩
    · first | with_reducible exact hT | with_reducible exact hT.drew
    · first | with_reducible exact hU | with_reducible exact hU.drew
    · first | with_reducible exact hBB | with_reducible exact hBB.drew

end Go.Proofs.Ytkphgonbbhlnfaa
