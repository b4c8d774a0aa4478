/- Texts joined into one file: BOw, BDe, BTk, BTa. -/
import Derived.Test.YthcdppppppgckaaGreatDoorC36
import Derived.Test.YthcdppppppgckaaGreatDoorC29
import Derived.Test.YthcdppppppgckaaGreatDoorC32
import Derived.Test.YthcdppppppgckaaGreatDoorC09
import Derived.Test.YthcdppppppgckaaGreatDoorC25

namespace Go.Proofs.YthcdppppppgckaaGreatDoor
open Go.RowKit Go.Lib Go.Maps Go.Sort
set_option maxRecDepth 20000
set_option maxRecDepth 20000

def toBpdu : Str := [1, 128, 194, 0, 0, 0]
theorem bpduTo_any (w : World) : Calls Tryz.prog 58 #[] w fun e w' => e = .returned (.string (bstr toBpdu)) ∧ w = w' := by
 go_enter Tryz.func58, Tryz.ntmps58
 go_wp2
 go_ret
 exact ⟨by rw [bstr_eq]; rfl, rfl⟩
def ownM (id : Nat) : Str := 2 :: (ofN id 8).drop 3
theorem ownM_len (id : Nat) : (ownM id).length = 6 := by unfold ownM; rw [List.length_cons, List.length_drop, ofN_length]
theorem own_addr (A : Adr) (s : BrS) (w : World) (h : BrAt w A s) :
 Calls Tryz.prog 74 #[.pointer (some ⟨A.b, 0, none⟩)] w fun e w' => e = .returned (.string (bstr (ownM s.c.id))) ∧ Below w.heap.size w w' := by
 have c0 := h.cell 0 (v := .int .u64 s.c.id) rfl
 have HC := Lib.hid (eight_any s.c.id w h.ok.id)
 obtain ⟨n, hn⟩ : ∃ n, s.c.id = n := ⟨_, rfl⟩
 rw [hn] at c0 HC ⊢
 have hsl : ∀ W, (Instr.slice 9 (.string (bstr (ofN n 8))) (some (.int .i64 3)) none none).run Tryz.prog W = .ok (.string (bstr ((ofN n 8).drop 3))) W := fun W => run_from_b W 9 Tryz.underlying9 (ofN n 8) .i64 3 (by rw [ofN_length]; decide)
 have hadd : ∀ W, (Op.stringOp .add ⟨#[2]⟩ (bstr ((ofN n 8).drop 3))).run Tryz.prog W = .ok (.string (bstr (ownM n))) W := fun W => by
  have := run_sadd_b (P := Tryz.prog) W [2] ((ofN n 8).drop 3) (by rw [List.length_drop, ofN_length]; decide)
  rw [bstr_eq [2]] at this
  exact this
 clear h hn
 go_enter Tryz.func74, Tryz.ntmps74
 go_wp2_with ((with_reducible refine HC.out.mono ?_); rintro e w2 ⟨rfl, hb2⟩; have HB2 := Lib.hid hb2; clear hb2)
 go_ret
 exact ⟨rfl, HB2.out⟩
theorem reads_none (b : Nat) (f : Fr) (port now : Int) (w : World) (h4 : f.typ ≠ 2048) (h6 : f.typ ≠ 34525) :
 Calls Tryz.prog 64 #[encP b f port now] w fun e w' => e = .returned .nilIface ∧ Below w.heap.size w w' := by
 obtain ⟨dst, src, tg, vl, pr, ty, da⟩ := f
 unfold encP
 dsimp only at h4 h6 ⊢
 have q4 : (ty == 2048) = false := by simpa using h4
 have q6 : (ty == 34525) = false := by simpa using h6
 obtain ⟨W1, hW1⟩ : ∃ W, w.alloc (.cells #[.pointer (some ⟨b, 0, none⟩), .string (bstr dst), .string (bstr src), .bool tg, .int .i64 vl, .int .i64 pr, .int .i64 ty, .string (bstr da), .int .i64 port, .int .i64 now] 117) = W := ⟨_, rfl⟩
 obtain ⟨q0, hq0⟩ : ∃ q, w.heap.size = q := ⟨_, rfl⟩
 have hb1 : Below w.heap.size w W1 := by rw [← hW1]; exact (Below.refl _ _).alloc (Nat.le_refl _) _
 have hx1 : CBox W1 q0 117 #[.pointer (some ⟨b, 0, none⟩), .string (bstr dst), .string (bstr src), .bool tg, .int .i64 vl, .int .i64 pr, .int .i64 ty, .string (bstr da), .int .i64 port, .int .i64 now] := by rw [← hW1]; exact CBox.new _ hq0.symm
 have c6 := (hx1.at_ 6 _ rfl).1
 have B1 := Lib.hid hb1; have HW1 := Lib.hid hW1; have HQ0 := Lib.hid hq0
 clear h4 h6 hW1 hq0 hb1 hx1
 go_enter Tryz.func64, Tryz.ntmps64
 go_upto_region 1 with fail
 rw [HW1.out, HQ0.out]
 go_wp2_with fail
 go_ret
 exact ⟨rfl, B1.out⟩
end Go.Proofs.YthcdppppppgckaaGreatDoor

namespace Go.Proofs.YthcdppppppgckaaGreatDoor
open Go.RowKit Go.Lib Go.Sort
set_option maxRecDepth 20000
set_option maxRecDepth 20000

theorem and_low12 (n : Nat) (h : n < 9223372036854775808) : bits BinOp.and IntKind.i64 (n : Int) 4095 = ((n % 4096 : Nat) : Int) := by
 have := bits_and_i64_nat n 4095 h (by decide)
 rw [show (4095 : Nat) = 2 ^ 12 - 1 from rfl, Nat.and_two_pow_sub_one_eq_mod] at this
 exact this
theorem and_low16 (n : Nat) (h : n < 9223372036854775808) : bits BinOp.and IntKind.i64 (n : Int) 65535 = ((n % 65536 : Nat) : Int) := by
 have := bits_and_i64_nat n 65535 h (by decide)
 rw [show (65535 : Nat) = 2 ^ 16 - 1 from rfl, Nat.and_two_pow_sub_one_eq_mod] at this
 exact this
theorem and_low1 (n : Nat) (h : n < 9223372036854775808) : bits BinOp.and IntKind.i64 (n : Int) 1 = ((n % 2 : Nat) : Int) := by
 have := bits_and_i64_nat n 1 h (by decide)
 rw [show (1 : Nat) = 2 ^ 1 - 1 from rfl, Nat.and_two_pow_sub_one_eq_mod] at this
 exact this
set_option maxHeartbeats 8000000 in
theorem dec_any (s : Str) (w : World) (hs : s.length ≤ maxLen) :
 Calls Tryz.prog 57 #[.string (bstr s)] w (RetFr w (eDec s)) := by
 obtain ⟨W1, hW1⟩ : ∃ W, w.alloc (.cells #[.string ⟨#[]⟩, .string ⟨#[]⟩, .bool false, .int .i64 0, .int .i64 0, .int .i64 0, .string ⟨#[]⟩] 48) = W := ⟨_, rfl⟩
 obtain ⟨q0, hq0⟩ : ∃ q, w.heap.size = q := ⟨_, rfl⟩
 have hb1 : Below w.heap.size w W1 := by rw [← hW1]; exact (Below.refl _ _).alloc (Nat.le_refl _) _
 have X1 := Lib.hid (show CBox W1 q0 48 #[.string ⟨#[]⟩, .string ⟨#[]⟩, .bool false, .int .i64 0, .int .i64 0, .int .i64 0, .string ⟨#[]⟩] from by rw [← hW1]; exact CBox.new _ hq0.symm)
 have B1 := Lib.hid hb1; have HLE := Lib.hid (Nat.le_of_eq hq0)
 have HG := Lib.hid (show Calls Tryz.prog 103 #[.string (bstr s), .int .i64 12, .int .i64 2] W1 _ from get_any s 12 2 W1 hs (by unfold maxLen; omega) (by omega) (by omega))
 have HW1 := Lib.hid hW1; have HQ0 := Lib.hid hq0
 obtain ⟨r, hr⟩ : ∃ r, eDec s = r := ⟨_, rfl⟩
 have HR := Lib.hid hr
 have HM := Lib.hid hs
 rw [hr]
 clear hW1 hq0 hb1 hr hs
 go_enter Tryz.func57, Tryz.ntmps57
 go_upto_region 1 with fail
 rw [HW1.out, HQ0.out]
 by_cases hl : s.length < 14
 · have HR0 := Lib.hid (show r = (frZero, 2) from by rw [← HR.out]; unfold eDec; rw [if_pos hl])
   have hg := HG.out
   rw [if_neg (show ¬ 12 + 2 ≤ s.length by omega), if_neg (show ¬ 12 + 2 ≤ s.length by omega)] at hg
   have HGG := Lib.hid hg
   clear hg HG hl
   go_upto_region 2 with ((with_reducible refine HGG.out.mono ?_); rintro e w2 ⟨rfl, hb2⟩; have X2 := Lib.hid (X1.out.below hb2 X1.out.lt); have B2 := Lib.hid (B1.out.trans (hb2.mono B1.out.size)); clear hb2)
   obtain ⟨c0, cf0⟩ := CBox.at_ X2.out 0 _ rfl
   obtain ⟨c1, cf1⟩ := CBox.at_ X2.out 1 _ rfl
   obtain ⟨c2, cf2⟩ := CBox.at_ X2.out 2 _ rfl
   obtain ⟨c3, cf3⟩ := CBox.at_ X2.out 3 _ rfl
   obtain ⟨c4, cf4⟩ := CBox.at_ X2.out 4 _ rfl
   obtain ⟨c5, cf5⟩ := CBox.at_ X2.out 5 _ rfl
   obtain ⟨c6, cf6⟩ := CBox.at_ X2.out 6 _ rfl
   go_wp2_with fail
   have hz := box7 (cells7s X2.out (.string ⟨#[]⟩) (.string ⟨#[]⟩) (.bool false) (.int .i64 0) (.int .i64 0) (.int .i64 0) (.string ⟨#[]⟩))
   dsimp only [setsL] at hz
   obtain ⟨r0, r1, r2, r3, r4, r5, r6⟩ := hz
   refine bodyPost_ret (v := .tuple #[.agg #[.string ⟨#[]⟩, .string ⟨#[]⟩, .bool false, .int .i64 0, .int .i64 0, .int .i64 0, .string ⟨#[]⟩], .int .i64 2]) (by simp [results, Tryz.results57, go_sem, r0, r1, r2, r3, r4, r5, r6]) rfl ?_
   rw [HR0.out]
   exact ⟨by rw [enc_zero], setsL_below HLE.out [.string ⟨#[]⟩, .string ⟨#[]⟩, .bool false, .int .i64 0, .int .i64 0, .int .i64 0, .string ⟨#[]⟩] 0 B2.out⟩
 · have hg := HG.out
   rw [if_pos (show 12 + 2 ≤ s.length by omega), if_pos (show 12 + 2 ≤ s.length by omega)] at hg
   have HGG := Lib.hid hg
   have HLN := Lib.hid hl
   have hN2 : numAt s 12 2 < 65536 := numAt_lt s 12 2
   obtain ⟨n2, hn2⟩ : ∃ n, numAt s 12 2 = n := ⟨_, rfl⟩
   have HN2 := Lib.hid hn2
   have HNB := Lib.hid (show n2 < 65536 by omega)
   rw [hn2] at HGG
   clear hg HG hl hN2 hn2
   go_upto_region 4 with ((with_reducible refine HGG.out.mono ?_); rintro e w2 ⟨rfl, hb2⟩; have X2 := Lib.hid (X1.out.below hb2 X1.out.lt); have B2 := Lib.hid (B1.out.trans (hb2.mono B1.out.size)); clear hb2)
   obtain ⟨Z, hZ⟩ : ∃ W, w2.drew = W := ⟨_, rfl⟩
   have hbz : Below w2.heap.size w2 Z := by rw [← hZ]; exact Below.drew (Below.refl _ _)
   have BZ := Lib.hid (B2.out.trans (hbz.mono B2.out.size)); have XZ := Lib.hid (X2.out.below hbz X2.out.lt); have HZ := Lib.hid hZ
   have HF := Lib.hid (fun (wq : World) (_ : Below Z.heap.size Z wq) => And.intro
    (show (Instr.slice 9 (.string (bstr s)) none (some (.int .i64 6)) none).run Tryz.prog wq = .ok (.string (bstr (s.take 6))) wq from run_to_b wq 9 Tryz.underlying9 s .i64 6 (by have := HLN.out; omega))
    (show (Instr.slice 9 (.string (bstr s)) (some (.int .i64 6)) (some (.int .i64 12)) none).run Tryz.prog wq = .ok (.string (bstr ((s.drop 6).take 6))) wq from run_slice_b wq 9 Tryz.underlying9 s .i64 .i64 6 12 (by omega) (by have := HLN.out; omega)))
   clear hZ hbz B2 X2 HGG
   refine wp_region_held_drew (S := fun W' => Below Z.heap.size Z W') (by kernel_rfl) (by rw [HZ.out]; exact Below.refl _ _) (fun hHeld => ?_)
   rw [HZ.out] at hHeld ⊢
   iterate 5 (first | (refine takeO 7 (v := ?_) rfl (by kernel_rfl) (fun _ _ _ h => h) (Or.inl ⟨by rfl, ?_⟩) (by assumption) ?_; rotate_left; (focus (intro wq hSq; have f := HF.out wq hSq; go_simp <;> with_reducible rfl)); simp only [Act.put, List.setIfInBounds_toArray, List.set_cons_zero, List.set_cons_succ]) | (refine takeO 7 (v := undef) rfl (by kernel_rfl) (fun _ _ _ h => h) (Or.inr ⟨by rfl, rfl⟩) (by assumption) ?_; simp only [Act.put, List.setIfInBounds_toArray, List.set_cons_zero, List.set_cons_succ]))
   refine wpAnyH_ready (rs := [5]) (by kernel_rfl) (by simp) (nextL 5 rfl (fun Kr hKr => ?_) AllReadyH.nil)
   rw [if_pos (by rfl)]
   go_simp
   obtain ⟨V, hV⟩ : ∃ W, Z.alloc (.cells #[.string ⟨#[]⟩, .string ⟨#[]⟩, .bool false, .int .i64 0, .int .i64 0, .int .i64 0, .string ⟨#[]⟩] 48) = W := ⟨_, rfl⟩
   obtain ⟨q1, hq1⟩ : ∃ q, Z.heap.size = q := ⟨_, rfl⟩
   have hbv : Below Z.heap.size Z V := by rw [← hV]; exact (Below.refl _ _).alloc (Nat.le_refl _) _
   have FV := Lib.hid (show CBox V q1 48 #[.string ⟨#[]⟩, .string ⟨#[]⟩, .bool false, .int .i64 0, .int .i64 0, .int .i64 0, .string ⟨#[]⟩] from by rw [← hV]; exact CBox.new _ hq1.symm)
   have XV := Lib.hid (XZ.out.below hbv XZ.out.lt); have BV := Lib.hid (BZ.out.trans (hbv.mono BZ.out.size)); have BVZ := Lib.hid hbv
   have HQ1 := Lib.hid (show w.heap.size ≤ q1 ∧ q0 ≠ q1 ∧ Z.heap.size ≤ q1 from by have := BZ.out.size; have := XZ.out.lt; omega)
   rw [hV, hq1]
   refine hKr.out _ _ hbv (fun _ => ?_)
   clear hKr hV hq1 hbv BZ XZ
   obtain ⟨z0, zf0⟩ := CBox.at_ FV.out 0 _ rfl
   obtain ⟨z1, zf1⟩ := CBox.at_ FV.out 1 _ rfl
   obtain ⟨z2, zf2⟩ := CBox.at_ FV.out 2 _ rfl
   obtain ⟨z3, zf3⟩ := CBox.at_ FV.out 3 _ rfl
   obtain ⟨z4, zf4⟩ := CBox.at_ FV.out 4 _ rfl
   obtain ⟨z5, zf5⟩ := CBox.at_ FV.out 5 _ rfl
   obtain ⟨z6, zf6⟩ := CBox.at_ FV.out 6 _ rfl
   refine wpAnyH_ready (rs := [6]) (by kernel_rfl) (by simp) (nextL 6 rfl (fun Kr hKr => ?_) AllReadyH.nil)
   rw [if_pos (by rfl)]
   go_simp
   obtain ⟨V4, hV4⟩ : ∃ W, setsL V q1 0 [.string (bstr (s.take 6)), .string (bstr ((s.drop 6).take 6)), .bool false, .int .i64 0, .int .i64 0, .int .i64 0, .string ⟨#[]⟩] = W := ⟨_, rfl⟩
   have F4 := Lib.hid (show CBox V4 q1 48 #[.string (bstr (s.take 6)), .string (bstr ((s.drop 6).take 6)), .bool false, .int .i64 0, .int .i64 0, .int .i64 0, .string ⟨#[]⟩] from by rw [← hV4]; exact cells7s FV.out _ _ _ _ _ _ _)
   have X4 := Lib.hid (show CBox V4 q0 48 #[.string ⟨#[]⟩, .string ⟨#[]⟩, .bool false, .int .i64 0, .int .i64 0, .int .i64 0, .string ⟨#[]⟩] from by rw [← hV4]; exact setsL_far HQ1.out.2.1 _ 0 XV.out)
   have hbz4 : Below Z.heap.size Z V4 := by rw [← hV4]; exact setsL_below HQ1.out.2.2 _ 0 BVZ.out
   have B4 := Lib.hid (show Below w.heap.size w V4 from by rw [← hV4]; exact setsL_below HQ1.out.1 _ 0 BV.out)
   dsimp only [setsL] at hV4
   rw [hV4]
   refine hKr.out _ _ hbz4 (fun _ => ?_)
   refine wpAnyH_done (by kernel_rfl) ?_ _
   clear hKr hV4 hbz4 FV XV BV BVZ HF hHeld HZ z0 zf0 z1 zf1 z2 zf2 z3 zf3 z4 zf4 z5 zf5 z6 zf6
   obtain ⟨ta, hta⟩ : ∃ t, s.take 6 = t := ⟨_, rfl⟩
   obtain ⟨tb, htb⟩ : ∃ t, (s.drop 6).take 6 = t := ⟨_, rfl⟩
   rw [hta, htb] at F4
   have HTA := Lib.hid hta; have HTB := Lib.hid htb
   rw [hta, htb]
   clear hta htb
   obtain ⟨c0, cf0⟩ := CBox.at_ F4.out 0 _ rfl
   obtain ⟨c1, cf1⟩ := CBox.at_ F4.out 1 _ rfl
   obtain ⟨c2, cf2⟩ := CBox.at_ F4.out 2 _ rfl
   obtain ⟨c3, cf3⟩ := CBox.at_ F4.out 3 _ rfl
   obtain ⟨c4, cf4⟩ := CBox.at_ F4.out 4 _ rfl
   obtain ⟨c5, cf5⟩ := CBox.at_ F4.out 5 _ rfl
   obtain ⟨c6, cf6⟩ := CBox.at_ F4.out 6 _ rfl
   cases hty : ((n2 : Int) == 33024)
   · have hne : n2 ≠ 33024 := by intro e; subst e; simp at hty
     have HNE := Lib.hid hne
     clear hne
     go_upto_region 15 with fail
     obtain ⟨Z5, hZ5⟩ : ∃ W, V4.drew = W := ⟨_, rfl⟩
     have hbz5 : Below V4.heap.size V4 Z5 := by rw [← hZ5]; exact Below.drew (Below.refl _ _)
     have F5 := Lib.hid (F4.out.below hbz5 F4.out.lt); have X5 := Lib.hid (X4.out.below hbz5 X4.out.lt); have B5 := Lib.hid (B4.out.trans (hbz5.mono B4.out.size)); have HZ5 := Lib.hid hZ5
     have HF := Lib.hid (fun (wq : World) (_ : True) => show (Instr.slice 9 (.string (bstr s)) (some (.int .i64 14)) none none).run Tryz.prog wq = .ok (.string (bstr (s.drop 14))) wq from run_from_b wq 9 Tryz.underlying9 s .i64 14 (by have := HLN.out; omega))
     clear hZ5 hbz5
     refine wp_region_held_drew (S := fun _ => True) (by kernel_rfl) trivial (fun hHeld => ?_)
     rw [HZ5.out]
     iterate 5 (first | (refine takeO 8 (v := ?_) rfl (by kernel_rfl) (fun _ _ _ h => h) (Or.inl ⟨by rfl, ?_⟩) (by assumption) ?_; rotate_left; (focus (intro wq hSq; have f0 := HF.out wq hSq; go_simp <;> with_reducible rfl)); simp only [Act.put, List.setIfInBounds_toArray, List.set_cons_zero, List.set_cons_succ]) | (refine takeO 8 (v := undef) rfl (by kernel_rfl) (fun _ _ _ h => h) (Or.inr ⟨by rfl, rfl⟩) (by assumption) ?_; simp only [Act.put, List.setIfInBounds_toArray, List.set_cons_zero, List.set_cons_succ]))
     obtain ⟨c0, cf0⟩ := CBox.at_ F5.out 0 _ rfl
     obtain ⟨c1, cf1⟩ := CBox.at_ F5.out 1 _ rfl
     obtain ⟨c2, cf2⟩ := CBox.at_ F5.out 2 _ rfl
     obtain ⟨c3, cf3⟩ := CBox.at_ F5.out 3 _ rfl
     obtain ⟨c4, cf4⟩ := CBox.at_ F5.out 4 _ rfl
     obtain ⟨c5, cf5⟩ := CBox.at_ F5.out 5 _ rfl
     obtain ⟨c6, cf6⟩ := CBox.at_ F5.out 6 _ rfl
     refine wpAnyH_ready (rs := [5]) (by kernel_rfl) (by simp) (nextL 5 rfl (fun Kr hKr => ?_) AllReadyH.nil)
     rw [if_pos (by rfl)]
     go_simp
     obtain ⟨V5, hV5⟩ : ∃ W, Z5.setCell ⟨q1, 5, none⟩ (.int .i64 n2) = W := ⟨_, rfl⟩
     have F6 := Lib.hid (show CBox V5 q1 48 #[.string (bstr ta), .string (bstr tb), .bool false, .int .i64 0, .int .i64 0, .int .i64 n2, .string ⟨#[]⟩] from by rw [← hV5]; exact F5.out.set 5 _)
     have X6 := Lib.hid (show CBox V5 q0 48 #[.string ⟨#[]⟩, .string ⟨#[]⟩, .bool false, .int .i64 0, .int .i64 0, .int .i64 0, .string ⟨#[]⟩] from by rw [← hV5]; exact X5.out.far (p := ⟨q1, 5, none⟩) HQ1.out.2.1 _)
     have B6 := Lib.hid (show Below w.heap.size w V5 from by rw [← hV5]; exact B5.out.setCell (p := ⟨q1, 5, none⟩) HQ1.out.1 _)
     rw [hV5]
     refine hKr.out _ _ trivial (fun _ => ?_)
     clear hKr hV5 F5 X5 B5 c0 cf0 c1 cf1 c2 cf2 c3 cf3 c4 cf4 c5 cf5 c6 cf6
     iterate 1 (first | (refine takeO 8 (v := ?_) rfl (by kernel_rfl) (fun _ _ _ h => h) (Or.inl ⟨by rfl, ?_⟩) (by assumption) ?_; rotate_left; (focus (intro wq hSq; go_simp <;> with_reducible rfl)); simp only [Act.put, List.setIfInBounds_toArray, List.set_cons_zero, List.set_cons_succ]) | (refine takeO 8 (v := undef) rfl (by kernel_rfl) (fun _ _ _ h => h) (Or.inr ⟨by rfl, rfl⟩) (by assumption) ?_; simp only [Act.put, List.setIfInBounds_toArray, List.set_cons_zero, List.set_cons_succ]))
     obtain ⟨c0, cf0⟩ := CBox.at_ F6.out 0 _ rfl
     obtain ⟨c1, cf1⟩ := CBox.at_ F6.out 1 _ rfl
     obtain ⟨c2, cf2⟩ := CBox.at_ F6.out 2 _ rfl
     obtain ⟨c3, cf3⟩ := CBox.at_ F6.out 3 _ rfl
     obtain ⟨c4, cf4⟩ := CBox.at_ F6.out 4 _ rfl
     obtain ⟨c5, cf5⟩ := CBox.at_ F6.out 5 _ rfl
     obtain ⟨c6, cf6⟩ := CBox.at_ F6.out 6 _ rfl
     refine wpAnyH_ready (rs := [7]) (by kernel_rfl) (by simp) (nextL 7 rfl (fun Kr hKr => ?_) AllReadyH.nil)
     rw [if_pos (by rfl)]
     go_simp
     obtain ⟨V6, hV6⟩ : ∃ W, V5.setCell ⟨q1, 6, none⟩ (.string (bstr (s.drop 14))) = W := ⟨_, rfl⟩
     have F7 := Lib.hid (show CBox V6 q1 48 #[.string (bstr ta), .string (bstr tb), .bool false, .int .i64 0, .int .i64 0, .int .i64 n2, .string (bstr (s.drop 14))] from by rw [← hV6]; exact F6.out.set 6 _)
     have X7 := Lib.hid (show CBox V6 q0 48 #[.string ⟨#[]⟩, .string ⟨#[]⟩, .bool false, .int .i64 0, .int .i64 0, .int .i64 0, .string ⟨#[]⟩] from by rw [← hV6]; exact X6.out.far (p := ⟨q1, 6, none⟩) HQ1.out.2.1 _)
     have B7 := Lib.hid (show Below w.heap.size w V6 from by rw [← hV6]; exact B6.out.setCell (p := ⟨q1, 6, none⟩) HQ1.out.1 _)
     rw [hV6]
     refine hKr.out _ _ trivial (fun _ => ?_)
     clear hKr hV6 F6 X6 B6 c0 cf0 c1 cf1 c2 cf2 c3 cf3 c4 cf4 c5 cf5 c6 cf6
     refine wpAnyH_done (by kernel_rfl) ?_ _
     clear HF hHeld HZ5
     have HDC := Lib.hid (show r = if 2000 < (s.drop 14).length then (frZero, 3) else (⟨ta, tb, false, 0, 0, n2, s.drop 14⟩, 0) from by rw [← HR.out]; unfold eDec; rw [if_neg HLN.out, HN2.out, if_neg HNE.out, HTA.out, HTB.out])
     obtain ⟨dt, hdt⟩ : ∃ t, s.drop 14 = t := ⟨_, rfl⟩
     rw [hdt] at F7 HDC
     have hlb : ∀ ty W, (Builtin.len_ #[9] ty #[.string (bstr dt)]).run Tryz.prog W = .ok (.int .i64 dt.length) W := fun ty W => run_len_b W 9 Tryz.underlying9 dt ty
     rw [hdt]
     clear hdt
     obtain ⟨c0, cf0⟩ := CBox.at_ F7.out 0 _ rfl
     obtain ⟨c1, cf1⟩ := CBox.at_ F7.out 1 _ rfl
     obtain ⟨c2, cf2⟩ := CBox.at_ F7.out 2 _ rfl
     obtain ⟨c3, cf3⟩ := CBox.at_ F7.out 3 _ rfl
     obtain ⟨c4, cf4⟩ := CBox.at_ F7.out 4 _ rfl
     obtain ⟨c5, cf5⟩ := CBox.at_ F7.out 5 _ rfl
     obtain ⟨c6, cf6⟩ := CBox.at_ F7.out 6 _ rfl
     obtain ⟨x0, xf0⟩ := CBox.at_ X7.out 0 _ rfl
     obtain ⟨x1, xf1⟩ := CBox.at_ X7.out 1 _ rfl
     obtain ⟨x2, xf2⟩ := CBox.at_ X7.out 2 _ rfl
     obtain ⟨x3, xf3⟩ := CBox.at_ X7.out 3 _ rfl
     obtain ⟨x4, xf4⟩ := CBox.at_ X7.out 4 _ rfl
     obtain ⟨x5, xf5⟩ := CBox.at_ X7.out 5 _ rfl
     obtain ⟨x6, xf6⟩ := CBox.at_ X7.out 6 _ rfl
     cases qd : decide (2000 < (dt.length : Int))
     · have HRX := Lib.hid (show r = (⟨ta, tb, false, 0, 0, n2, dt⟩, 0) from by rw [HDC.out, if_neg (by have := of_decide_eq_false qd; omega)])
       go_wp2_with fail
       have hz := box7 (cells7s X7.out (.string (bstr ta)) (.string (bstr tb)) (.bool false) (.int .i64 0) (.int .i64 0) (.int .i64 n2) (.string (bstr dt)))
       dsimp only [setsL] at hz
       obtain ⟨r0, r1, r2, r3, r4, r5, r6⟩ := hz
       refine bodyPost_ret (v := .tuple #[.agg #[.string (bstr ta), .string (bstr tb), .bool false, .int .i64 0, .int .i64 0, .int .i64 n2, .string (bstr dt)], .int .i64 0]) (by simp [results, Tryz.results57, go_sem, r0, r1, r2, r3, r4, r5, r6]) rfl ?_
       rw [HRX.out]
       exact ⟨rfl, setsL_below HLE.out [.string (bstr ta), .string (bstr tb), .bool false, .int .i64 0, .int .i64 0, .int .i64 n2, .string (bstr dt)] 0 B7.out⟩
     · have HRX := Lib.hid (show r = (frZero, 3) from by rw [HDC.out, if_pos (by have := of_decide_eq_true qd; omega)])
       go_wp2_with fail
       have hz := box7 (cells7s X7.out (.string ⟨#[]⟩) (.string ⟨#[]⟩) (.bool false) (.int .i64 0) (.int .i64 0) (.int .i64 0) (.string ⟨#[]⟩))
       dsimp only [setsL] at hz
       obtain ⟨r0, r1, r2, r3, r4, r5, r6⟩ := hz
       refine bodyPost_ret (v := .tuple #[.agg #[.string ⟨#[]⟩, .string ⟨#[]⟩, .bool false, .int .i64 0, .int .i64 0, .int .i64 0, .string ⟨#[]⟩], .int .i64 3]) (by simp [results, Tryz.results57, go_sem, r0, r1, r2, r3, r4, r5, r6]) rfl ?_
       rw [HRX.out]
       exact ⟨by rw [enc_zero], setsL_below HLE.out [.string ⟨#[]⟩, .string ⟨#[]⟩, .bool false, .int .i64 0, .int .i64 0, .int .i64 0, .string ⟨#[]⟩] 0 B7.out⟩
   · have hN4 : numAt s 14 4 < 4294967296 := numAt_lt s 14 4
     have HG4 := Lib.hid (show Calls Tryz.prog 103 #[.string (bstr s), .int .i64 14, .int .i64 4] V4 _ from get_any s 14 4 V4 HM.out (by unfold maxLen; omega) (by omega) (by omega))
     have heq : n2 = 33024 := by have := eq_of_beq hty; omega
     have HEQ := Lib.hid heq
     clear heq
     by_cases hl4 : s.length < 18
     · have hg := HG4.out
       rw [if_neg (show ¬ 14 + 4 ≤ s.length by omega), if_neg (show ¬ 14 + 4 ≤ s.length by omega)] at hg
       have HGG := Lib.hid hg
       have HRX := Lib.hid (show r = (frZero, 2) from by rw [← HR.out]; unfold eDec; rw [if_neg HLN.out, HN2.out, if_pos HEQ.out, if_pos hl4])
       clear hg HG4 hl4
       go_upto_region 8 with ((with_reducible refine HGG.out.mono ?_); rintro e w5 ⟨rfl, hb5⟩; have X5 := Lib.hid (X4.out.below hb5 X4.out.lt); have B5 := Lib.hid (B4.out.trans (hb5.mono B4.out.size)); clear hb5)
       obtain ⟨x0, xf0⟩ := CBox.at_ X5.out 0 _ rfl
       obtain ⟨x1, xf1⟩ := CBox.at_ X5.out 1 _ rfl
       obtain ⟨x2, xf2⟩ := CBox.at_ X5.out 2 _ rfl
       obtain ⟨x3, xf3⟩ := CBox.at_ X5.out 3 _ rfl
       obtain ⟨x4, xf4⟩ := CBox.at_ X5.out 4 _ rfl
       obtain ⟨x5, xf5⟩ := CBox.at_ X5.out 5 _ rfl
       obtain ⟨x6, xf6⟩ := CBox.at_ X5.out 6 _ rfl
       go_wp2_with fail
       have hz := box7 (cells7s X5.out (.string ⟨#[]⟩) (.string ⟨#[]⟩) (.bool false) (.int .i64 0) (.int .i64 0) (.int .i64 0) (.string ⟨#[]⟩))
       dsimp only [setsL] at hz
       obtain ⟨r0, r1, r2, r3, r4, r5, r6⟩ := hz
       refine bodyPost_ret (v := .tuple #[.agg #[.string ⟨#[]⟩, .string ⟨#[]⟩, .bool false, .int .i64 0, .int .i64 0, .int .i64 0, .string ⟨#[]⟩], .int .i64 2]) (by simp [results, Tryz.results57, go_sem, r0, r1, r2, r3, r4, r5, r6]) rfl ?_
       rw [HRX.out]
       exact ⟨by rw [enc_zero], setsL_below HLE.out [.string ⟨#[]⟩, .string ⟨#[]⟩, .bool false, .int .i64 0, .int .i64 0, .int .i64 0, .string ⟨#[]⟩] 0 B5.out⟩
     · have hg := HG4.out
       rw [if_pos (show 14 + 4 ≤ s.length by omega), if_pos (show 14 + 4 ≤ s.length by omega)] at hg
       have HGG := Lib.hid hg
       obtain ⟨n4, hn4⟩ : ∃ n, numAt s 14 4 = n := ⟨_, rfl⟩
       rw [hn4] at HGG hN4
       have HN4 := Lib.hid hn4
       have HLM := Lib.hid hl4
       clear hg HG4 hl4 hn4
       go_upto_region 8 with ((with_reducible refine HGG.out.mono ?_); rintro e w5 ⟨rfl, hb5⟩; have F5 := Lib.hid (F4.out.below hb5 F4.out.lt); have X5 := Lib.hid (X4.out.below hb5 X4.out.lt); have B5 := Lib.hid (B4.out.trans (hb5.mono B4.out.size)); clear hb5)
       clear c0 cf0 c1 cf1 c2 cf2 c3 cf3 c4 cf4 c5 cf5 c6 cf6
       obtain ⟨c0, cf0⟩ := CBox.at_ F5.out 0 _ rfl
       obtain ⟨c1, cf1⟩ := CBox.at_ F5.out 1 _ rfl
       obtain ⟨c2, cf2⟩ := CBox.at_ F5.out 2 _ rfl
       obtain ⟨c3, cf3⟩ := CBox.at_ F5.out 3 _ rfl
       obtain ⟨c4, cf4⟩ := CBox.at_ F5.out 4 _ rfl
       obtain ⟨c5, cf5⟩ := CBox.at_ F5.out 5 _ rfl
       obtain ⟨c6, cf6⟩ := CBox.at_ F5.out 6 _ rfl
       go_upto_region 12 with fail
       obtain ⟨m, hm⟩ : ∃ m, n4 / 65536 = m := ⟨_, rfl⟩
       have hmi : ((n4 : Int) / 65536) = (m : Nat) := by rw [← hm]; simp
       have hmb : m < 65536 := by rw [← hm]; omega
       rw [hmi]
       have hv := and_low12 m (by omega)
       have hp : ((m : Int) / 8192) = ((m / 8192 : Nat) : Int) := by simp
       have h1 : bits BinOp.and IntKind.i64 ((m : Int) / 4096) 1 = ((m / 4096 % 2 : Nat) : Int) := by
        have := and_low1 (m / 4096) (by omega)
        rw [← this]; simp
       have hy := and_low16 n4 (by omega)
       obtain ⟨vl, hvl⟩ : ∃ v : Int, ((m % 4096 : Nat) : Int) = v := ⟨_, rfl⟩
       obtain ⟨pr, hpr⟩ : ∃ v : Int, ((m / 8192 : Nat) : Int) = v := ⟨_, rfl⟩
       obtain ⟨ty, hty2⟩ : ∃ v : Int, ((n4 % 65536 : Nat) : Int) = v := ⟨_, rfl⟩
       rw [hvl] at hv
       rw [hpr] at hp
       rw [hty2] at hy
       rw [hv, hp]
       obtain ⟨W7, hW7⟩ : ∃ W, ((w5.setCell ⟨q1, 2, none⟩ (.bool true)).setCell ⟨q1, 4, none⟩ (.int .i64 pr)).setCell ⟨q1, 3, none⟩ (.int .i64 vl) = W := ⟨_, rfl⟩
       rw [hW7]
       have F7 := Lib.hid (show CBox W7 q1 48 #[.string (bstr ta), .string (bstr tb), .bool true, .int .i64 vl, .int .i64 pr, .int .i64 0, .string ⟨#[]⟩] from by
        rw [← hW7]
        have h2 : CBox _ q1 48 #[.string (bstr ta), .string (bstr tb), .bool true, .int .i64 0, .int .i64 0, .int .i64 0, .string ⟨#[]⟩] := F5.out.set 2 (.bool true)
        have h3 : CBox _ q1 48 #[.string (bstr ta), .string (bstr tb), .bool true, .int .i64 0, .int .i64 pr, .int .i64 0, .string ⟨#[]⟩] := h2.set 4 (.int .i64 pr)
        exact h3.set 3 (.int .i64 vl))
       have X7 := Lib.hid (show CBox W7 q0 48 #[.string ⟨#[]⟩, .string ⟨#[]⟩, .bool false, .int .i64 0, .int .i64 0, .int .i64 0, .string ⟨#[]⟩] from by rw [← hW7]; exact ((X5.out.far (p := ⟨q1, 2, none⟩) HQ1.out.2.1 _).far (p := ⟨q1, 4, none⟩) HQ1.out.2.1 _).far (p := ⟨q1, 3, none⟩) HQ1.out.2.1 _)
       have B7 := Lib.hid (show Below w.heap.size w W7 from by rw [← hW7]; exact ((B5.out.setCell (p := ⟨q1, 2, none⟩) HQ1.out.1 _).setCell (p := ⟨q1, 4, none⟩) HQ1.out.1 _).setCell (p := ⟨q1, 3, none⟩) HQ1.out.1 _)
       have HBAD := Lib.hid (show r = if m / 4096 % 2 = 1 ∨ m % 4096 = 4095 then (frZero, 3) else if 2000 < (s.drop 18).length then (frZero, 3) else (⟨ta, tb, true, vl, pr, ty, s.drop 18⟩, 0) from by
        rw [← HR.out]; unfold eDec; rw [if_neg HLN.out, HN2.out, if_pos HEQ.out, if_neg HLM.out, HN4.out, hm, HTA.out, HTB.out, hvl, hpr, hty2])
       have hvm : (vl == 4095) = decide (m % 4096 = 4095) := by rw [← hvl, Bool.eq_iff_iff]; simp; omega
       have h1m : (bits BinOp.and IntKind.i64 ((m : Int) / 4096) 1 == 1) = decide (m / 4096 % 2 = 1) := by rw [h1, Bool.eq_iff_iff]; simp; omega
       have HY := Lib.hid hy
       clear hW7 hm hmi hv hp h1 hvl hpr hty2 F5 X5 B5 hy c0 cf0 c1 cf1 c2 cf2 c3 cf3 c4 cf4 c5 cf5 c6 cf6
       obtain ⟨c0, cf0⟩ := CBox.at_ F7.out 0 _ rfl
       obtain ⟨c1, cf1⟩ := CBox.at_ F7.out 1 _ rfl
       obtain ⟨c2, cf2⟩ := CBox.at_ F7.out 2 _ rfl
       obtain ⟨c3, cf3⟩ := CBox.at_ F7.out 3 _ rfl
       obtain ⟨c4, cf4⟩ := CBox.at_ F7.out 4 _ rfl
       obtain ⟨c5, cf5⟩ := CBox.at_ F7.out 5 _ rfl
       obtain ⟨c6, cf6⟩ := CBox.at_ F7.out 6 _ rfl
       obtain ⟨x0, xf0⟩ := CBox.at_ X7.out 0 _ rfl
       obtain ⟨x1, xf1⟩ := CBox.at_ X7.out 1 _ rfl
       obtain ⟨x2, xf2⟩ := CBox.at_ X7.out 2 _ rfl
       obtain ⟨x3, xf3⟩ := CBox.at_ X7.out 3 _ rfl
       obtain ⟨x4, xf4⟩ := CBox.at_ X7.out 4 _ rfl
       obtain ⟨x5, xf5⟩ := CBox.at_ X7.out 5 _ rfl
       obtain ⟨x6, xf6⟩ := CBox.at_ X7.out 6 _ rfl
       cases e1 : decide (m / 4096 % 2 = 1)
       · rw [e1] at h1m
         cases e5 : decide (m % 4096 = 4095)
         · rw [e5] at hvm
           clear x0 xf0 x1 xf1 x2 xf2 x3 xf3 x4 xf4 x5 xf5 x6 xf6
           have HNB2 := Lib.hid (show ¬ (m / 4096 % 2 = 1 ∨ m % 4096 = 4095) from fun h => by rcases h with h | h; exact of_decide_eq_false e1 h; exact of_decide_eq_false e5 h)
           go_upto_region 15 with fail
           rw [HY.out]
           obtain ⟨Z5, hZ5⟩ : ∃ W, W7.drew = W := ⟨_, rfl⟩
           have hbz5 : Below W7.heap.size W7 Z5 := by rw [← hZ5]; exact Below.drew (Below.refl _ _)
           have F5 := Lib.hid (F7.out.below hbz5 F7.out.lt); have X5 := Lib.hid (X7.out.below hbz5 X7.out.lt); have B5 := Lib.hid (B7.out.trans (hbz5.mono B7.out.size)); have HZ5 := Lib.hid hZ5
           have HF := Lib.hid (fun (wq : World) (_ : True) => show (Instr.slice 9 (.string (bstr s)) (some (.int .i64 18)) none none).run Tryz.prog wq = .ok (.string (bstr (s.drop 18))) wq from run_from_b wq 9 Tryz.underlying9 s .i64 18 (by have := HLM.out; omega))
           clear hZ5 hbz5
           refine wp_region_held_drew (S := fun _ => True) (by kernel_rfl) trivial (fun hHeld => ?_)
           rw [HZ5.out]
           iterate 5 (first | (refine takeO 8 (v := ?_) rfl (by kernel_rfl) (fun _ _ _ h => h) (Or.inl ⟨by rfl, ?_⟩) (by assumption) ?_; rotate_left; (focus (intro wq hSq; have f0 := HF.out wq hSq; go_simp <;> with_reducible rfl)); simp only [Act.put, List.setIfInBounds_toArray, List.set_cons_zero, List.set_cons_succ]) | (refine takeO 8 (v := undef) rfl (by kernel_rfl) (fun _ _ _ h => h) (Or.inr ⟨by rfl, rfl⟩) (by assumption) ?_; simp only [Act.put, List.setIfInBounds_toArray, List.set_cons_zero, List.set_cons_succ]))
           obtain ⟨c0, cf0⟩ := CBox.at_ F5.out 0 _ rfl
           obtain ⟨c1, cf1⟩ := CBox.at_ F5.out 1 _ rfl
           obtain ⟨c2, cf2⟩ := CBox.at_ F5.out 2 _ rfl
           obtain ⟨c3, cf3⟩ := CBox.at_ F5.out 3 _ rfl
           obtain ⟨c4, cf4⟩ := CBox.at_ F5.out 4 _ rfl
           obtain ⟨c5, cf5⟩ := CBox.at_ F5.out 5 _ rfl
           obtain ⟨c6, cf6⟩ := CBox.at_ F5.out 6 _ rfl
           refine wpAnyH_ready (rs := [5]) (by kernel_rfl) (by simp) (nextL 5 rfl (fun Kr hKr => ?_) AllReadyH.nil)
           rw [if_pos (by rfl)]
           go_simp
           obtain ⟨V5, hV5⟩ : ∃ W, Z5.setCell ⟨q1, 5, none⟩ (.int .i64 ty) = W := ⟨_, rfl⟩
           have F6 := Lib.hid (show CBox V5 q1 48 #[.string (bstr ta), .string (bstr tb), .bool true, .int .i64 vl, .int .i64 pr, .int .i64 ty, .string ⟨#[]⟩] from by rw [← hV5]; exact F5.out.set 5 _)
           have X6 := Lib.hid (show CBox V5 q0 48 #[.string ⟨#[]⟩, .string ⟨#[]⟩, .bool false, .int .i64 0, .int .i64 0, .int .i64 0, .string ⟨#[]⟩] from by rw [← hV5]; exact X5.out.far (p := ⟨q1, 5, none⟩) HQ1.out.2.1 _)
           have B6 := Lib.hid (show Below w.heap.size w V5 from by rw [← hV5]; exact B5.out.setCell (p := ⟨q1, 5, none⟩) HQ1.out.1 _)
           rw [hV5]
           refine hKr.out _ _ trivial (fun _ => ?_)
           clear hKr hV5 F5 X5 B5 c0 cf0 c1 cf1 c2 cf2 c3 cf3 c4 cf4 c5 cf5 c6 cf6
           iterate 1 (first | (refine takeO 8 (v := ?_) rfl (by kernel_rfl) (fun _ _ _ h => h) (Or.inl ⟨by rfl, ?_⟩) (by assumption) ?_; rotate_left; (focus (intro wq hSq; go_simp <;> with_reducible rfl)); simp only [Act.put, List.setIfInBounds_toArray, List.set_cons_zero, List.set_cons_succ]) | (refine takeO 8 (v := undef) rfl (by kernel_rfl) (fun _ _ _ h => h) (Or.inr ⟨by rfl, rfl⟩) (by assumption) ?_; simp only [Act.put, List.setIfInBounds_toArray, List.set_cons_zero, List.set_cons_succ]))
           obtain ⟨c0, cf0⟩ := CBox.at_ F6.out 0 _ rfl
           obtain ⟨c1, cf1⟩ := CBox.at_ F6.out 1 _ rfl
           obtain ⟨c2, cf2⟩ := CBox.at_ F6.out 2 _ rfl
           obtain ⟨c3, cf3⟩ := CBox.at_ F6.out 3 _ rfl
           obtain ⟨c4, cf4⟩ := CBox.at_ F6.out 4 _ rfl
           obtain ⟨c5, cf5⟩ := CBox.at_ F6.out 5 _ rfl
           obtain ⟨c6, cf6⟩ := CBox.at_ F6.out 6 _ rfl
           refine wpAnyH_ready (rs := [7]) (by kernel_rfl) (by simp) (nextL 7 rfl (fun Kr hKr => ?_) AllReadyH.nil)
           rw [if_pos (by rfl)]
           go_simp
           obtain ⟨V6, hV6⟩ : ∃ W, V5.setCell ⟨q1, 6, none⟩ (.string (bstr (s.drop 18))) = W := ⟨_, rfl⟩
           have F7 := Lib.hid (show CBox V6 q1 48 #[.string (bstr ta), .string (bstr tb), .bool true, .int .i64 vl, .int .i64 pr, .int .i64 ty, .string (bstr (s.drop 18))] from by rw [← hV6]; exact F6.out.set 6 _)
           have X7 := Lib.hid (show CBox V6 q0 48 #[.string ⟨#[]⟩, .string ⟨#[]⟩, .bool false, .int .i64 0, .int .i64 0, .int .i64 0, .string ⟨#[]⟩] from by rw [← hV6]; exact X6.out.far (p := ⟨q1, 6, none⟩) HQ1.out.2.1 _)
           have B7 := Lib.hid (show Below w.heap.size w V6 from by rw [← hV6]; exact B6.out.setCell (p := ⟨q1, 6, none⟩) HQ1.out.1 _)
           rw [hV6]
           refine hKr.out _ _ trivial (fun _ => ?_)
           clear hKr hV6 F6 X6 B6 c0 cf0 c1 cf1 c2 cf2 c3 cf3 c4 cf4 c5 cf5 c6 cf6
           refine wpAnyH_done (by kernel_rfl) ?_ _
           clear HF hHeld HZ5
           have HDC := Lib.hid (show r = if 2000 < (s.drop 18).length then (frZero, 3) else (⟨ta, tb, true, vl, pr, ty, s.drop 18⟩, 0) from by rw [HBAD.out, if_neg HNB2.out])
           obtain ⟨dt, hdt⟩ : ∃ t, s.drop 18 = t := ⟨_, rfl⟩
           rw [hdt] at F7 HDC
           have hlb : ∀ ty W, (Builtin.len_ #[9] ty #[.string (bstr dt)]).run Tryz.prog W = .ok (.int .i64 dt.length) W := fun ty W => run_len_b W 9 Tryz.underlying9 dt ty
           rw [hdt]
           clear hdt
           obtain ⟨c0, cf0⟩ := CBox.at_ F7.out 0 _ rfl
           obtain ⟨c1, cf1⟩ := CBox.at_ F7.out 1 _ rfl
           obtain ⟨c2, cf2⟩ := CBox.at_ F7.out 2 _ rfl
           obtain ⟨c3, cf3⟩ := CBox.at_ F7.out 3 _ rfl
           obtain ⟨c4, cf4⟩ := CBox.at_ F7.out 4 _ rfl
           obtain ⟨c5, cf5⟩ := CBox.at_ F7.out 5 _ rfl
           obtain ⟨c6, cf6⟩ := CBox.at_ F7.out 6 _ rfl
           obtain ⟨x0, xf0⟩ := CBox.at_ X7.out 0 _ rfl
           obtain ⟨x1, xf1⟩ := CBox.at_ X7.out 1 _ rfl
           obtain ⟨x2, xf2⟩ := CBox.at_ X7.out 2 _ rfl
           obtain ⟨x3, xf3⟩ := CBox.at_ X7.out 3 _ rfl
           obtain ⟨x4, xf4⟩ := CBox.at_ X7.out 4 _ rfl
           obtain ⟨x5, xf5⟩ := CBox.at_ X7.out 5 _ rfl
           obtain ⟨x6, xf6⟩ := CBox.at_ X7.out 6 _ rfl
           cases qd : decide (2000 < (dt.length : Int))
           · have HRX := Lib.hid (show r = (⟨ta, tb, true, vl, pr, ty, dt⟩, 0) from by rw [HDC.out, if_neg (by have := of_decide_eq_false qd; omega)])
             go_wp2_with fail
             have hz := box7 (cells7s X7.out (.string (bstr ta)) (.string (bstr tb)) (.bool true) (.int .i64 vl) (.int .i64 pr) (.int .i64 ty) (.string (bstr dt)))
             dsimp only [setsL] at hz
             obtain ⟨r0, r1, r2, r3, r4, r5, r6⟩ := hz
             refine bodyPost_ret (v := .tuple #[.agg #[.string (bstr ta), .string (bstr tb), .bool true, .int .i64 vl, .int .i64 pr, .int .i64 ty, .string (bstr dt)], .int .i64 0]) (by simp [results, Tryz.results57, go_sem, r0, r1, r2, r3, r4, r5, r6]) rfl ?_
             rw [HRX.out]
             exact ⟨rfl, setsL_below HLE.out [.string (bstr ta), .string (bstr tb), .bool true, .int .i64 vl, .int .i64 pr, .int .i64 ty, .string (bstr dt)] 0 B7.out⟩
           · have HRX := Lib.hid (show r = (frZero, 3) from by rw [HDC.out, if_pos (by have := of_decide_eq_true qd; omega)])
             go_wp2_with fail
             have hz := box7 (cells7s X7.out (.string ⟨#[]⟩) (.string ⟨#[]⟩) (.bool false) (.int .i64 0) (.int .i64 0) (.int .i64 0) (.string ⟨#[]⟩))
             dsimp only [setsL] at hz
             obtain ⟨r0, r1, r2, r3, r4, r5, r6⟩ := hz
             refine bodyPost_ret (v := .tuple #[.agg #[.string ⟨#[]⟩, .string ⟨#[]⟩, .bool false, .int .i64 0, .int .i64 0, .int .i64 0, .string ⟨#[]⟩], .int .i64 3]) (by simp [results, Tryz.results57, go_sem, r0, r1, r2, r3, r4, r5, r6]) rfl ?_
             rw [HRX.out]
             exact ⟨by rw [enc_zero], setsL_below HLE.out [.string ⟨#[]⟩, .string ⟨#[]⟩, .bool false, .int .i64 0, .int .i64 0, .int .i64 0, .string ⟨#[]⟩] 0 B7.out⟩
         · rw [e5] at hvm
           have HRX := Lib.hid (show r = (frZero, 3) from by rw [HBAD.out, if_pos (.inr (of_decide_eq_true e5))])
           go_wp2_with fail
           have hz := box7 (cells7s X7.out (.string ⟨#[]⟩) (.string ⟨#[]⟩) (.bool false) (.int .i64 0) (.int .i64 0) (.int .i64 0) (.string ⟨#[]⟩))
           dsimp only [setsL] at hz
           obtain ⟨r0, r1, r2, r3, r4, r5, r6⟩ := hz
           refine bodyPost_ret (v := .tuple #[.agg #[.string ⟨#[]⟩, .string ⟨#[]⟩, .bool false, .int .i64 0, .int .i64 0, .int .i64 0, .string ⟨#[]⟩], .int .i64 3]) (by simp [results, Tryz.results57, go_sem, r0, r1, r2, r3, r4, r5, r6]) rfl ?_
           rw [HRX.out]
           exact ⟨by rw [enc_zero], setsL_below HLE.out [.string ⟨#[]⟩, .string ⟨#[]⟩, .bool false, .int .i64 0, .int .i64 0, .int .i64 0, .string ⟨#[]⟩] 0 B7.out⟩
       · rw [e1] at h1m
         have HRX := Lib.hid (show r = (frZero, 3) from by rw [HBAD.out, if_pos (.inl (of_decide_eq_true e1))])
         go_wp2_with fail
         have hz := box7 (cells7s X7.out (.string ⟨#[]⟩) (.string ⟨#[]⟩) (.bool false) (.int .i64 0) (.int .i64 0) (.int .i64 0) (.string ⟨#[]⟩))
         dsimp only [setsL] at hz
         obtain ⟨r0, r1, r2, r3, r4, r5, r6⟩ := hz
         refine bodyPost_ret (v := .tuple #[.agg #[.string ⟨#[]⟩, .string ⟨#[]⟩, .bool false, .int .i64 0, .int .i64 0, .int .i64 0, .string ⟨#[]⟩], .int .i64 3]) (by simp [results, Tryz.results57, go_sem, r0, r1, r2, r3, r4, r5, r6]) rfl ?_
         rw [HRX.out]
         exact ⟨by rw [enc_zero], setsL_below HLE.out [.string ⟨#[]⟩, .string ⟨#[]⟩, .bool false, .int .i64 0, .int .i64 0, .int .i64 0, .string ⟨#[]⟩] 0 B7.out⟩
end Go.Proofs.YthcdppppppgckaaGreatDoor

namespace Go.Proofs.YthcdppppppgckaaGreatDoor
open Go.RowKit Go.Lib Go.Maps Go.Sort
set_option maxRecDepth 20000
set_option maxRecDepth 20000

def Quiet (vl : List Int) (qs : Int × Int → Qr) : Prop := ∀ k, qdom vl k = true → (qs k).self = []
def bout (id : Nat) (o : Int × Bpd) : Int × Str := (o.1, (eEnc ⟨toBpdu, ownM id, false, 0, 0, 39, (bEnc o.2).1⟩).1)
def BrS.ticks (s : BrS) (now : Int) : List (Int × Str) := (s.tree.tick now).2.map (bout s.c.id)
def BrS.aged (s : BrS) (now : Int) : BrS := { s with F := byNow s.F now, fdb := fexpF s.fdb s.c.age now }
def BrS.ticked (s : BrS) (now : Int) : BrS := BrS.settled { s.aged now with tree := (s.tree.tick now).1 }
def RetTk (w : World) (A : Adr) (s0 : BrS) (L : List (Int × Str)) (e : Ending) (w' : World) : Prop :=
 ∃ v qs, e = .returned v ∧ w'.ownsRow w.heap.size 52 2 v L.length (L.flatMap ocells) ∧ BrAt w' A { s0 with qs := qs } ∧ Quiet s0.vl qs ∧ Turn (bfoot A) w w'
theorem tick_outs_len (t : Tre) (now : Int) : (t.tick now).2.length ≤ t.ports.length := by
 unfold Tre.tick
 split
 · dsimp only
   split
   · simp
   · exact Nat.le_trans (ticksGo_len _ _ _) (Nat.le_of_eq (settle_len _))
 · simp
theorem ticksGo_w (t : Tre) (h : TreW t) : ∀ (l : List Prt) (i : Nat), ∀ o ∈ t.ticksGo i l, u64ok o.2.v.root ∧ u64ok o.2.v.bridge
 | [], _, o, ho => by simp [Tre.ticksGo] at ho
 | p :: l, i, o, ho => by
   unfold Tre.ticksGo at ho
   rw [List.mem_append] at ho
   rcases ho with ho | ho
   · split at ho
     · rw [List.mem_singleton] at ho; subst ho; exact ⟨h.best.1, h.bridge⟩
     · cases ho
   · exact ticksGo_w t h l (i + 1) o ho
theorem tick_outs_w {t : Tre} (h : TreW t) (now : Int) : ∀ o ∈ (t.tick now).2, u64ok o.2.v.root ∧ u64ok o.2.v.bridge := by
 unfold Tre.tick
 split
 · dsimp only
   split
   · intro o ho; cases ho
   · exact ticksGo_w _ (settle_w (t := { t with now := max t.now now }) ⟨h.bridge, h.best, h.kept⟩) _ _
 · intro o ho; cases ho
theorem ownM_ok (id : Nat) : (ownM id).length ≤ maxLen := by rw [ownM_len]; unfold maxLen; omega
theorem bEnc_len (b : Bpd) : (bEnc b).1.length ≤ maxLen := by
 unfold bEnc bEncS maxLen
 split
 · simp only [List.length_append, ofN_length]; simp
 · simp
theorem byNow_keys {F : Tst} {K : List TK} (h : KeysS F K) (now : Int) : ∃ K', KeysS (byNow F now) K' ∧ K'.length ≤ K.length := by
 refine ⟨K.filter fun k => (byNow F now k).isSome, ⟨h.1.filter _, fun x => ?_⟩, List.length_filter_le _ _⟩
 rw [List.mem_filter, h.2 x]
 constructor
 · rintro ⟨_, h2⟩ e
   rw [e] at h2; cases h2
 · intro h2
   exact ⟨byNow_dom h2, by cases hb : byNow F now x; exact absurd hb h2; rfl⟩
theorem ticked_brok {s : BrS} {now : Int} (h : BrOk s) : BrOk { s with tree := (s.tree.tick now).1 } :=
 { h with tree := tick_ok h.tree, treeW := tick_w h.treeW, len := by show _ = (s.tree.tick now).1.ports.length; rw [tick_len]; exact h.len }
theorem qtick_quiet {q : Qr} (now : Int) (h : q.self = []) : q.tick now = ({ q with next := q.until_, asked := 0 }, false) := by
 unfold Qr.tick Qr.is
 rw [h]
 rfl

set_option maxHeartbeats 8000000 in
theorem btick_any (A : Adr) (s : BrS) (now : Int) (w : World) (h : BrAt w A s) (hqt : Quiet s.vl s.qs) (hn : inBetween now 1 1099511627776 = true) :
 Calls Tryz.prog 26 #[.pointer (some ⟨A.b, 0, none⟩), .int .i64 now] w (RetTk w A (s.ticked now) (s.ticks now)) := by
 have hnb : 1 ≤ now ∧ now ≤ 1099511627776 := by unfold inBetween at hn; simp at hn; omega
 have hag : 0 ≤ s.c.age ∧ s.c.age ≤ 1000000 := by have := h.ok.age; omega
 obtain ⟨i0, hi, hz0, hz1, hz2⟩ := info_parts23 infoOut
 have c13 := h.cell 13 (v := .pointer (some ⟨A.tp, 0, none⟩)) rfl
 have c14 := h.cell 14 (v := .pointer (some ⟨A.fp, 0, none⟩)) rfl
 have c15 := h.cell 15 (v := .pointer (some ⟨A.gp, 0, none⟩)) rfl
 have c16 := h.cell 16 (v := .pointer (some ⟨A.rp, 0, none⟩)) rfl
 have hg := goes_any A.b now w
 rw [hn] at hg
 have HG := Lib.hid hg
 obtain ⟨K, m, hK1, hK2, hm, htb⟩ := h.tab
 have hroom := h.ok.room
 have HX := Lib.hid (expireT_any A.gp A.gb A.go K.length m s.c.room s.c.member s.c.last now s.F s.O K w htb hK1 (by omega) hnb)
 have HT0 := Lib.hid htb
 have HK1 := Lib.hid hK1; have HK2 := Lib.hid hK2; have HMM := Lib.hid hm
 have HB := Lib.hid h
 have HNB := Lib.hid hnb; have HAG := Lib.hid hag; have HQT := Lib.hid hqt
 clear h hg htb hK1 hK2 hm hroom hnb hag hqt hn
 go_enter Tryz.func26, Tryz.ntmps26
 go_upto_region 4 with (first | ((with_reducible refine HG.out.mono ?_); rintro e w2 ⟨rfl, hw2⟩; subst w2) | ((with_reducible refine HX.out.mono ?_); rintro e w1 ⟨rfl, ⟨n', hn', ht'⟩, hm'⟩; have H1 := Lib.hid (And.intro hn' (And.intro ht' hm')); clear hn' ht' hm'))
 have b1 : BrAt w1 A { s with F := byNow s.F now, O := s.O } := by
  obtain ⟨K', k1, k2⟩ := byNow_keys HK1.out now
  exact HB.out.withTab _ _ ⟨K', m, k1, by have := HK2.out; omega, HMM.out, H1.out.2.1.tight k1⟩ (MTurn.turn HT0.out H1.out.2.2)
 have t1 : Turn (bfoot A) w w1 := (MTurn.turn HT0.out H1.out.2.2).mono HB.out.foot_g
 have d14 := b1.cell 14 (v := .pointer (some ⟨A.fp, 0, none⟩)) rfl
 obtain ⟨L, l1, l2, l3⟩ := b1.fdb
 have HF1 := Lib.hid (fexpire_any A.fp A.fm L.length s.c.room s.c.age now s.fdb w1 l3 b1.ok.fdb HAG.out (by have := HNB.out; omega))
 have B1 := Lib.hid b1; have T1 := Lib.hid t1; have L2 := Lib.hid l2
 clear b1 t1 l1 l2 l3 c13 c14 c15 c16 H1 HX HG HT0 HK1 HK2 HMM
 go_upto_region 5 with ((with_reducible refine HF1.out.mono ?_); rintro e w2 ⟨⟨i, rfl⟩, hf2, ht2⟩; have H2 := Lib.hid (And.intro hf2 ht2); clear hf2 ht2)
 have b2 : BrAt w2 A (s.aged now) := B1.out.cutFdb L2.out H2.out.1 H2.out.2
 have T2 := Lib.hid (T1.out.trans (H2.out.2.mono B1.out.foot_m))
 have d16 := b2.cell 16 (v := .pointer (some ⟨A.rp, 0, none⟩)) rfl
 have HR2 := Lib.hid (rtexpire_none A.rp A.rf A.rh s.c.age now w2 b2.rt)
 have B2 := Lib.hid b2
 clear b2 d14 H2 HF1 B1 T1 L2
 go_upto_region 6 with ((with_reducible refine HR2.out.mono ?_); rintro e w3 ⟨⟨i3, rfl⟩, _, hb3⟩; have H3 := Lib.hid hb3; clear hb3)
 have b3 : BrAt w3 A (s.aged now) := B2.out.below H3.out
 have T3 := Lib.hid (T2.out.trans (Turn.of_below (F := bfoot A) H3.out))
 have d13 := b3.cell 13 (v := .pointer (some ⟨A.tp, 0, none⟩)) rfl
 have HT3 := Lib.hid (ttick_any A.tp A.tg A.tcap s.tree now w3 b3.tree b3.ok.tree)
 have HOL := Lib.hid (show (s.tree.tick now).2.length ≤ 16 from by have := tick_outs_len s.tree now; have := b3.ok.tree.len; have h5 : s.tree.ports.length ≤ 16 := this.2; omega)
 have HOW := Lib.hid (show ∀ o ∈ (s.tree.tick now).2, u64ok o.2.v.root ∧ u64ok o.2.v.bridge from tick_outs_w b3.ok.treeW now)
 have B3 := Lib.hid b3
 clear b3 d16 HR2 H3 B2 T2
 obtain ⟨⟨t', OL⟩, hto⟩ : ∃ r, s.tree.tick now = r := ⟨_, rfl⟩
 have HTO := Lib.hid hto
 have HTK := Lib.hid (show BrOk { s.aged now with tree := (s.tree.tick now).1 } from ticked_brok (now := now) B3.out.ok)
 rw [hto] at HTK
 rw [hto] at HT3 HOL HOW
 have HQ1 := Lib.hid (show s.ticks now = OL.map (bout s.c.id) from by unfold BrS.ticks; rw [hto])
 have HQ2 := Lib.hid (show s.ticked now = BrS.settled { s.aged now with tree := t' } from by unfold BrS.ticked; rw [hto])
 dsimp only at HOL HOW
 clear hto
 go_upto_region 8 with ((with_reducible refine HT3.out.mono ?_); rintro e w4 ⟨u, rfl, hr4, ht4, hu4⟩; obtain ⟨g, glen, gidx, gcl⟩ := gfacts (cell := ocell) Tryz.underlying130 (fun w => by kernel_rfl) ocell_len hr4; have R4 := Lib.hid (And.intro gidx gcl); have U4 := Lib.hid (And.intro ht4 hu4); clear hr4 ht4 hu4 gidx gcl)
 have b4 : BrAt w4 A { s.aged now with tree := t' } := B3.out.withTree t' U4.out.1 U4.out.2 HTK.out
 have T4 := Lib.hid (T3.out.trans (U4.out.2.mono B3.out.foot_t))
 have B4 := Lib.hid b4
 have HSZ4 := Lib.hid (show w.heap.size ≤ w4.heap.size from T4.out.size)
 have hn : OL.length ≤ 16 := HOL.out
 clear b4 d13 HT3 B3 T3 U4 HTK
 go_loopw [5, 7, 8, 9, 46] (fun r _ _ _ i wr => ∃ k : Nat, k ≤ OL.length ∧ i = .int .i64 (k : Nat) ∧ wr.ownsRow w4.heap.size 52 2 r ((OL.take k).map (bout s.c.id)).length (((OL.take k).map (bout s.c.id)).flatMap ocells) ∧ Below w4.heap.size w4 wr) (fun _ _ _ _ i _ => OL.length - (intOf i).toNat)
 case atStart => exact ⟨0, Nat.zero_le _, rfl, by rw [List.take_zero]; exact World.ownsRow_nil _ _ _ _, Below.refl _ _⟩
 case round =>
  obtain ⟨k, hk, rfl, hrow, hb⟩ := hrel
  by_cases hko : k < OL.length
  · obtain ⟨_, hgl, _, hgc⟩ := R4.out.2 k hko
    obtain ⟨⟨op, ⟨⟨r0, r1, r2, r3⟩, r4, r5, r6, r7⟩⟩, ho⟩ : ∃ o, OL.getD k default = o := ⟨_, rfl⟩
    rw [ho] at hgc
    have hx : ∀ j (v : Value), j < 9 → (ocell (op, ⟨⟨r0, r1, r2, r3⟩, r4, r5, r6, r7⟩))[j]? = some v → wr.cell? ⟨g, k * 9 + j, none⟩ = some v := fun j v hj hv => ((hb.cell (p := ⟨g, k * 9 + j, none⟩) hgl).trans (hgc j hj).1).trans hv
    have x0 := hx 0 (.int .i64 op) (by decide) rfl
    have x1 := hx 1 (.int .u64 r0) (by decide) rfl
    have x2 := hx 2 (.int .i64 r1) (by decide) rfl
    have x3 := hx 3 (.int .u64 r2) (by decide) rfl
    have x4 := hx 4 (.int .i64 r3) (by decide) rfl
    have x5 := hx 5 (.int .i64 r4) (by decide) rfl
    have x6 := hx 6 (.bool r5) (by decide) rfl
    have x7 := hx 7 (.bool r6) (by decide) rfl
    have x8 := hx 8 (.bool r7) (by decide) rfl
    rw [Nat.add_zero] at x0
    have hp := R4.out.1 k hko
    have hek : OL[k] = (op, ⟨⟨r0, r1, r2, r3⟩, r4, r5, r6, r7⟩) := by rw [← ho]; simp [List.getD_eq_getElem?_getD, hko]
    have hu := HOW.out _ (List.getElem_mem hko)
    rw [hek] at hu
    have HEN := Lib.hid (fun W => benc_any ⟨⟨r0, r1, r2, r3⟩, r4, r5, r6, r7⟩ W hu.1 hu.2)
    have HBL := Lib.hid (bEnc_len ⟨⟨r0, r1, r2, r3⟩, r4, r5, r6, r7⟩)
    have HS := Lib.hid (show (OL.take (k + 1)).map (bout s.c.id) = (OL.take k).map (bout s.c.id) ++ [bout s.c.id (op, ⟨⟨r0, r1, r2, r3⟩, r4, r5, r6, r7⟩)] from by rw [List.take_succ_eq_append_getElem hko, List.map_append, hek]; rfl)
    unfold bout at HS
    dsimp only at HS
    obtain ⟨⟨bs, be⟩, hbe⟩ : ∃ x, bEnc ⟨⟨r0, r1, r2, r3⟩, r4, r5, r6, r7⟩ = x := ⟨_, rfl⟩
    rw [hbe] at HEN HBL HS
    dsimp only at HBL HS
    have HFE := Lib.hid (fun W => enc_any ⟨toBpdu, ownM s.c.id, false, 0, 0, 39, bs⟩ W ⟨by unfold toBpdu maxLen; simp, ownM_ok _, HBL.out⟩)
    obtain ⟨⟨es, ee⟩, hE⟩ : ∃ x, eEnc ⟨toBpdu, ownM s.c.id, false, 0, 0, 39, bs⟩ = x := ⟨_, rfl⟩
    rw [hE] at HFE HS
    dsimp only at HS
    unfold encF fcells at HFE
    dsimp only at HFE
    unfold encB bcells at HEN
    dsimp only at HEN
    have HOA := Lib.hid (show ∀ W, Below w4.heap.size w4 W → Calls Tryz.prog 74 #[.pointer (some ⟨A.b, 0, none⟩)] W (fun e w' => e = .returned (.string (bstr (ownM s.c.id))) ∧ Below W.heap.size W w') from fun W hW => own_addr A { s.aged now with tree := t' } W (B4.out.below hW))
    have HL := Lib.hid (show ((OL.take k).map (bout s.c.id)).length ≤ 16 from by rw [List.length_map, List.length_take]; omega)
    obtain ⟨LK, hLK⟩ : ∃ l, (OL.take k).map (fun o => (o.1, (eEnc ⟨toBpdu, ownM s.c.id, false, 0, 0, 39, (bEnc o.2).1⟩).1)) = l := ⟨_, rfl⟩
    have hLK2 : (OL.take k).map (bout s.c.id) = LK := hLK
    rw [hLK2] at hrow HL
    rw [hLK] at HS
    have HRW := Lib.hid hrow; have HB := Lib.hid hb
    obtain ⟨V1, hV1⟩ : ∃ W, wr.alloc (.cells #[.int .i64 op, .int .u64 r0, .int .i64 r1, .int .u64 r2, .int .i64 r3, .int .i64 r4, .bool r5, .bool r6, .bool r7] 133) = W := ⟨_, rfl⟩
    obtain ⟨nb, hnb⟩ : ∃ n, wr.heap.size = n := ⟨_, rfl⟩
    have hb1 : Below wr.heap.size wr V1 := by rw [← hV1]; exact (Below.refl _ _).alloc (Nat.le_refl _) _
    have XV := Lib.hid (show CBox V1 nb 133 #[.int .i64 op, .int .u64 r0, .int .i64 r1, .int .u64 r2, .int .i64 r3, .int .i64 r4, .bool r5, .bool r6, .bool r7] from by rw [← hV1]; exact CBox.new _ hnb.symm)
    have BV := Lib.hid (hb.trans (hb1.mono hb.size)); have RV := Lib.hid (gown_bel hrow hb1); have HV1 := Lib.hid hV1; have HNB := Lib.hid hnb
    have hc3 : LK.length + 1 ≤ maxLen := by have := HL.out; unfold maxLen; omega
    have hc4 : (LK.length + 1) * 24 ≤ 140737488355328 := by have := HL.out; omega
    have HC3 := Lib.hid hc3; have HC4 := Lib.hid hc4
    clear hc3 hc4 hb1 hnb hrow hb hgl hgc hx ho hek hu hbe hE hLK hLK2
    go_upto_region 10 with fail
    rw [HNB.out]
    clear x0 x1 x2 x3 x4 x5 x6 x7 x8 hp hV1
    obtain ⟨c0, cf0⟩ := CBox.at_ XV.out 0 _ rfl
    obtain ⟨c1, cf1⟩ := CBox.at_ XV.out 1 _ rfl
    obtain ⟨c2, cf2⟩ := CBox.at_ XV.out 2 _ rfl
    obtain ⟨c3, cf3⟩ := CBox.at_ XV.out 3 _ rfl
    obtain ⟨c4, cf4⟩ := CBox.at_ XV.out 4 _ rfl
    obtain ⟨c5, cf5⟩ := CBox.at_ XV.out 5 _ rfl
    obtain ⟨c6, cf6⟩ := CBox.at_ XV.out 6 _ rfl
    obtain ⟨c7, cf7⟩ := CBox.at_ XV.out 7 _ rfl
    obtain ⟨c8, cf8⟩ := CBox.at_ XV.out 8 _ rfl
    go_upto_region 11 with ((with_reducible refine (HEN.out V1).mono ?_); rintro e w5 ⟨rfl, hb5⟩; have B5 := Lib.hid (BV.out.trans (hb5.mono BV.out.size)); have R5 := Lib.hid (gown_bel RV.out hb5); have X5 := Lib.hid (XV.out.below hb5 XV.out.lt); clear hb5)
    go_upto_region 12 with (first | ((with_reducible refine (bpduTo_any _).mono ?_); rintro e w6 ⟨rfl, hw6⟩; subst w6) | ((with_reducible refine (HOA.out w5 B5.out).mono ?_); rintro e w6 ⟨rfl, hb6⟩; have B6 := Lib.hid (B5.out.trans (hb6.mono B5.out.size)); have R6 := Lib.hid (gown_bel R5.out hb6); have X6 := Lib.hid (X5.out.below hb6 X5.out.lt); clear hb6) | ((with_reducible refine (HFE.out w6).mono ?_); rintro e w7 ⟨rfl, hb7⟩; have B7 := Lib.hid (B6.out.trans (hb7.mono B6.out.size)); have R7 := Lib.hid (gown_bel R6.out hb7); have X7 := Lib.hid (X6.out.below hb7 X6.out.lt); have HSZ := Lib.hid B7.out.size; clear hb7))
    clear c0 cf0 c1 cf1 c2 cf2 c3 cf3 c4 cf4 c5 cf5 c6 cf6 c7 cf7 c8 cf8
    obtain ⟨d0, df0⟩ := X7.out.at_ 0 _ rfl
    go_wp2_with (at_builtin; refine wpList_append_own _ rfl _ _ 43 rfl w4.heap.size 52 i0 (.agg #[.int .i64 0, .string ⟨#[]⟩]) 2 24 Tryz.underlying43 hi hz0 hz1 hz2 rfl (by decide) _ _ _ rfl (R7.out.alloc _) ⟨w7.heap.size, 0, none⟩ 1 1 (ocells (op, es)) rfl rfl (ocells_new _ _ _) (ocells_one _) HC3.out HC4.out (by have := HSZ.out; simp; omega) ?_; intro v' w8 hown8 hg8 _; have HO8 := Lib.hid hown8; have HB8 := Lib.hid (below_own (B7.out.alloc HSZ.out (.cells #[.int .i64 op, .string (bstr es)] 52)) (R7.out.alloc _) (Nat.le_refl _) (by have := HSZ.out; simp; omega) hg8); clear hown8 hg8)
    go_roundw
    case rel => exact ⟨k + 1, by omega, by go_num, by have := HS.out; unfold bout; rw [this, List.length_append, List.flatMap_append]; simpa using HO8.out, HB8.out⟩
    case measure => simp [intOf]; omega
  · obtain rfl : k = OL.length := by omega
    have b5 : BrAt wr A { s.aged now with tree := t' } := B4.out.below hb
    have HRW := Lib.hid hrow
    rw [List.take_length] at HRW
    have T5 := Lib.hid (T4.out.trans (Turn.of_below (F := bfoot A) hb))
    have HSE := Lib.hid (bsettle_any A _ wr b5)
    have HSZ := Lib.hid (show w4.heap.size ≤ wr.heap.size from hb.size)
    have B5 := Lib.hid b5
    have HNF := Lib.hid (fun j (hj : w4.heap.size ≤ j) => B4.out.new hj)
    clear hrow hb b5 B4 T4
    go_upto_region 15 with ((with_reducible refine HSE.out.mono ?_); rintro e w6 ⟨rfl, h6, u6⟩; have B6 := Lib.hid h6; have U6 := Lib.hid u6; clear h6 u6)
    obtain ⟨s6, hs6⟩ : ∃ S, BrS.settled { s.aged now with tree := t' } = S := ⟨_, rfl⟩
    have hvq : s6.vl = s.vl ∧ s6.qs = s.qs := by rw [← hs6]; unfold BrS.settled; split <;> exact ⟨rfl, rfl⟩
    rw [hs6] at HQ2 B6
    have HQ6 := Lib.hid (show Quiet s6.vl s6.qs from by rw [hvq.1, hvq.2]; exact HQT.out)
    have T6 := Lib.hid (T5.out.trans U6.out)
    have R6 := Lib.hid (U6.out.row HRW.out fun g hg => HNF.out g (HRW.out.lt g hg).1)
    clear hs6 hvq HSE T5 U6 B5 HRW HSZ
    obtain ⟨vb, vo, _, vlen, _, _⟩ := B6.out.vlans.facts
    have c18 := B6.out.cell 18 (v := A.vvl) rfl
    obtain ⟨n, hN⟩ : ∃ n, s6.vl.length = n := ⟨_, rfl⟩
    have hn20 : n ≤ 20 := by rw [← hN]; exact B6.out.ok.vl.1
    rw [hN] at vlen
    have HN := Lib.hid hN
    clear hN
    go_wp2_with fail
    go_loopw [5, 11, 13, 80] (fun r _ _ i wr => r = u5 ∧ ∃ k : Nat, k ≤ n ∧ i = .int .i64 (k : Nat) ∧ ∃ qs, BrAt wr A { s6 with qs := qs } ∧ Quiet s6.vl qs ∧ Turn (bfoot A) w6 wr) (fun _ _ _ i _ => n - (intOf i).toNat)
    case atStart => exact ⟨rfl, 0, Nat.zero_le _, rfl, s6.qs, B6.out, HQ6.out, Turn.refl _ _⟩
    case round =>
     obtain ⟨rfl, k, hk, rfl, qs, hbr, hqs, htn⟩ := hrel
     by_cases hlt : k < n
     · obtain ⟨xb, xo, _, _, xidx, xcl⟩ := hbr.vlans.facts
       have xp := xidx k (by rw [HN.out]; exact hlt)
       obtain ⟨_, xc⟩ := xcl k (by rw [HN.out]; exact hlt)
       obtain ⟨v, hv⟩ : ∃ v, s6.vl.getD k 0 = v := ⟨_, rfl⟩
       dsimp only at xc
       rw [hv] at xc
       have hvm : s6.vl.contains v = true := by
        have hkl : k < s6.vl.length := by rw [HN.out]; exact hlt
        rw [← hv]
        simp [List.getD_eq_getElem?_getD, hkl]
       have HVM := Lib.hid hvm
       have HVB := Lib.hid (hbr.ok.vl.2 v (by simpa using hvm))
       obtain ⟨W1, hW1⟩ : ∃ W, wr.alloc (.cells #[.int .i64 4, .int .i64 16] 3) = W := ⟨_, rfl⟩
       obtain ⟨lb, hlb⟩ : ∃ n, wr.heap.size = n := ⟨_, rfl⟩
       have hb1 : Below wr.heap.size wr W1 := by rw [← hW1]; exact (Below.refl _ _).alloc (Nat.le_refl _) _
       have hx1 : CBox W1 lb 3 #[.int .i64 4, .int .i64 16] := by rw [← hW1]; exact CBox.new _ hlb.symm
       have HNL := Lib.hid (hbr.new (Nat.le_of_eq hlb))
       have B1 := Lib.hid (hbr.below hb1); have X1 := Lib.hid hx1; have QS := Lib.hid hqs; have T1 := Lib.hid (htn.trans (Turn.of_below (F := bfoot A) hb1))
       have hl2 : ∀ ty W, (Builtin.len_ #[23] ty #[.slice (some ⟨lb, 0, none⟩) 2 2]).run Tryz.prog W = .ok (.int .i64 2) W := fun ty W => run_len_any Tryz.underlying23 _ 2 2 ty W
       have hi2 : ∀ j : Nat, j < 2 → ∀ W, (Instr.indexAt 23 (.slice (some ⟨lb, 0, none⟩) 2 2) (.int .i64 j)).run Tryz.prog W = .ok (.pointer (some ⟨lb, j, none⟩)) W := fun j hj W => by
        have := run_index_any (P := Tryz.prog) (s := 1) Tryz.underlying23 (fun w => by kernel_rfl) lb 0 2 2 j hj W
        rwa [Nat.mul_one, Nat.zero_add] at this
       have HW1 := Lib.hid hW1; have HLB := Lib.hid hlb; have HI2 := Lib.hid hi2
       clear hbr hqs htn xidx xcl hv hvm hb1 hx1 hW1 hlb hi2 vlen c18
       go_upto_region 18 with fail
       go_upto_region 19 with fail
       rw [HW1.out, HLB.out]
       clear hl2
       go_loopw [5, 13, 86] (fun r _ j wr => r = u5 ∧ ∃ k2 : Nat, k2 ≤ 2 ∧ j = .int .i64 (k2 : Nat) ∧ CBox wr lb 3 #[.int .i64 4, .int .i64 16] ∧ ∃ qs, BrAt wr A { s6 with qs := qs } ∧ Quiet s6.vl qs ∧ Turn (bfoot A) w6 wr) (fun _ _ j _ => 2 - (intOf j).toNat)
       case atStart => exact ⟨rfl, 0, Nat.zero_le _, rfl, X1.out, qs, B1.out, QS.out, T1.out⟩
       case round =>
        obtain ⟨rfl, k2, hk2, rfl, hx2, qs2, hbr2, hqs2, htn2⟩ := hrel
        by_cases hlt2 : k2 < 2
        · have hip := HI2.out k2 hlt2
          obtain ⟨z, hz, hz'⟩ : ∃ z : Int, wr.cell? ⟨lb, k2, none⟩ = some (.int .i64 z) ∧ (z = 4 ∨ z = 16) := by
           have : k2 = 0 ∨ k2 = 1 := by omega
           rcases this with rfl | rfl
           · exact ⟨4, (hx2.at_ 0 _ rfl).1, .inl rfl⟩
           · exact ⟨16, (hx2.at_ 1 _ rfl).1, .inr rfl⟩
          have hd : qdom s6.vl (v, z) = true := by
           unfold qdom
           dsimp only
           rw [HVM.out]
           rcases hz' with rfl | rfl <;> rfl
          have c19 := hbr2.cell 19 (v := .map (some A.qm)) rfl
          obtain ⟨nq, hmq⟩ := hbr2.qmap
          have hget := hmq.get Tryz.underlying79 (z := .pointer none) (by kernel_rfl) (v, z) ⟨WalkArith.wf_i64 (n := v) (by have := HVB.out; omega), by rcases hz' with rfl | rfl <;> rfl⟩
          rw [show (if qdom s6.vl (v, z) = true then some (Value.pointer (some ⟨A.qb (v, z), 0, none⟩)) else none).getD (.pointer none) = .pointer (some ⟨A.qb (v, z), 0, none⟩) from by rw [hd]; rfl] at hget
          replace hget : (Instr.lookup 79 (.map (some A.qm)) (.agg #[.int .i64 v, .int .i64 z]) false).run Tryz.prog wr = .ok (.pointer (some ⟨A.qb (v, z), 0, none⟩)) wr := hget
          have hqq : Calls Tryz.prog 75 #[.pointer (some ⟨A.qb (v, z), 0, none⟩), .int .i64 now] wr (RetQt wr (A.qb (v, z)) ((qs2 (v, z)).tick now)) := qtick_any (A.qb (v, z)) (qs2 (v, z)) now wr (hbr2.qs _ hd) (hbr2.ok.qs _ hd) (by have := HNB.out; omega)
          have hok := qrok_tick (now := now) (hbr2.ok.qs _ hd)
          rw [qtick_quiet now (hqs2 _ hd)] at hqq hok
          have HQQ := Lib.hid hqq
          have HOK := Lib.hid hok
          have HD := Lib.hid hd; have BR2 := Lib.hid hbr2; have QS2 := Lib.hid hqs2; have TN2 := Lib.hid htn2; have X2 := Lib.hid hx2
          obtain ⟨qa, hqa⟩ : ∃ n, A.qb (v, z) = n := ⟨_, rfl⟩
          have HQA := Lib.hid hqa
          rw [hqa] at hget HQQ
          clear hbr2 hqs2 htn2 hx2 hmq hqq hok hd hz' hqa
          go_wp2_with ((with_reducible refine HQQ.out.mono ?_); rintro e w7 ⟨rfl, h7, u7⟩; have H7 := Lib.hid (And.intro h7 u7); clear h7 u7)
          go_roundw
          case rel =>
           refine ⟨rfl, k2 + 1, by omega, by go_num, ?_, _, BR2.out.withQr (v, z) _ HD.out (by rw [HQA.out]; exact H7.out.1) (by rw [HQA.out]; exact H7.out.2) HOK.out, ?_, ?_⟩
           · exact H7.out.2.cbox X2.out fun e => HNL.out (e ▸ HQA.out ▸ (BR2.out.foot_q HD.out _ rfl))
           · intro y hy
             dsimp only
             split
             · exact QS2.out _ HD.out
             · exact QS2.out y hy
           · exact TN2.out.trans (H7.out.2.mono fun j hj => BR2.out.foot_q HD.out j (by rw [HQA.out]; exact hj))
          case measure => simp [intOf]; omega
        · obtain rfl : k2 = 2 := by omega
          have BR2 := Lib.hid hbr2; have QS2 := Lib.hid hqs2; have TN2 := Lib.hid htn2
          clear hbr2 hqs2 htn2 hx2
          go_wp2_with fail
          go_roundw
          case rel => exact ⟨rfl, k + 1, by omega, by go_num, qs2, BR2.out, QS2.out, TN2.out⟩
          case measure => simp [intOf]; omega
     · obtain rfl : k = n := by omega
       have c17 := hbr.cell 17 (v := .pointer (some ⟨A.ap, 0, none⟩)) rfl
       have HDU := Lib.hid (due_none A.ap A.wp A.tm A.wm s6.c.robust s6.c.last now wr hbr.asks)
       have BR := Lib.hid hbr; have QS := Lib.hid hqs; have TN := Lib.hid htn
       have hl0 : ∀ ty W, (Builtin.len_ #[138] ty #[.slice none 0 0]).run Tryz.prog W = .ok (.int .i64 0) W := fun ty W => run_len_any Tryz.underlying138 none 0 0 ty W
       clear hbr hqs htn vlen c18
       go_upto_region 26 with ((with_reducible refine HDU.out.mono ?_); rintro e w7 ⟨rfl, hw7⟩; subst w7)
       go_loopw [5, 15, 16, 117] (fun r _ _ j wy => r = u5 ∧ j = .int .i64 0 ∧ wy = wr) (fun _ _ _ _ _ => 0)
       case atStart => exact ⟨rfl, rfl, rfl⟩
       case round =>
        obtain ⟨rfl, rfl, rfl⟩ := hrel
        go_wp2_with fail
        go_ret
        refine ⟨_, qs, rfl, ?_, by rw [HQ2.out]; exact BR.out, by rw [HQ2.out]; exact QS.out, T6.out.trans TN.out⟩
        rw [HQ1.out]
        exact own_base2 (TN.out.row R6.out fun g hg => HNF.out g (R6.out.lt g hg).1) HSZ4.out

def BrS.learned (s : BrS) (v : Int) (mc : Str) (port now : Int) : BrS := if learnB v mc port now = true then { s with fdb := updE s.fdb (v, mc) (port, now) } else s
theorem updE_keys {F : Fdb} {k : Int × Str} {e : Int × Int} {L : List (Int × Str)} {room : Int} (h : KeysV (encV F) L) (hl : (L.length : Int) ≤ room) (hr : F k ≠ none ∨ (L.length : Int) < room) : ∃ L', KeysV (encV (updE F k e)) L' ∧ (L'.length : Int) ≤ room := by
 have en : ∀ (G : Fdb) x, encV G x ≠ none ↔ G x ≠ none := fun G x => by unfold encV; cases G x <;> simp
 by_cases hk : F k = none
 · rcases hr with hr | hr
   · exact absurd hk hr
   · refine ⟨k :: L, ⟨List.nodup_cons.2 ⟨fun hm => ((en F k).1 ((h.2 k).1 hm)) hk, h.1⟩, fun x => ?_⟩, by rw [List.length_cons]; omega⟩
     rw [List.mem_cons, h.2 x, en, en]
     unfold updE
     by_cases hx : x = k
     · subst hx; simp
     · simp [hx]
 · refine ⟨L, ⟨h.1, fun x => ?_⟩, hl⟩
   rw [h.2 x, en, en]
   unfold updE
   by_cases hx : x = k
   · subst hx; simp [hk]
   · simp [hx]
theorem updE_ok {F : Fdb} {v port now : Int} {mc : Str} (h : FdOk F) (hb : learnB v mc port now = true) : FdOk (updE F (v, mc) (port, now)) := ⟨fun k e he => by
 unfold updE at he
 split at he
 · injection he with he; subst he
   unfold learnB inBetween at hb
   simp only [Bool.and_eq_true, decide_eq_true_eq] at hb
   exact ⟨⟨hb.1.2.1, hb.1.2.2⟩, ⟨hb.2.1, hb.2.2⟩⟩
 · exact h.at_ k e he⟩
def RetBl (w : World) (A : Adr) (s : BrS) (e : Ending) (w' : World) : Prop := (∃ b : Bool, e = .returned (.bool b)) ∧ BrAt w' A s ∧ Turn (fun j => j = A.fm) w w'
theorem blearn_any (A : Adr) (s : BrS) (v port now : Int) (mc : Str) (w : World) (h : BrAt w A s) (hr : ∀ L, KeysV (encV s.fdb) L → s.fdb (v, mc) ≠ none ∨ (L.length : Int) < s.c.room) :
 Calls Tryz.prog 63 #[.pointer (some ⟨A.fp, 0, none⟩), .int .i64 v, .string (bstr mc), .int .i64 port, .int .i64 now] w (RetBl w A (s.learned v mc port now)) := by
 unfold BrS.learned
 cases hb : learnB v mc port now
 · rw [if_neg (by decide)]
   refine (flearn_no A.fp v port now mc w hb).mono ?_
   rintro e w' ⟨rfl, rfl⟩
   exact ⟨⟨_, rfl⟩, h, Turn.refl _ _⟩
 · rw [if_pos rfl]
   obtain ⟨L, l1, l2, l3⟩ := h.fdb
   have hroom := h.ok.room
   refine (flearn_yes A.fp A.fm L.length s.c.room s.c.age v port now mc s.fdb L w l3 hb l1 (hr L l1) (by omega)).mono ?_
   rintro e w' ⟨rfl, hf, ht⟩
   obtain ⟨L', m1, m2⟩ := updE_keys (e := (port, now)) l1 l2 (hr L l1)
   exact ⟨⟨_, rfl⟩, h.withFdb _ ⟨L', m1, m2, hf.box, hf.map.tight Tryz.underlying149 m1⟩ ht (updE_ok h.ok.fdb hb), ht⟩
theorem eDec_frOk (s : Str) (h : s.length ≤ maxLen) : frOk (eDec s).1 := by
 unfold eDec
 split
 · exact frZero_ok
 · split
   · split
     · exact frZero_ok
     · split
       · exact frZero_ok
       · split
         · exact frZero_ok
         · exact ⟨by simp; omega, by simp; omega, by simp; omega⟩
   · split
     · exact frZero_ok
     · exact ⟨by simp; omega, by simp; omega, by simp; omega⟩
theorem vIn_frOk (l : List Pt) (q : Int) {f : Fr} (h : frOk f) : frOk (vIn l q f).1 := by
 rw [vIn_asked]
 split
 · exact frZero_ok
 · unfold vIn1
   repeat' split
   all_goals first | exact frZero_ok | exact h | exact ⟨h.1, h.2.1, h.2.2⟩
def BrS.inS (s : BrS) (g : Fr) (port now : Int) : BrS := if s.tree.learns port = true then s.learned g.vlan g.src port now else s
def BrS.inL (s : BrS) (g : Fr) (port now : Int) : List (Int × Str) := if s.tree.forwards port = true then plainTo (s.inS g port now) g port now else []
def RetTa (w : World) (A : Adr) (s : BrS) (L : List (Int × Str)) (e : Ending) (w' : World) : Prop := ∃ v, e = .returned v ∧ w'.ownsRow w.heap.size 52 2 v L.length (L.flatMap ocells) ∧ BrAt w' A s ∧ Turn (bfoot A) w w'
theorem inS_tree (s : BrS) (g : Fr) (port now : Int) : (s.inS g port now).tree = s.tree := by
 unfold BrS.inS BrS.learned
 split
 · split <;> rfl
 · rfl
set_option maxHeartbeats 16000000 in
theorem btake_plain (A : Adr) (s : BrS) (port now : Int) (str : Str) (f g : Fr) (w : World) (h : BrAt w A s) (hn : inBetween now 1 1099511627776 = true) (hrl : (s.tree.roleOf port == 0) = false) (hs : str.length ≤ maxLen)
 (hf : eDec str = (f, 0)) (hto : f.dst ≠ toBpdu) (hg : vIn s.c.ports port f = (g, 0)) (hvl : (Lit.int .i64 g.vlan).wf = true) (h4 : g.typ ≠ 2048) (h6 : g.typ ≠ 34525) (hr : ∀ L, KeysV (encV s.fdb) L → s.fdb (g.vlan, g.src) ≠ none ∨ (L.length : Int) < s.c.room) :
 Calls Tryz.prog 25 #[.pointer (some ⟨A.b, 0, none⟩), .int .i64 port, .string (bstr str), .int .i64 now] w (RetTa w A (s.inS g port now) (s.inL g port now)) := by
 have c13 := h.cell 13 (v := .pointer (some ⟨A.tp, 0, none⟩)) rfl
 have hgo := goes_any A.b now w
 rw [hn] at hgo
 have HG := Lib.hid hgo
 have HRO := Lib.hid (trole_any A.tp A.tg A.tcap s.tree port w h.tree)
 have hfo : frOk f := by have := eDec_frOk str hs; rwa [hf] at this
 have hgo2 : frOk g := by have := vIn_frOk s.c.ports port hfo; rwa [hg] at this
 have hde := dec_any str w hs
 rw [hf] at hde
 have HDE := Lib.hid hde
 have HVI := Lib.hid (fun W (hW : BrAt W A s) => vin_any (fun j => A.kind j = 8) A.vports s.c.ports port f W hW.ports hfo)
 rw [hg] at HVI
 have HLR := Lib.hid (fun W (hW : BrAt W A s) => tlearns_any A.tp A.tg A.tcap s.tree port W hW.tree hW.ok.tree)
 have HLE := Lib.hid (fun W (hW : BrAt W A s) => blearn_any A s g.vlan port now g.src W hW hr)
 have HFW := Lib.hid (fun W (hW : BrAt W A (s.inS g port now)) => tforwards_any A.tp A.tg A.tcap (s.inS g port now).tree port W hW.tree)
 rw [inS_tree] at HFW
 have HRD := Lib.hid (fun W => reads_none A.b g port now W h4 h6)
 have HPL := Lib.hid (fun W (hW : BrAt W A (s.inS g port now)) => plain_any A (s.inS g port now) g port now W hW hgo2 hvl hn)
 have HB := Lib.hid h
 obtain ⟨ro, hro⟩ : ∃ r, s.tree.roleOf port = r := ⟨_, rfl⟩
 rw [hro] at HRO hrl
 obtain ⟨lr, hlr⟩ : ∃ b, s.tree.learns port = b := ⟨_, rfl⟩
 obtain ⟨fw, hfw⟩ : ∃ b, s.tree.forwards port = b := ⟨_, rfl⟩
 have HS1 := Lib.hid (show s.inS g port now = if lr = true then s.learned g.vlan g.src port now else s from by rw [← hlr]; rfl)
 have HL1 := Lib.hid (show s.inL g port now = if fw = true then plainTo (s.inS g port now) g port now else [] from by rw [← hfw]; rfl)
 simp only [hlr] at HLR
 simp only [hfw] at HFW
 obtain ⟨f1, f2, f3, f4, f5, f6, f7⟩ := f
 obtain ⟨g1, g2, g3, g4, g5, g6, g7⟩ := g
 have hdne : ((bstr f1).toList == (bstr toBpdu).toList) = false := by rw [bstr_toList, bstr_toList]; exact Bool.eq_false_iff.2 fun e => hto (eq_of_beq e)
 obtain ⟨s1, hs1⟩ : ∃ S, s.inS ⟨g1, g2, g3, g4, g5, g6, g7⟩ port now = S := ⟨_, rfl⟩
 obtain ⟨l1, hl1⟩ : ∃ S, s.inL ⟨g1, g2, g3, g4, g5, g6, g7⟩ port now = S := ⟨_, rfl⟩
 rw [hs1] at HS1 HL1 HPL HFW ⊢
 rw [hl1] at HL1 ⊢
 unfold RetFr encF fcells at HDE HVI
 unfold encP at HRD HPL
 dsimp only at HDE HVI HLE HRD HPL HS1
 clear h hgo hde hn hs hf hto hg hvl h4 h6 hr hfo hgo2 hro hlr hfw hs1 hl1
 go_enter Tryz.func25, Tryz.ntmps25
 go_upto_region 3 with (first | ((with_reducible refine HG.out.mono ?_); rintro e w2 ⟨rfl, hw2⟩; subst w2) | ((with_reducible refine HRO.out.mono ?_); rintro e w2 ⟨rfl, hw2⟩; subst w2))
 go_upto_region 4 with ((with_reducible refine HDE.out.mono ?_); rintro e w2 ⟨rfl, hb2⟩; have B2 := Lib.hid (HB.out.below hb2); have L2 := Lib.hid hb2; clear hb2)
 obtain ⟨V1, hV1⟩ : ∃ W, w2.alloc (.cells #[.string (bstr f1), .string (bstr f2), .bool f3, .int .i64 f4, .int .i64 f5, .int .i64 f6, .string (bstr f7)] 48) = W := ⟨_, rfl⟩
 obtain ⟨q9, hq9⟩ : ∃ q, w2.heap.size = q := ⟨_, rfl⟩
 have hb1 : Below w2.heap.size w2 V1 := by rw [← hV1]; exact (Below.refl _ _).alloc (Nat.le_refl _) _
 have BV1 := Lib.hid (B2.out.below hb1)
 have XV1 := Lib.hid (show CBox V1 q9 48 #[.string (bstr f1), .string (bstr f2), .bool f3, .int .i64 f4, .int .i64 f5, .int .i64 f6, .string (bstr f7)] from by rw [← hV1]; exact CBox.new _ hq9.symm)
 have LV1 := Lib.hid (L2.out.trans (hb1.mono L2.out.size))
 have HQ9 := Lib.hid (show A.b ≠ q9 ∧ w.heap.size ≤ q9 from by have := B2.out.box.lt; have := L2.out.size; omega)
 have HNW := Lib.hid (HB.out.new HQ9.out.2)
 rw [hV1, hq9]
 clear hV1 hq9 hb1 B2 L2 c13
 go_upto_region 6 with fail
 obtain ⟨Z, hZ⟩ : ∃ W, V1.drew = W := ⟨_, rfl⟩
 have hbz : Below V1.heap.size V1 Z := by rw [← hZ]; exact Below.drew (Below.refl _ _)
 have BZ := Lib.hid (BV1.out.below hbz); have XZ := Lib.hid (XV1.out.below hbz XV1.out.lt); have LZ := Lib.hid (LV1.out.trans (hbz.mono LV1.out.size)); have HZ := Lib.hid hZ
 clear hZ hbz BV1 XV1 LV1
 have HF := Lib.hid (fun (wq : World) (h : CBox wq q9 48 #[.string (bstr f1), .string (bstr f2), .bool f3, .int .i64 f4, .int .i64 f5, .int .i64 f6, .string (bstr f7)]) => (h.at_ 0 _ rfl).1)
 refine wp_region_held_drew (S := fun wq => CBox wq q9 48 #[.string (bstr f1), .string (bstr f2), .bool f3, .int .i64 f4, .int .i64 f5, .int .i64 f6, .string (bstr f7)]) (by kernel_rfl) (by rw [HZ.out]; exact XZ.out) (fun hHeld => ?_)
 rw [HZ.out] at hHeld ⊢
 iterate 2 (first | (refine takeO 4 (v := ?_) rfl (by kernel_rfl) (fun _ _ _ h => h) (Or.inl ⟨by rfl, ?_⟩) (by assumption) ?_; rotate_left; (focus (intro wq hSq; have f0 := HF.out wq hSq; go_simp <;> with_reducible rfl)); simp only [Act.put, List.setIfInBounds_toArray, List.set_cons_zero, List.set_cons_succ]) | (refine takeO 4 (v := undef) rfl (by kernel_rfl) (fun _ _ _ h => h) (Or.inr ⟨by rfl, rfl⟩) (by assumption) ?_; simp only [Act.put, List.setIfInBounds_toArray, List.set_cons_zero, List.set_cons_succ]))
 refine wpAnyH_ready (rs := [2]) (by kernel_rfl) (by simp) (nextL 2 rfl (fun Kr hKr => ?_) AllReadyH.nil)
 rw [if_pos (by rfl)]
 go_simp
 (with_reducible refine (bpduTo_any Z).mono ?_)
 rintro e w3 ⟨rfl, hw3⟩
 subst w3
 refine hKr.out _ _ hHeld (fun _ => ?_)
 clear hKr
 iterate 1 (first | (refine takeO 4 (v := ?_) rfl (by kernel_rfl) (fun _ _ _ h => h) (Or.inl ⟨by rfl, ?_⟩) (by assumption) ?_; rotate_left; (focus (intro wq hSq; go_simp <;> with_reducible rfl)); simp only [Act.put, List.setIfInBounds_toArray, List.set_cons_zero, List.set_cons_succ]) | (refine takeO 4 (v := undef) rfl (by kernel_rfl) (fun _ _ _ h => h) (Or.inr ⟨by rfl, rfl⟩) (by assumption) ?_; simp only [Act.put, List.setIfInBounds_toArray, List.set_cons_zero, List.set_cons_succ]))
 refine wpAnyH_done (by kernel_rfl) ?_ _
 clear HF hHeld HZ
 go_upto_region 12 with fail
 clear hdne
 obtain ⟨Z2, hZ2⟩ : ∃ W, Z.drew = W := ⟨_, rfl⟩
 have hbz : Below Z.heap.size Z Z2 := by rw [← hZ2]; exact Below.drew (Below.refl _ _)
 have B2 := Lib.hid (BZ.out.below hbz); have X2 := Lib.hid (XZ.out.below hbz XZ.out.lt); have L2 := Lib.hid (LZ.out.trans (hbz.mono LZ.out.size)); have HZ2 := Lib.hid hZ2
 clear hZ2 hbz BZ XZ LZ
 have HF := Lib.hid (fun (wq : World) (h : CBox wq A.b 85 (brcells A s)) => (h.at_ 2 A.vports rfl).1)
 refine wp_region_held_drew (S := fun wq => CBox wq A.b 85 (brcells A s)) (by kernel_rfl) (by rw [HZ2.out]; exact B2.out.box) (fun hHeld => ?_)
 rw [HZ2.out] at hHeld ⊢
 iterate 6 (first | (refine takeO 13 (v := ?_) rfl (by kernel_rfl) (fun _ _ _ h => h) (Or.inl ⟨by rfl, ?_⟩) (by assumption) ?_; rotate_left; (focus (intro wq hSq; have f0 := HF.out wq hSq; go_simp <;> with_reducible rfl)); simp only [Act.put, List.setIfInBounds_toArray, List.set_cons_zero, List.set_cons_succ]) | (refine takeO 13 (v := undef) rfl (by kernel_rfl) (fun _ _ _ h => h) (Or.inr ⟨by rfl, rfl⟩) (by assumption) ?_; simp only [Act.put, List.setIfInBounds_toArray, List.set_cons_zero, List.set_cons_succ]))
 obtain ⟨c0, cf0⟩ := CBox.at_ X2.out 0 _ rfl
 obtain ⟨c1, cf1⟩ := CBox.at_ X2.out 1 _ rfl
 obtain ⟨c2, cf2⟩ := CBox.at_ X2.out 2 _ rfl
 obtain ⟨c3, cf3⟩ := CBox.at_ X2.out 3 _ rfl
 obtain ⟨c4, cf4⟩ := CBox.at_ X2.out 4 _ rfl
 obtain ⟨c5, cf5⟩ := CBox.at_ X2.out 5 _ rfl
 obtain ⟨c6, cf6⟩ := CBox.at_ X2.out 6 _ rfl
 refine wpAnyH_ready (rs := [6]) (by kernel_rfl) (by simp) (nextL 6 rfl (fun Kr hKr => ?_) AllReadyH.nil)
 rw [if_pos (by rfl)]
 go_simp
 refine hKr.out _ _ hHeld (fun _ => ?_)
 clear hKr
 refine wpAnyH_ready (rs := [7]) (by kernel_rfl) (by simp) (nextL 7 rfl (fun Kr hKr => ?_) AllReadyH.nil)
 rw [if_pos (by rfl)]
 go_simp
 (with_reducible refine (HVI.out Z2 B2.out).mono ?_)
 rintro e w3 ⟨rfl, hb3⟩
 have B3 := Lib.hid (B2.out.below hb3); have X3 := Lib.hid (X2.out.below hb3 X2.out.lt); have L3 := Lib.hid (L2.out.trans (hb3.mono L2.out.size))
 refine hKr.out _ _ B3.out.box (fun _ => ?_)
 clear hKr hb3 B2 X2 L2 c0 cf0 c1 cf1 c2 cf2 c3 cf3 c4 cf4 c5 cf5 c6 cf6
 have hHeld := (show CBox w3 A.b 85 (brcells A s) from B3.out.box)
 iterate 3 (first | (refine takeO 13 (v := ?_) rfl (by kernel_rfl) (fun _ _ _ h => h) (Or.inl ⟨by rfl, ?_⟩) (by assumption) ?_; rotate_left; (focus (intro wq hSq; go_simp <;> with_reducible rfl)); simp only [Act.put, List.setIfInBounds_toArray, List.set_cons_zero, List.set_cons_succ]) | (refine takeO 13 (v := undef) rfl (by kernel_rfl) (fun _ _ _ h => h) (Or.inr ⟨by rfl, rfl⟩) (by assumption) ?_; simp only [Act.put, List.setIfInBounds_toArray, List.set_cons_zero, List.set_cons_succ]))
 obtain ⟨c0, cf0⟩ := CBox.at_ X3.out 0 _ rfl
 obtain ⟨c1, cf1⟩ := CBox.at_ X3.out 1 _ rfl
 obtain ⟨c2, cf2⟩ := CBox.at_ X3.out 2 _ rfl
 obtain ⟨c3, cf3⟩ := CBox.at_ X3.out 3 _ rfl
 obtain ⟨c4, cf4⟩ := CBox.at_ X3.out 4 _ rfl
 obtain ⟨c5, cf5⟩ := CBox.at_ X3.out 5 _ rfl
 obtain ⟨c6, cf6⟩ := CBox.at_ X3.out 6 _ rfl
 refine wpAnyH_ready (rs := [11]) (by kernel_rfl) (by simp) (nextL 11 rfl (fun Kr hKr => ?_) AllReadyH.nil)
 rw [if_pos (by rfl)]
 go_simp
 obtain ⟨V4, hV4⟩ : ∃ W, setsL w3 q9 0 [.string (bstr g1), .string (bstr g2), .bool g3, .int .i64 g4, .int .i64 g5, .int .i64 g6, .string (bstr g7)] = W := ⟨_, rfl⟩
 have X4 := Lib.hid (show CBox V4 q9 48 #[.string (bstr g1), .string (bstr g2), .bool g3, .int .i64 g4, .int .i64 g5, .int .i64 g6, .string (bstr g7)] from by rw [← hV4]; exact cells7s X3.out _ _ _ _ _ _ _)
 have P4 := Lib.hid (show CBox V4 A.b 85 (brcells A s) from by rw [← hV4]; exact setsL_far HQ9.out.1 _ 0 B3.out.box)
 have L4 := Lib.hid (show Below w.heap.size w V4 from by rw [← hV4]; exact setsL_below HQ9.out.2 _ 0 L3.out)
 have B4 := Lib.hid (HB.out.below L4.out)
 dsimp only [setsL] at hV4
 rw [hV4]
 refine hKr.out _ _ P4.out (fun _ => ?_)
 clear hKr hV4 B3 X3 L3 c0 cf0 c1 cf1 c2 cf2 c3 cf3 c4 cf4 c5 cf5 c6 cf6
 have hHeld := (show CBox V4 A.b 85 (brcells A s) from P4.out)
 iterate 1 (first | (refine takeO 13 (v := ?_) rfl (by kernel_rfl) (fun _ _ _ h => h) (Or.inl ⟨by rfl, ?_⟩) (by assumption) ?_; rotate_left; (focus (intro wq hSq; go_simp <;> with_reducible rfl)); simp only [Act.put, List.setIfInBounds_toArray, List.set_cons_zero, List.set_cons_succ]) | (refine takeO 13 (v := undef) rfl (by kernel_rfl) (fun _ _ _ h => h) (Or.inr ⟨by rfl, rfl⟩) (by assumption) ?_; simp only [Act.put, List.setIfInBounds_toArray, List.set_cons_zero, List.set_cons_succ]))
 refine wpAnyH_done (by kernel_rfl) ?_ _
 clear HF hHeld HZ2 P4
 have c13 := B4.out.cell 13 (v := .pointer (some ⟨A.tp, 0, none⟩)) rfl
 have hlr := HLR.out V4 B4.out
 have HLRV := Lib.hid hlr
 clear hlr HLR
 go_upto_if 81 with ((with_reducible refine HLRV.out.mono ?_); rintro e w5 ⟨rfl, hb5⟩; have B5 := Lib.hid (B4.out.below hb5); have X5 := Lib.hid (X4.out.below hb5 X4.out.lt); have L5 := Lib.hid (L4.out.trans (hb5.mono L4.out.size)); clear hb5)
 clear c13 HLRV B4 X4 L4
 go_cut [] (fun W => BrAt W A s1 ∧ CBox W q9 48 #[.string (bstr g1), .string (bstr g2), .bool g3, .int .i64 g4, .int .i64 g5, .int .i64 g6, .string (bstr g7)] ∧ Turn (bfoot A) w W)
 case first =>
  cases lr
  · go_wp2_with fail
    go_meet
    case rel => exact ⟨by rw [HS1.out]; simpa using B5.out, X5.out, Turn.of_below L5.out⟩
  · go_upto_region 16 with fail
    obtain ⟨Z, hZ⟩ : ∃ W, w5.drew = W := ⟨_, rfl⟩
    have hbz : Below w5.heap.size w5 Z := by rw [← hZ]; exact Below.drew (Below.refl _ _)
    have BZ := Lib.hid (B5.out.below hbz); have XZ := Lib.hid (X5.out.below hbz X5.out.lt); have LZ := Lib.hid (L5.out.trans (hbz.mono L5.out.size)); have HZ := Lib.hid hZ
    clear hZ hbz B5 X5 L5
    have HF := Lib.hid (fun (wq : World) (h : CBox wq q9 48 #[.string (bstr g1), .string (bstr g2), .bool g3, .int .i64 g4, .int .i64 g5, .int .i64 g6, .string (bstr g7)] ∧ CBox wq A.b 85 (brcells A s)) => And.intro (h.1.at_ 1 _ rfl).1 (And.intro (h.1.at_ 3 _ rfl).1 (h.2.at_ 14 (.pointer (some ⟨A.fp, 0, none⟩)) rfl).1))
    refine wp_region_held_drew (S := fun wq => CBox wq q9 48 #[.string (bstr g1), .string (bstr g2), .bool g3, .int .i64 g4, .int .i64 g5, .int .i64 g6, .string (bstr g7)] ∧ CBox wq A.b 85 (brcells A s)) (by kernel_rfl) (by rw [HZ.out]; exact ⟨XZ.out, BZ.out.box⟩) (fun hHeld => ?_)
    rw [HZ.out] at hHeld ⊢
    iterate 10 (first | (refine takeO 11 (v := ?_) rfl (by kernel_rfl) (fun _ _ _ h => h) (Or.inl ⟨by rfl, ?_⟩) (by assumption) ?_; rotate_left; (focus (intro wq hSq; have f := HF.out wq hSq; go_simp <;> with_reducible rfl)); simp only [Act.put, List.setIfInBounds_toArray, List.set_cons_zero, List.set_cons_succ]) | (refine takeO 11 (v := undef) rfl (by kernel_rfl) (fun _ _ _ h => h) (Or.inr ⟨by rfl, rfl⟩) (by assumption) ?_; simp only [Act.put, List.setIfInBounds_toArray, List.set_cons_zero, List.set_cons_succ]))
    refine wpAnyH_ready (rs := [10]) (by kernel_rfl) (by simp) (nextL 10 rfl (fun Kr hKr => ?_) AllReadyH.nil)
    rw [if_pos (by rfl)]
    go_simp
    (with_reducible refine (HLE.out Z BZ.out).mono ?_)
    rintro e w6 ⟨⟨bb, rfl⟩, hb6, ht6⟩
    have hnm : A.fm ≠ q9 ∧ A.b ≠ A.fm := ⟨fun e => BZ.out.foot_m q9 e.symm |> fun hf => HNW.out hf, fun e => by have := BZ.out.k1; have h3 := BZ.out.k3.2; rw [e, h3] at this; exact absurd this (by decide)⟩
    have X6 := Lib.hid (ht6.cbox XZ.out (fun e => hnm.1 e.symm)); have P6 := Lib.hid (ht6.cbox BZ.out.box hnm.2); have B6 := Lib.hid hb6; have T6 := Lib.hid ((Turn.of_below LZ.out).trans (ht6.mono BZ.out.foot_m))
    refine hKr.out _ _ ⟨X6.out, P6.out⟩ (fun _ => ?_)
    refine wpAnyH_done (by kernel_rfl) ?_ _
    clear hKr hb6 ht6 hnm HF hHeld HZ
    go_wp2_with fail
    go_meet
    case rel => exact ⟨by rw [HS1.out]; simpa using B6.out, X6.out, T6.out⟩
 case rest =>
  obtain ⟨hB, hX, hT⟩ := hcut
  have B7 := Lib.hid hB; have X7 := Lib.hid hX; have T7 := Lib.hid hT
  have c13 := hB.cell 13 (v := .pointer (some ⟨A.tp, 0, none⟩)) rfl
  have HFV := Lib.hid (HFW.out _ hB)
  clear hB hX hT B5 X5 L5 HFW HLE HVI
  cases fw
  · have HL2 := Lib.hid (show l1 = [] from by rw [HL1.out, if_neg (by decide)])
    go_wp2_with ((with_reducible refine HFV.out.mono ?_); rintro e w8 ⟨rfl, hw8⟩; subst w8)
    go_ret
    exact ⟨_, rfl, by rw [HL2.out]; exact World.ownsRow_nil _ _ _ _, B7.out, T7.out⟩
  · have HL2 := Lib.hid (show l1 = plainTo s1 ⟨g1, g2, g3, g4, g5, g6, g7⟩ port now from by rw [HL1.out, if_pos rfl])
    go_upto_region 19 with ((with_reducible refine HFV.out.mono ?_); rintro e w8 ⟨rfl, hw8⟩; subst w8)
    obtain ⟨c0, cf0⟩ := CBox.at_ X7.out 0 _ rfl
    obtain ⟨c1, cf1⟩ := CBox.at_ X7.out 1 _ rfl
    obtain ⟨c2, cf2⟩ := CBox.at_ X7.out 2 _ rfl
    obtain ⟨c3, cf3⟩ := CBox.at_ X7.out 3 _ rfl
    obtain ⟨c4, cf4⟩ := CBox.at_ X7.out 4 _ rfl
    obtain ⟨c5, cf5⟩ := CBox.at_ X7.out 5 _ rfl
    obtain ⟨c6, cf6⟩ := CBox.at_ X7.out 6 _ rfl
    go_upto_region 20 with fail
    obtain ⟨V9, hV9⟩ : ∃ W, wc.alloc (.cells #[.pointer (some ⟨A.b, 0, none⟩), .string (bstr g1), .string (bstr g2), .bool g3, .int .i64 g4, .int .i64 g5, .int .i64 g6, .string (bstr g7), .int .i64 port, .int .i64 now] 117) = W := ⟨_, rfl⟩
    obtain ⟨qp, hqp⟩ : ∃ q, wc.heap.size = q := ⟨_, rfl⟩
    have hb9 : Below wc.heap.size wc V9 := by rw [← hV9]; exact (Below.refl _ _).alloc (Nat.le_refl _) _
    have B9 := Lib.hid (B7.out.below hb9)
    have X9 := Lib.hid (show CBox V9 qp 117 #[.pointer (some ⟨A.b, 0, none⟩), .string (bstr g1), .string (bstr g2), .bool g3, .int .i64 g4, .int .i64 g5, .int .i64 g6, .string (bstr g7), .int .i64 port, .int .i64 now] from by rw [← hV9]; exact CBox.new _ hqp.symm)
    have T9 := Lib.hid (T7.out.trans (Turn.of_below (F := bfoot A) hb9))
    rw [hV9, hqp]
    clear hV9 hqp hb9 B7 X7 T7 c13 HFV c0 cf0 c1 cf1 c2 cf2 c3 cf3 c4 cf4 c5 cf5 c6 cf6
    obtain ⟨c0, cf0⟩ := CBox.at_ X9.out 0 _ rfl
    obtain ⟨c1, cf1⟩ := CBox.at_ X9.out 1 _ rfl
    obtain ⟨c2, cf2⟩ := CBox.at_ X9.out 2 _ rfl
    obtain ⟨c3, cf3⟩ := CBox.at_ X9.out 3 _ rfl
    obtain ⟨c4, cf4⟩ := CBox.at_ X9.out 4 _ rfl
    obtain ⟨c5, cf5⟩ := CBox.at_ X9.out 5 _ rfl
    obtain ⟨c6, cf6⟩ := CBox.at_ X9.out 6 _ rfl
    obtain ⟨c7, cf7⟩ := CBox.at_ X9.out 7 _ rfl
    obtain ⟨c8, cf8⟩ := CBox.at_ X9.out 8 _ rfl
    obtain ⟨c9, cf9⟩ := CBox.at_ X9.out 9 _ rfl
    go_upto_region 21 with ((with_reducible refine (HRD.out V9).mono ?_); rintro e wa ⟨rfl, hba⟩; have Ba := Lib.hid (B9.out.below hba); have Xa := Lib.hid (X9.out.below hba X9.out.lt); have Ta := Lib.hid (T9.out.trans (Turn.of_below (F := bfoot A) hba)); clear hba)
    clear c0 cf0 c1 cf1 c2 cf2 c3 cf3 c4 cf4 c5 cf5 c6 cf6 c7 cf7 c8 cf8 c9 cf9
    obtain ⟨c0, cf0⟩ := CBox.at_ Xa.out 0 _ rfl
    obtain ⟨c1, cf1⟩ := CBox.at_ Xa.out 1 _ rfl
    obtain ⟨c2, cf2⟩ := CBox.at_ Xa.out 2 _ rfl
    obtain ⟨c3, cf3⟩ := CBox.at_ Xa.out 3 _ rfl
    obtain ⟨c4, cf4⟩ := CBox.at_ Xa.out 4 _ rfl
    obtain ⟨c5, cf5⟩ := CBox.at_ Xa.out 5 _ rfl
    obtain ⟨c6, cf6⟩ := CBox.at_ Xa.out 6 _ rfl
    obtain ⟨c7, cf7⟩ := CBox.at_ Xa.out 7 _ rfl
    obtain ⟨c8, cf8⟩ := CBox.at_ Xa.out 8 _ rfl
    obtain ⟨c9, cf9⟩ := CBox.at_ Xa.out 9 _ rfl
    have ha1 : ∀ W, (Instr.typeAssert .nilIface 20 124 true).run Tryz.prog W = .ok (.tuple #[.agg #[.string ⟨#[]⟩, .int .i64 0, .int .i64 0, .string ⟨#[]⟩, .int .i64 0, .bool false, .int .i64 0, .int .i64 0, .slice none 0 0, .slice none 0 0], .bool false]) W := fun W => by kernel_rfl
    have ha2 : ∀ W, (Instr.typeAssert .nilIface 20 127 true).run Tryz.prog W = .ok (.tuple #[.agg #[.string ⟨#[]⟩, .string ⟨#[]⟩], .bool false]) W := fun W => by kernel_rfl
    go_wp2_with ((with_reducible refine (HPL.out wa Ba.out).mono ?_); rintro e wb ⟨vb, rfl, hrb, hbb⟩; have RB := Lib.hid hrb; have BB := Lib.hid hbb; clear hrb hbb)
    go_ret
    exact ⟨_, rfl, by rw [HL2.out]; exact own_base2 RB.out Ta.out.size, Ba.out.below BB.out, Ta.out.trans (Turn.of_below (F := bfoot A) BB.out)⟩
end Go.Proofs.YthcdppppppgckaaGreatDoor
