/- Texts joined into one file: BRoles, BTree. -/
import Derived.Test.YthcdppppppgckaaGreatDoorA06
import Derived.Test.YthcdppppppgckaaGreatDoorA04
import Derived.Sort.OwnSorted

namespace Go.Proofs.YthcdppppppgckaaGreatDoor
open Go.RowKit Go.Lib Go.Sort
set_option maxRecDepth 20000
set_option maxRecDepth 20000

theorem infoI23 : (Tryz.prog.info? 3).map (fun i => (i.zero, i.size, i.bytes)) = some (some (.int .i64 0), 1, 8) := by kernel_rfl
theorem info_parts23 {P : Program} {T : TypeId} {z : Value} {s b : Nat} (h : (P.info? T).map (fun i => (i.zero, i.size, i.bytes)) = some (some z, s, b)) : ∃ i, P.info? T = some i ∧ i.zero = some z ∧ i.size = s ∧ i.bytes = b := by
 cases hi : P.info? T with
 | none => rw [hi] at h; cases h
 | some i =>
   rw [hi] at h
   injection h with h
   injection h with h1 h2
   injection h2 with h2 h3
   exact ⟨i, rfl, h1, h2, h3⟩
theorem gown_bel {w w' : World} {base size n : Nat} {e : TypeId} {v : Value} {xs : List Value} (h : w.ownsRow base e size v n xs) (hb : Below w.heap.size w w') : w'.ownsRow base e size v n xs :=
 own_keep h fun g hg => by obtain ⟨_, cur, e, _⟩ := own_type h hg; exact hb.block g (Array.getElem?_eq_some_iff.1 e).1
def RetIn (w : World) (L : List Int) (e : Ending) (w' : World) : Prop := ∃ u, e = .returned u ∧ w'.ownsRow w.heap.size 3 1 u L.length (L.map (Value.int .i64)) ∧ Below w.heap.size w w'

set_option maxHeartbeats 4000000 in
theorem roles_any (b : Int) (v : Value) (l : List Hrd) (B : Nat) (w : World) (h : w.ownsRow B 266 6 v l.length (l.flatMap hcell)) (hl : l.length ≤ 1000) (hok : ∀ x ∈ l, hrdOk x) :
 Calls Tryz.prog 158 #[.int .u64 b, v] w (RetIn w (proles b l)) := by
 obtain ⟨i0, hi0, hz0, hz1, hz2⟩ := info_parts23 infoI23
 obtain ⟨g, hlen, hidx, hc⟩ := gfacts Tryz.underlying264 (fun w => by kernel_rfl) hcell_len h
 have HC := Lib.hid hc; have HIX := Lib.hid hidx
 have HBE := Lib.hid (best_any b v l B w h hl hok)
 have HPL := Lib.hid (proles_len b l)
 obtain ⟨⟨pp, ⟨pr, pc, pb, po⟩⟩, hps⟩ : ∃ s, pbest b l = s := ⟨_, rfl⟩
 have HPD := Lib.hid (show proles b l = prolesGo pp ⟨pr, pc, b, po⟩ 0 l from by unfold proles; rw [hps])
 rw [hps] at HBE
 unfold RetBest vagg at HBE
 dsimp only at HBE
 clear h hc hidx hok hps
 go_enter Tryz.func158, Tryz.ntmps158
 go_upto_region 2 with ((with_reducible refine HBE.out.mono ?_); rintro e w1 ⟨rfl, hb1⟩; have H1 := Lib.hid hb1; clear hb1)
 obtain ⟨W2, hW2⟩ : ∃ W, w1.alloc (.cells #[.int .u64 pr, .int .i64 pc, .int .u64 pb, .int .i64 po] 108) = W := ⟨_, rfl⟩
 obtain ⟨nb, hnb⟩ : ∃ n, w1.heap.size = n := ⟨_, rfl⟩
 have hb2 : Below w1.heap.size w1 W2 := by rw [← hW2]; exact (Below.refl _ _).alloc (Nat.le_refl _) _
 have x6 : CBox W2 nb 108 #[.int .u64 pr, .int .i64 pc, .int .u64 pb, .int .i64 po] := by rw [← hW2]; exact CBox.new _ hnb.symm
 have HNB := Lib.hid (show w.heap.size ≤ nb from by rw [← hnb]; exact H1.out.size)
 have X6 := Lib.hid x6
 have B2 := Lib.hid (H1.out.trans (hb2.mono H1.out.size))
 rw [hW2, hnb]
 clear hW2 hnb hb2 H1 x6 HBE
 obtain ⟨z0, zf0⟩ := CBox.at_ X6.out 0 _ rfl
 obtain ⟨z1, zf1⟩ := CBox.at_ X6.out 1 _ rfl
 obtain ⟨z2, zf2⟩ := CBox.at_ X6.out 2 _ rfl
 obtain ⟨z3, zf3⟩ := CBox.at_ X6.out 3 _ rfl
 go_upto_region 3 with fail
 obtain ⟨W3, hW3⟩ : ∃ W, W2.setCell ⟨nb, 2, none⟩ (.int .u64 b) = W := ⟨_, rfl⟩
 have X7 := Lib.hid (show CBox W3 nb 108 #[.int .u64 pr, .int .i64 pc, .int .u64 b, .int .i64 po] from by rw [← hW3]; simpa using X6.out.set 2 (.int .u64 b))
 have B3 := Lib.hid (show Below w.heap.size w W3 from by rw [← hW3]; exact B2.out.setCell (p := ⟨nb, 2, none⟩) HNB.out _)
 rw [hW3]
 clear hW3 z0 zf0 z1 zf1 z2 zf2 z3 zf3 X6 B2
 go_wp2_with fail
 go_loopw [7, 20] (fun r i wr => ∃ k po', k ≤ l.length ∧ i = .int .i64 (k : Nat) ∧ wr.ownsRow w.heap.size 3 1 r (prolesGo pp ⟨pr, pc, b, po⟩ 0 (l.take k)).length ((prolesGo pp ⟨pr, pc, b, po⟩ 0 (l.take k)).map (Value.int .i64)) ∧ CBox wr nb 108 #[.int .u64 pr, .int .i64 pc, .int .u64 b, .int .i64 po'] ∧ Below w.heap.size w wr) (fun _ i _ => l.length - (intOf i).toNat)
 case atStart => exact ⟨0, po, Nat.zero_le _, rfl, World.ownsRow_nil _ _ _ _, X7.out, B3.out⟩
 case round =>
  obtain ⟨k, po', hk, rfl, hrow, hx, hb⟩ := hrel
  have HRW := Lib.hid hrow; have X7 := Lib.hid hx; have HB := Lib.hid hb; have HGN := Lib.hid (own_ne_box hrow hx (by decide))
  clear hrow hx hb B3
  by_cases hlt : k < l.length
  · obtain ⟨_, hgl, _, hj⟩ := HC.out k hlt
    have hp := HIX.out k hlt
    have HSN := Lib.hid (show prolesGo pp ⟨pr, pc, b, po⟩ 0 (l.take (k + 1)) = prolesGo pp ⟨pr, pc, b, po⟩ 0 (l.take k) ++ [role1 pp ⟨pr, pc, b, po⟩ k l[k]] from by rw [List.take_succ_eq_append_getElem hlt, prolesGo_snoc, List.length_take, Nat.min_eq_left (by omega), Nat.zero_add])
    have HLN := Lib.hid (show (prolesGo pp ⟨pr, pc, b, po⟩ 0 (l.take k)).length ≤ 1000 from by rw [prolesGo_len, List.length_take]; omega)
    obtain ⟨⟨is, ⟨hr, hcc, hbr, hpo⟩, co⟩, hst⟩ : ∃ x, x = l[k] := ⟨_, rfl⟩
    rw [show l.getD k default = l[k] from by simp [List.getD_eq_getElem?_getD, hlt], ← hst] at hj
    rw [← hst] at HSN
    have d0 := (HB.out.cell (p := ⟨g, k * 6, none⟩) hgl).trans (hj 0 (by decide)).1
    have d1 := (HB.out.cell (p := ⟨g, k * 6 + 1, none⟩) hgl).trans (hj 1 (by decide)).1
    have d2 := (HB.out.cell (p := ⟨g, k * 6 + 2, none⟩) hgl).trans (hj 2 (by decide)).1
    have d3 := (HB.out.cell (p := ⟨g, k * 6 + 3, none⟩) hgl).trans (hj 3 (by decide)).1
    have d4 := (HB.out.cell (p := ⟨g, k * 6 + 4, none⟩) hgl).trans (hj 4 (by decide)).1
    have d5 := (HB.out.cell (p := ⟨g, k * 6 + 5, none⟩) hgl).trans (hj 5 (by decide)).1
    simp only [hcell, List.getElem?_cons_zero, List.getElem?_cons_succ] at d0 d1 d2 d3 d4 d5
    clear hj hgl hst
    unfold role1 at HSN
    dsimp only at HSN
    go_upto_region 7 with fail
    obtain ⟨W3, hW3⟩ : ∃ W, wr.alloc (.cells #[.bool is, .int .u64 hr, .int .i64 hcc, .int .u64 hbr, .int .i64 hpo, .int .i64 co] 266) = W := ⟨_, rfl⟩
    obtain ⟨hbk, hhb⟩ : ∃ n, wr.heap.size = n := ⟨_, rfl⟩
    have hb3 : Below wr.heap.size wr W3 := by rw [← hW3]; exact (Below.refl _ _).alloc (Nat.le_refl _) _
    have x9 : CBox W3 hbk 266 #[.bool is, .int .u64 hr, .int .i64 hcc, .int .u64 hbr, .int .i64 hpo, .int .i64 co] := by rw [← hW3]; exact CBox.new _ hhb.symm
    have x73 := X7.out.below hb3 X7.out.lt
    have hr3 := gown_bel HRW.out hb3
    have B3 := Lib.hid (HB.out.trans (hb3.mono HB.out.size))
    have hne : hbk ≠ nb := by have := X7.out.lt; omega
    have X9 := Lib.hid x9; have X73 := Lib.hid x73; have R3 := Lib.hid hr3; have HNE := Lib.hid hne
    rw [hW3, hhb]
    clear hW3 hhb hb3 d0 d1 d2 d3 d4 d5 hp X7 HB HRW x9 x73 hr3 hne
    obtain ⟨z0, zf0⟩ := CBox.at_ X73.out 0 _ rfl
    obtain ⟨z1, zf1⟩ := CBox.at_ X73.out 1 _ rfl
    obtain ⟨z2, zf2⟩ := CBox.at_ X73.out 2 _ rfl
    obtain ⟨z3, zf3⟩ := CBox.at_ X73.out 3 _ rfl
    go_upto_region 9 with fail
    obtain ⟨W4, hW4⟩ : ∃ W, W3.setCell ⟨nb, 3, none⟩ (.int .i64 (k : Int)) = W := ⟨_, rfl⟩
    have X4 := Lib.hid (show CBox W4 nb 108 #[.int .u64 pr, .int .i64 pc, .int .u64 b, .int .i64 (k : Int)] from by rw [← hW4]; simpa using X73.out.set 3 (.int .i64 (k : Int)))
    have X94 := Lib.hid (show CBox W4 hbk 266 #[.bool is, .int .u64 hr, .int .i64 hcc, .int .u64 hbr, .int .i64 hpo, .int .i64 co] from by rw [← hW4]; exact X9.out.far (p := ⟨nb, 3, none⟩) HNE.out _)
    have R4 := Lib.hid (show W4.ownsRow w.heap.size 3 1 u7 (prolesGo pp ⟨pr, pc, b, po⟩ 0 (l.take k)).length ((prolesGo pp ⟨pr, pc, b, po⟩ 0 (l.take k)).map (Value.int .i64)) from by rw [← hW4]; exact own_keep R3.out fun g' hg' => Below.heap_setCell _ _ _ g' (HGN.out g' hg'))
    have B4 := Lib.hid (show Below w.heap.size w W4 from by rw [← hW4]; exact B3.out.setCell (p := ⟨nb, 3, none⟩) HNB.out _)
    rw [hW4]
    clear hW4 z0 zf0 z1 zf1 z2 zf2 z3 zf3 X73 R3 B3 X9
    have HCM := Lib.hid (vcmp_any ⟨pr, pc, b, k⟩ ⟨hr, hcc, hbr, hpo⟩ W4)
    unfold vagg at HCM
    dsimp only at HCM
    obtain ⟨x0, xf0⟩ := CBox.at_ X94.out 0 _ rfl
    obtain ⟨x1, xf1⟩ := CBox.at_ X94.out 1 _ rfl
    obtain ⟨x2, xf2⟩ := CBox.at_ X94.out 2 _ rfl
    obtain ⟨x3, xf3⟩ := CBox.at_ X94.out 3 _ rfl
    obtain ⟨x4, xf4⟩ := CBox.at_ X94.out 4 _ rfl
    obtain ⟨x5, xf5⟩ := CBox.at_ X94.out 5 _ rfl
    obtain ⟨z0, zf0⟩ := CBox.at_ X4.out 0 _ rfl
    obtain ⟨z1, zf1⟩ := CBox.at_ X4.out 1 _ rfl
    obtain ⟨z2, zf2⟩ := CBox.at_ X4.out 2 _ rfl
    obtain ⟨z3, zf3⟩ := CBox.at_ X4.out 3 _ rfl
    by_cases hkp : (k : Int) = pp
    · have q1 : ((k : Int) == pp) = true := by simpa using hkp
      have HE := Lib.hid (HSN.out.trans (by rw [if_pos hkp]))
      clear hkp
      have T1 := Lib.hid (R4.out.alloc (.cells #[.int .i64 1] 3))
      have T2 := Lib.hid (sliceOf_block (size := 1) (m := 1) (c := 1) (heap_new W4 (.cells #[.int .i64 1] 3) _ rfl) rfl (by simp [Value.oneCell']))
      have T3 := Lib.hid (show w.heap.size ≤ (W4.alloc (.cells #[.int .i64 1] 3)).heap.size from by have := B4.out.size; rw [World.size_alloc]; omega)
      have T4 := Lib.hid (show Below w.heap.size w (W4.alloc (.cells #[.int .i64 1] 3)) from B4.out.alloc B4.out.size _)
      have T5 := Lib.hid (show CBox (W4.alloc (.cells #[.int .i64 1] 3)) nb 108 #[.int .u64 pr, .int .i64 pc, .int .u64 b, .int .i64 (k : Int)] from X4.out.old _)
      go_wp2_with (at_builtin; refine wpList_append_vals _ rfl _ _ 23 rfl w.heap.size 3 i0 _ 1 8 Tryz.underlying23 hi0 hz0 hz1 hz2 rfl (by decide) _ (prolesGo pp ⟨pr, pc, b, po⟩ 0 (l.take k)).length ((prolesGo pp ⟨pr, pc, b, po⟩ 0 (l.take k)).map (Value.int .i64)) rfl T1.out _ 1 [.int .i64 1] rfl T2.out (by have := HLN.out; unfold maxLen; omega) (by have := HLN.out; omega) T3.out ?_; intro v' w7 ho hg hv; have H7 := Lib.hid (And.intro ho (And.intro hg hv)); clear ho hg hv)
      go_roundw
      case rel =>
       have hx7 := T5.out.grown H7.out.2.1 (fun e => HGN.out nb e.symm rfl)
       refine ⟨k + 1, k, by omega, by go_num, ?_, hx7, below_own T4.out T1.out (Nat.le_refl _) T3.out H7.out.2.1⟩
       rw [HE.out, List.length_append, List.map_append]
       exact H7.out.1
      case measure => simp [intOf]; omega
    · have q1 : ((k : Int) == pp) = false := by simpa using hkp
      cases is
      · have HE := Lib.hid (HSN.out.trans (by rw [if_neg hkp, if_pos (by rfl)]))
        clear hkp
        have T1 := Lib.hid (R4.out.alloc (.cells #[.int .i64 2] 3))
        have T2 := Lib.hid (sliceOf_block (size := 1) (m := 1) (c := 1) (heap_new W4 (.cells #[.int .i64 2] 3) _ rfl) rfl (by simp [Value.oneCell']))
        have T3 := Lib.hid (show w.heap.size ≤ (W4.alloc (.cells #[.int .i64 2] 3)).heap.size from by have := B4.out.size; rw [World.size_alloc]; omega)
        have T4 := Lib.hid (show Below w.heap.size w (W4.alloc (.cells #[.int .i64 2] 3)) from B4.out.alloc B4.out.size _)
        have T5 := Lib.hid (show CBox (W4.alloc (.cells #[.int .i64 2] 3)) nb 108 #[.int .u64 pr, .int .i64 pc, .int .u64 b, .int .i64 (k : Int)] from X4.out.old _)
        go_wp2_with (at_builtin; refine wpList_append_vals _ rfl _ _ 23 rfl w.heap.size 3 i0 _ 1 8 Tryz.underlying23 hi0 hz0 hz1 hz2 rfl (by decide) _ (prolesGo pp ⟨pr, pc, b, po⟩ 0 (l.take k)).length ((prolesGo pp ⟨pr, pc, b, po⟩ 0 (l.take k)).map (Value.int .i64)) rfl T1.out _ 1 [.int .i64 2] rfl T2.out (by have := HLN.out; unfold maxLen; omega) (by have := HLN.out; omega) T3.out ?_; intro v' w7 ho hg hv; have H7 := Lib.hid (And.intro ho (And.intro hg hv)); clear ho hg hv)
        go_roundw
        case rel =>
         have hx7 := T5.out.grown H7.out.2.1 (fun e => HGN.out nb e.symm rfl)
         refine ⟨k + 1, k, by omega, by go_num, ?_, hx7, below_own T4.out T1.out (Nat.le_refl _) T3.out H7.out.2.1⟩
         rw [HE.out, List.length_append, List.map_append]
         exact H7.out.1
        case measure => simp [intOf]; omega
      · obtain ⟨cm, hcm⟩ : ∃ c, vcmp ⟨pr, pc, b, (k : Int)⟩ ⟨hr, hcc, hbr, hpo⟩ = c := ⟨_, rfl⟩
        rw [hcm] at HCM HSN
        clear hcm
        cases q4 : decide (cm ≤ 0)
        · have HE := Lib.hid (HSN.out.trans (by rw [if_neg hkp, q4]))
          clear hkp
          go_upto_region 8 with ((with_reducible refine HCM.out.mono ?_); rintro e w6 ⟨rfl, hb6⟩; have H6 := Lib.hid hb6; clear hb6)
          have r6 := gown_bel R4.out H6.out
          have x6 := X4.out.below H6.out X4.out.lt
          have b6 := B4.out.trans (H6.out.mono B4.out.size)
          replace R4 := Lib.hid r6; replace X4 := Lib.hid x6; replace B4 := Lib.hid b6
          clear r6 x6 b6 H6 x0 xf0 x1 xf1 x2 xf2 x3 xf3 x4 xf4 x5 xf5 z0 zf0 z1 zf1 z2 zf2 z3 zf3 X94 HCM
          have T1 := Lib.hid (R4.out.alloc (.cells #[.int .i64 3] 3))
          have T2 := Lib.hid (sliceOf_block (size := 1) (m := 1) (c := 1) (heap_new w6 (.cells #[.int .i64 3] 3) _ rfl) rfl (by simp [Value.oneCell']))
          have T3 := Lib.hid (show w.heap.size ≤ (w6.alloc (.cells #[.int .i64 3] 3)).heap.size from by have := B4.out.size; rw [World.size_alloc]; omega)
          have T4 := Lib.hid (show Below w.heap.size w (w6.alloc (.cells #[.int .i64 3] 3)) from B4.out.alloc B4.out.size _)
          have T5 := Lib.hid (show CBox (w6.alloc (.cells #[.int .i64 3] 3)) nb 108 #[.int .u64 pr, .int .i64 pc, .int .u64 b, .int .i64 (k : Int)] from X4.out.old _)
          go_wp2_with (at_builtin; refine wpList_append_vals _ rfl _ _ 23 rfl w.heap.size 3 i0 _ 1 8 Tryz.underlying23 hi0 hz0 hz1 hz2 rfl (by decide) _ (prolesGo pp ⟨pr, pc, b, po⟩ 0 (l.take k)).length ((prolesGo pp ⟨pr, pc, b, po⟩ 0 (l.take k)).map (Value.int .i64)) rfl T1.out _ 1 [.int .i64 3] rfl T2.out (by have := HLN.out; unfold maxLen; omega) (by have := HLN.out; omega) T3.out ?_; intro v' w7 ho hg hv; have H7 := Lib.hid (And.intro ho (And.intro hg hv)); clear ho hg hv)
          go_roundw
          case rel =>
           have hx7 := T5.out.grown H7.out.2.1 (fun e => HGN.out nb e.symm rfl)
           refine ⟨k + 1, k, by omega, by go_num, ?_, hx7, below_own T4.out T1.out (Nat.le_refl _) T3.out H7.out.2.1⟩
           rw [HE.out, List.length_append, List.map_append]
           exact H7.out.1
          case measure => simp [intOf]; omega
        · have HE := Lib.hid (HSN.out.trans (by rw [if_neg hkp, q4]))
          clear hkp
          go_upto_region 12 with ((with_reducible refine HCM.out.mono ?_); rintro e w6 ⟨rfl, hb6⟩; have H6 := Lib.hid hb6; clear hb6)
          have r6 := gown_bel R4.out H6.out
          have x6 := X4.out.below H6.out X4.out.lt
          have b6 := B4.out.trans (H6.out.mono B4.out.size)
          replace R4 := Lib.hid r6; replace X4 := Lib.hid x6; replace B4 := Lib.hid b6
          clear r6 x6 b6 H6 x0 xf0 x1 xf1 x2 xf2 x3 xf3 x4 xf4 x5 xf5 z0 zf0 z1 zf1 z2 zf2 z3 zf3 X94 HCM
          have T1 := Lib.hid (R4.out.alloc (.cells #[.int .i64 2] 3))
          have T2 := Lib.hid (sliceOf_block (size := 1) (m := 1) (c := 1) (heap_new w6 (.cells #[.int .i64 2] 3) _ rfl) rfl (by simp [Value.oneCell']))
          have T3 := Lib.hid (show w.heap.size ≤ (w6.alloc (.cells #[.int .i64 2] 3)).heap.size from by have := B4.out.size; rw [World.size_alloc]; omega)
          have T4 := Lib.hid (show Below w.heap.size w (w6.alloc (.cells #[.int .i64 2] 3)) from B4.out.alloc B4.out.size _)
          have T5 := Lib.hid (show CBox (w6.alloc (.cells #[.int .i64 2] 3)) nb 108 #[.int .u64 pr, .int .i64 pc, .int .u64 b, .int .i64 (k : Int)] from X4.out.old _)
          go_wp2_with (at_builtin; refine wpList_append_vals _ rfl _ _ 23 rfl w.heap.size 3 i0 _ 1 8 Tryz.underlying23 hi0 hz0 hz1 hz2 rfl (by decide) _ (prolesGo pp ⟨pr, pc, b, po⟩ 0 (l.take k)).length ((prolesGo pp ⟨pr, pc, b, po⟩ 0 (l.take k)).map (Value.int .i64)) rfl T1.out _ 1 [.int .i64 2] rfl T2.out (by have := HLN.out; unfold maxLen; omega) (by have := HLN.out; omega) T3.out ?_; intro v' w7 ho hg hv; have H7 := Lib.hid (And.intro ho (And.intro hg hv)); clear ho hg hv)
          go_roundw
          case rel =>
           have hx7 := T5.out.grown H7.out.2.1 (fun e => HGN.out nb e.symm rfl)
           refine ⟨k + 1, k, by omega, by go_num, ?_, hx7, below_own T4.out T1.out (Nat.le_refl _) T3.out H7.out.2.1⟩
           rw [HE.out, List.length_append, List.map_append]
           exact H7.out.1
          case measure => simp [intOf]; omega
  · obtain rfl : k = l.length := by omega
    go_wp2_with fail
    go_ret
    refine ⟨_, rfl, ?_, HB.out⟩
    have := HRW.out
    rw [List.take_length, ← HPD.out] at this
    exact this

def pcell (p : Prt) : List Value := [.int .i64 p.cost, .int .i64 p.role, .int .i64 p.since, .bool p.up, .bool p.keeps, .bool p.fwd, .int .u64 p.kept.v.root, .int .i64 p.kept.v.cost, .int .u64 p.kept.v.bridge, .int .i64 p.kept.v.port, .int .i64 p.kept.age, .bool p.kept.change, .bool p.kept.learn, .bool p.kept.fwd, .int .i64 p.at_]
theorem pcell_len (p : Prt) : (pcell p).length = 15 := rfl
def tcellsOf (t : Tre) (v : Value) : Array Value := #[.int .u64 t.bridge, v, .int .i64 t.now, .int .i64 t.root, .int .i64 t.change, .int .u64 t.best.root, .int .i64 t.best.cost, .int .u64 t.best.bridge, .int .i64 t.best.port]
def TreeAt (w : World) (p g cap : Nat) (t : Tre) : Prop :=
 CBox w p 143 (tcellsOf t (.slice (some ⟨g, 0, none⟩) t.ports.length cap)) ∧ w.ownsRow 0 145 15 (.slice (some ⟨g, 0, none⟩) t.ports.length cap) t.ports.length (t.ports.flatMap pcell)
def tfoot (p g : Nat) (k : Nat) : Prop := k = p ∨ k = g
section
variable {w w' : World} {p g cap : Nat} {t : Tre}
theorem TreeAt.ne (h : TreeAt w p g cap t) : g ≠ p := own_ne_box h.2 h.1 (by decide) g rfl
theorem TreeAt.lt (h : TreeAt w p g cap t) : p < w.heap.size ∧ g < w.heap.size := by
 obtain ⟨_, cur, e, _⟩ := own_type h.2 rfl
 exact ⟨h.1.lt, (Array.getElem?_eq_some_iff.1 e).1⟩
theorem TreeAt.same (h : TreeAt w p g cap t) (h1 : w'.heap[p]? = w.heap[p]?) (h2 : w'.heap[g]? = w.heap[g]?) : TreeAt w' p g cap t :=
 ⟨h1.trans h.1, own_keep h.2 fun g' hg' => by injection hg' with hg'; subst hg'; exact h2⟩
theorem TreeAt.below (h : TreeAt w p g cap t) (hb : Below w.heap.size w w') : TreeAt w' p g cap t := h.same (hb.block _ h.lt.1) (hb.block _ h.lt.2)
theorem TreeAt.facts (h : TreeAt w p g cap t) : (∀ ty w', (Builtin.len_ #[141] ty #[.slice (some ⟨g, 0, none⟩) t.ports.length cap]).run Tryz.prog w' = .ok (.int .i64 t.ports.length) w') ∧
 (∀ k, k < t.ports.length → ∀ w', (Instr.indexAt 141 (.slice (some ⟨g, 0, none⟩) t.ports.length cap) (.int .i64 k)).run Tryz.prog w' = .ok (.pointer (some ⟨g, k * 15, none⟩)) w') ∧
 (∀ k, (hk : k < t.ports.length) → ∀ j, j < 15 → w.cell? ⟨g, k * 15 + j, none⟩ = (pcell t.ports[k])[j]? ∧ w.frozen? ⟨g, k * 15 + j, none⟩ = false) := by
 refine ⟨fun ty w' => run_len_any Tryz.underlying141 _ _ _ ty w', fun k hk w' => ?_, fun k hk j hj => ?_⟩
 · have := run_index_any (P := Tryz.prog) (s := 15) Tryz.underlying141 (fun w => by kernel_rfl) g 0 t.ports.length cap k hk w'
   simpa using this
 · obtain ⟨g', _, _, h3⟩ := gfacts Tryz.underlying141 (fun w => by kernel_rfl) pcell_len h.2
   obtain ⟨_, _, hg, hjj⟩ := h3 k hk
   injection hg with hg
   subst hg
   have e : t.ports.getD k default = t.ports[k] := by simp [List.getD_eq_getElem?_getD, hk]
   rw [e] at hjj
   exact hjj j hj
theorem TreeAt.box (h : TreeAt w p g cap t) (i : Nat) (x : Value) (t' : Tre) (hp : t'.ports = t.ports) (hc : tcellsOf t' (.slice (some ⟨g, 0, none⟩) t'.ports.length cap) = (tcellsOf t (.slice (some ⟨g, 0, none⟩) t.ports.length cap)).setIfInBounds i x) : TreeAt (w.setCell ⟨p, i, none⟩ x) p g cap t' ∧ Turn (tfoot p g) w (w.setCell ⟨p, i, none⟩ x) := by
 refine ⟨⟨by rw [hc]; exact h.1.set i x, ?_⟩, ?_⟩
 · rw [hp]
   exact own_keep h.2 fun g' hg' => by injection hg' with hg'; subst hg'; exact Below.heap_setCell _ _ _ g h.ne
 · refine Turn.set (show w.heap[p]? = some _ from h.1) (.inl rfl) (fun s => ?_) (fun o s n ho hs => ?_) x
   · match i with
     | 0 | 1 | 2 | 3 | 4 | 5 | 6 | 7 | 8 => simp [tcellsOf]
     | n + 9 => simp [tcellsOf]
   · exfalso
     revert hs
     match o with
     | 0 | 1 | 2 | 3 | 4 | 5 | 6 | 7 | 8 => simp [tcellsOf]
     | n + 9 => simp [tcellsOf]
theorem pcell_nos (q : Prt) (j : Nat) (s : ByteArray) : (pcell q)[j]? ≠ some (Value.string s) := by
 match j with
 | 0 | 1 | 2 | 3 | 4 | 5 | 6 | 7 | 8 | 9 | 10 | 11 | 12 | 13 | 14 => simp [pcell]
 | n + 15 => simp [pcell]
theorem TreeAt.port (h : TreeAt w p g cap t) {k i : Nat} (hk : k < t.ports.length) (hi : i < 15) (x : Value) (y : Prt) (hy : pcell y = (pcell t.ports[k]).set i x) :
 TreeAt (w.setCell ⟨g, k * 15 + i, none⟩ x) p g cap { t with ports := t.ports.set k y } ∧ Turn (tfoot p g) w (w.setCell ⟨g, k * 15 + i, none⟩ x) := by
 obtain ⟨_, cur, e, hsz, ht⟩ := own_type h.2 (g := g) rfl
 have hat : ∀ j i, (hj : j < t.ports.length) → i < 15 → cur[j * 15 + i]? = (pcell t.ports[j])[i]? := fun j i hj hi => by
  have := gflat_get pcell_len t.ports j i hj hi
  rw [show t.ports.getD j default = t.ports[j] from by simp [List.getD_eq_getElem?_getD, hj], ← ht, List.getElem?_take, if_pos (by omega)] at this
  rw [← this]
  simp
 have hown := own_setIn h.2 (g := g) rfl (show k * 15 + i < t.ports.length * 15 by omega) x
 rw [gflat_set pcell_len t.ports k i x y hk hi (by rw [show t.ports.getD k default = t.ports[k] from by simp [List.getD_eq_getElem?_getD, hk]]; exact hy)] at hown
 refine ⟨⟨?_, ?_⟩, ?_⟩
 · have : tcellsOf { t with ports := t.ports.set k y } (.slice (some ⟨g, 0, none⟩) (t.ports.set k y).length cap) = tcellsOf t (.slice (some ⟨g, 0, none⟩) t.ports.length cap) := by simp [tcellsOf]
   show CBox _ _ _ (tcellsOf { t with ports := t.ports.set k y } (.slice (some ⟨g, 0, none⟩) (t.ports.set k y).length cap))
   rw [this]
   exact h.1.far (p := ⟨g, k * 15 + i, none⟩) (Ne.symm h.ne) x
 · show World.ownsRow _ 0 _ 15 (.slice (some ⟨g, 0, none⟩) (t.ports.set k y).length cap) (t.ports.set k y).length ((t.ports.set k y).flatMap pcell)
   rw [List.length_set]
   exact hown
 · refine Turn.set e (.inr rfl) (fun s => ?_) (fun o s n ho hs => ?_) x
   · rw [hat k i hk hi]; exact pcell_nos _ _ _
   · exfalso
     rcases Nat.eq_zero_or_pos i with rfl | hp
     · rcases Nat.eq_zero_or_pos k with rfl | hkp
       · omega
       · obtain rfl : o = (k - 1) * 15 + 14 := by omega
         rw [hat (k - 1) 14 (by omega) (by omega)] at hs
         exact pcell_nos _ _ _ hs
     · obtain rfl : o = k * 15 + (i - 1) := by omega
       rw [hat k (i - 1) hk (by omega)] at hs
       exact pcell_nos _ _ _ hs
end

structure PrtOk (p : Prt) : Prop where
 cost : 1 ≤ p.cost ∧ p.cost ≤ 200000000
 since : -1 ≤ p.since ∧ p.since ≤ 1099511627776
 at_ : 0 ≤ p.at_ ∧ p.at_ ≤ 1099511627776
 age : 0 ≤ p.kept.age ∧ p.kept.age ≤ 100000
structure TreOk (t : Tre) : Prop where
 now : 0 ≤ t.now ∧ t.now ≤ 1099511627776
 len : 1 ≤ t.ports.length ∧ t.ports.length ≤ 16
 change : -1 ≤ t.change ∧ t.change ≤ 1099511627776
 ports : ∀ p ∈ t.ports, PrtOk p

set_option maxHeartbeats 1000000 in
theorem tat_any (p g cap : Nat) (t : Tre) (i now : Int) (w : World) (h : TreeAt w p g cap t) :
 Calls Tryz.prog 91 #[.pointer (some ⟨p, 0, none⟩), .int .i64 i, .int .i64 now] w fun e w' => e = .returned (.pointer (if t.okAt i now then some ⟨g, i.toNat * 15, none⟩ else none)) ∧ w' = w := by
 obtain ⟨hlen, hidx, _⟩ := h.facts
 have hx := h.1
 unfold tcellsOf at hx
 obtain ⟨x1, _⟩ := hx.at_ 1 _ rfl
 have HIX := Lib.hid hidx
 clear hx hidx h
 unfold Tre.okAt
 generalize t.ports.length = n at hlen x1 HIX
 cases q1 : decide (now < 0)
 · cases q2 : decide (1099511627776 < now)
   · cases q3 : decide (i < 0)
     · cases q4 : decide ((n : Int) ≤ i)
       · have b1 := of_decide_eq_false q1; have b2 := of_decide_eq_false q2; have b3 := of_decide_eq_false q3; have b4 := of_decide_eq_false q4
         have hc : (decide (0 ≤ now) && decide (now ≤ 1099511627776) && decide (0 ≤ i) && decide (i < (n : Int))) = true := by simp; omega
         rw [hc]
         obtain ⟨k, rfl⟩ := Int.eq_ofNat_of_zero_le (show 0 ≤ i by omega)
         have hp := HIX.out k (by omega)
         have q5 : decide (n ≤ k) = false := decide_eq_false (by omega)
         have q6 : ¬ n ≤ k := by omega
         clear b1 b2 b3 b4 hc
         go_enter Tryz.func91, Tryz.ntmps91
         go_wp2
         go_ret
         exact ⟨by first | rfl | simp, rfl⟩
       · have hc : (decide (0 ≤ now) && decide (now ≤ 1099511627776) && decide (0 ≤ i) && decide (i < (n : Int))) = false := by have b4 := of_decide_eq_true q4; simp; omega
         rw [hc]
         clear hc
         go_enter Tryz.func91, Tryz.ntmps91
         go_wp2
         go_ret
         exact ⟨rfl, rfl⟩
     · have hc : (decide (0 ≤ now) && decide (now ≤ 1099511627776) && decide (0 ≤ i) && decide (i < (n : Int))) = false := by have b4 := of_decide_eq_true q3; simp; omega
       rw [hc]
       clear hc
       go_enter Tryz.func91, Tryz.ntmps91
       go_wp2
       go_ret
       exact ⟨rfl, rfl⟩
   · have hc : (decide (0 ≤ now) && decide (now ≤ 1099511627776) && decide (0 ≤ i) && decide (i < (n : Int))) = false := by have b4 := of_decide_eq_true q2; simp; omega
     rw [hc]
     clear hc
     go_enter Tryz.func91, Tryz.ntmps91
     go_wp2
     go_ret
     exact ⟨rfl, rfl⟩
 · have hc : (decide (0 ≤ now) && decide (now ≤ 1099511627776) && decide (0 ≤ i) && decide (i < (n : Int))) = false := by have b4 := of_decide_eq_true q1; simp; omega
   rw [hc]
   clear hc
   go_enter Tryz.func91, Tryz.ntmps91
   go_wp2
   go_ret
   exact ⟨rfl, rfl⟩

theorem active_any (g o : Nat) (r : Int) (w : World) (h : w.cell? ⟨g, o + 1, none⟩ = some (.int .i64 r)) :
 Calls Tryz.prog 159 #[.pointer (some ⟨g, o, none⟩)] w fun e w' => e = .returned (.bool ((r == 1) || (r == 2))) ∧ w' = w := by
 cases q1 : (r == 1)
 · cases q2 : (r == 2)
   · go_enter Tryz.func159, Tryz.ntmps159
     go_wp2
     go_ret
     exact ⟨rfl, rfl⟩
   · go_enter Tryz.func159, Tryz.ntmps159
     go_wp2
     go_ret
     exact ⟨rfl, rfl⟩
 · go_enter Tryz.func159, Tryz.ntmps159
   go_wp2
   go_ret
   exact ⟨rfl, rfl⟩
end Go.Proofs.YthcdppppppgckaaGreatDoor
