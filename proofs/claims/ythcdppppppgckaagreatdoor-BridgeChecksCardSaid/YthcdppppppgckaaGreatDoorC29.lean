/- Texts joined into one file: BFine, BEnc, VRg, BBpdu. -/
import Derived.Test.YthcdppppppgckaaGreatDoorC28
import Derived.Test.YthcdppppppgckaaGreatDoorC27
import Derived.Test.YthcdppppppgckaaGreatDoorC04
import Derived.Deep.DeepCutAuto
import Derived.Test.YthcdppppppgckaaGreatDoorC20
import Derived.Maps.RangeWalk
import Derived.Test.YthcdppppppgckaaGreatDoorC07

namespace Go.Proofs.YthcdppppppgckaaGreatDoor
open Go.RowKit Go.Lib
set_option maxRecDepth 20000
set_option maxRecDepth 20000
attribute [local go_sem] bstr_size bstr_toList bstr_get

def fcells (f : Fr) : Array Value := #[.string (bstr f.dst), .string (bstr f.src), .bool f.tagged, .int .i64 f.vlan, .int .i64 f.prio, .int .i64 f.typ, .string (bstr f.data)]
def encF (f : Fr) : Value := .agg (fcells f)

theorem ewithin_any (n m : Int) (w : World) :
 Calls Tryz.prog 196 #[.int .i64 n, .int .i64 m] w fun e w' => e = .returned (.bool (inTo n m)) ∧ w = w' := by
 unfold inTo
 cases q1 : decide (0 ≤ n)
 · go_enter Tryz.func196, Tryz.ntmps196
   go_wp2
   go_ret
   exact ⟨rfl, rfl⟩
 · cases q2 : decide (n ≤ m)
   · go_enter Tryz.func196, Tryz.ntmps196
     go_wp2
     go_ret
     exact ⟨rfl, rfl⟩
   · go_enter Tryz.func196, Tryz.ntmps196
     go_wp2
     go_ret
     exact ⟨rfl, rfl⟩

def lensF (d s x : Nat) : Bool := decide (d = 6) && decide (s = 6) && decide (x ≤ 2000)
theorem fineF_parts (f : Fr) : fineF f = (lensF f.dst.length f.src.length f.data.length && (inTo f.vlan 4094 && inTo f.prio 7 && inTo f.typ 65535) && (f.tagged || ((f.vlan == 0) && (f.prio == 0) && !(f.typ == 33024)))) := by
 unfold fineF lensF
 simp only [Bool.and_assoc]

set_option maxHeartbeats 4000000 in
theorem fine_any (f : Fr) (w : World) (hs : f.dst.length ≤ maxLen ∧ f.src.length ≤ maxLen ∧ f.data.length ≤ maxLen) :
 Calls Tryz.prog 136 #[encF f] w fun e w' => e = .returned (.bool (fineF f)) ∧ Below w.heap.size w w' := by
 obtain ⟨dst, src, tg, vl, pr, ty, da⟩ := f
 unfold encF fcells
 rw [fineF_parts]
 dsimp only
 clear hs
 obtain ⟨W1, hW1⟩ : ∃ W, w.alloc (.cells #[.string (bstr dst), .string (bstr src), .bool tg, .int .i64 vl, .int .i64 pr, .int .i64 ty, .string (bstr da)] 48) = W := ⟨_, rfl⟩
 have HB := Lib.hid (show Below w.heap.size w W1 from by rw [← hW1]; exact (Below.refl _ _).alloc (Nat.le_refl _) _)
 have hx : CBox W1 w.heap.size 48 #[.string (bstr dst), .string (bstr src), .bool tg, .int .i64 vl, .int .i64 pr, .int .i64 ty, .string (bstr da)] := by rw [← hW1]; exact CBox.new _ rfl
 have H1 := Lib.hid (ewithin_any vl 4094 W1)
 have H2 := Lib.hid (ewithin_any pr 7 W1)
 have H3 := Lib.hid (ewithin_any ty 65535 W1)
 have HW := Lib.hid hW1
 obtain ⟨c0, _⟩ := hx.at_ 0 _ rfl
 obtain ⟨c1, _⟩ := hx.at_ 1 _ rfl
 obtain ⟨c2, _⟩ := hx.at_ 2 _ rfl
 obtain ⟨c3, _⟩ := hx.at_ 3 _ rfl
 obtain ⟨c4, _⟩ := hx.at_ 4 _ rfl
 obtain ⟨c5, _⟩ := hx.at_ 5 _ rfl
 obtain ⟨c6, _⟩ := hx.at_ 6 _ rfl
 clear hx hW1
 obtain ⟨v, hv⟩ : ∃ x, x = inTo vl 4094 := ⟨_, rfl⟩
 obtain ⟨p, hp⟩ : ∃ x, x = inTo pr 7 := ⟨_, rfl⟩
 obtain ⟨t, ht⟩ : ∃ x, x = inTo ty 65535 := ⟨_, rfl⟩
 rw [← hv, ← hp, ← ht]
 rw [← hv] at H1
 rw [← hp] at H2
 rw [← ht] at H3
 clear hv hp ht
 obtain ⟨r, hr⟩ : ∃ r, (lensF dst.length src.length da.length && (v && p && t) && (tg || ((vl == 0) && (pr == 0) && !(ty == 33024)))) = r := ⟨_, rfl⟩
 rw [hr]
 cases a1 : ((dst.length : Int) != 6)
 · have b1 : dst.length = 6 := Int.ofNat_inj.1 (show ((dst.length : Nat) : Int) = ((6 : Nat) : Int) from by simpa [bne] using a1)
   cases a2 : ((src.length : Int) != 6)
   · have b2 : src.length = 6 := Int.ofNat_inj.1 (show ((src.length : Nat) : Int) = ((6 : Nat) : Int) from by simpa [bne] using a2)
     cases a3 : decide ((2000 : Int) < (da.length : Int))
     · have b3 : da.length ≤ 2000 := by have := of_decide_eq_false a3; omega
       have hl : lensF dst.length src.length da.length = true := by unfold lensF; simp [b1, b2, b3]
       clear b1 b2 b3
       cases v
       · clear hl
         have HR := Lib.hid (show r = false from hr.symm.trans (by simp))
         clear hr
         rw [HR.out]
         go_enter Tryz.func136, Tryz.ntmps136
         go_upto_region 1 with fail
         rw [show w.alloc (.cells #[.string (bstr dst), .string (bstr src), .bool tg, .int .i64 vl, .int .i64 pr, .int .i64 ty, .string (bstr da)] 48) = W1 from HW.out]
         go_wp2_with (first | ((with_reducible refine H1.out.mono ?_); rintro e w1 ⟨rfl, hw1⟩; subst w1) | ((with_reducible refine H2.out.mono ?_); rintro e w1 ⟨rfl, hw1⟩; subst w1) | ((with_reducible refine H3.out.mono ?_); rintro e w1 ⟨rfl, hw1⟩; subst w1))
         go_ret
         exact ⟨rfl, HB.out⟩
       · skip
         cases p
         · clear hl
           have HR := Lib.hid (show r = false from hr.symm.trans (by simp))
           clear hr
           rw [HR.out]
           go_enter Tryz.func136, Tryz.ntmps136
           go_upto_region 1 with fail
           rw [show w.alloc (.cells #[.string (bstr dst), .string (bstr src), .bool tg, .int .i64 vl, .int .i64 pr, .int .i64 ty, .string (bstr da)] 48) = W1 from HW.out]
           go_wp2_with (first | ((with_reducible refine H1.out.mono ?_); rintro e w1 ⟨rfl, hw1⟩; subst w1) | ((with_reducible refine H2.out.mono ?_); rintro e w1 ⟨rfl, hw1⟩; subst w1) | ((with_reducible refine H3.out.mono ?_); rintro e w1 ⟨rfl, hw1⟩; subst w1))
           go_ret
           exact ⟨rfl, HB.out⟩
         · skip
           cases t
           · clear hl
             have HR := Lib.hid (show r = false from hr.symm.trans (by simp))
             clear hr
             rw [HR.out]
             go_enter Tryz.func136, Tryz.ntmps136
             go_upto_region 1 with fail
             rw [show w.alloc (.cells #[.string (bstr dst), .string (bstr src), .bool tg, .int .i64 vl, .int .i64 pr, .int .i64 ty, .string (bstr da)] 48) = W1 from HW.out]
             go_wp2_with (first | ((with_reducible refine H1.out.mono ?_); rintro e w1 ⟨rfl, hw1⟩; subst w1) | ((with_reducible refine H2.out.mono ?_); rintro e w1 ⟨rfl, hw1⟩; subst w1) | ((with_reducible refine H3.out.mono ?_); rintro e w1 ⟨rfl, hw1⟩; subst w1))
             go_ret
             exact ⟨rfl, HB.out⟩
           · skip
             cases tg
             · skip
               cases a4 : (vl == 0)
               · clear hl
                 have HR := Lib.hid (show r = false from hr.symm.trans (by simp [a4]))
                 clear hr
                 rw [HR.out]
                 go_enter Tryz.func136, Tryz.ntmps136
                 go_upto_region 1 with fail
                 rw [show w.alloc (.cells #[.string (bstr dst), .string (bstr src), .bool false, .int .i64 vl, .int .i64 pr, .int .i64 ty, .string (bstr da)] 48) = W1 from HW.out]
                 go_wp2_with (first | ((with_reducible refine H1.out.mono ?_); rintro e w1 ⟨rfl, hw1⟩; subst w1) | ((with_reducible refine H2.out.mono ?_); rintro e w1 ⟨rfl, hw1⟩; subst w1) | ((with_reducible refine H3.out.mono ?_); rintro e w1 ⟨rfl, hw1⟩; subst w1))
                 go_ret
                 exact ⟨rfl, HB.out⟩
               · skip
                 cases a5 : (pr == 0)
                 · clear hl
                   have HR := Lib.hid (show r = false from hr.symm.trans (by simp [a5]))
                   clear hr
                   rw [HR.out]
                   go_enter Tryz.func136, Tryz.ntmps136
                   go_upto_region 1 with fail
                   rw [show w.alloc (.cells #[.string (bstr dst), .string (bstr src), .bool false, .int .i64 vl, .int .i64 pr, .int .i64 ty, .string (bstr da)] 48) = W1 from HW.out]
                   go_wp2_with (first | ((with_reducible refine H1.out.mono ?_); rintro e w1 ⟨rfl, hw1⟩; subst w1) | ((with_reducible refine H2.out.mono ?_); rintro e w1 ⟨rfl, hw1⟩; subst w1) | ((with_reducible refine H3.out.mono ?_); rintro e w1 ⟨rfl, hw1⟩; subst w1))
                   go_ret
                   exact ⟨rfl, HB.out⟩
                 · skip
                   cases a6 : (ty == 33024)
                   · have a7 : (ty != 33024) = true := by simp [bne, a6]
                     have hl' := hl
                     clear hl
                     have HR := Lib.hid (show r = true from hr.symm.trans (by simp [a4, a5, a6, hl']))
                     clear hr
                     rw [HR.out]
                     go_enter Tryz.func136, Tryz.ntmps136
                     go_upto_region 1 with fail
                     rw [show w.alloc (.cells #[.string (bstr dst), .string (bstr src), .bool false, .int .i64 vl, .int .i64 pr, .int .i64 ty, .string (bstr da)] 48) = W1 from HW.out]
                     go_wp2_with (first | ((with_reducible refine H1.out.mono ?_); rintro e w1 ⟨rfl, hw1⟩; subst w1) | ((with_reducible refine H2.out.mono ?_); rintro e w1 ⟨rfl, hw1⟩; subst w1) | ((with_reducible refine H3.out.mono ?_); rintro e w1 ⟨rfl, hw1⟩; subst w1))
                     go_ret
                     exact ⟨rfl, HB.out⟩
                   · have a7 : (ty != 33024) = false := by simp [bne, a6]
                     clear hl
                     have HR := Lib.hid (show r = false from hr.symm.trans (by simp [a6]))
                     clear hr
                     rw [HR.out]
                     go_enter Tryz.func136, Tryz.ntmps136
                     go_upto_region 1 with fail
                     rw [show w.alloc (.cells #[.string (bstr dst), .string (bstr src), .bool false, .int .i64 vl, .int .i64 pr, .int .i64 ty, .string (bstr da)] 48) = W1 from HW.out]
                     go_wp2_with (first | ((with_reducible refine H1.out.mono ?_); rintro e w1 ⟨rfl, hw1⟩; subst w1) | ((with_reducible refine H2.out.mono ?_); rintro e w1 ⟨rfl, hw1⟩; subst w1) | ((with_reducible refine H3.out.mono ?_); rintro e w1 ⟨rfl, hw1⟩; subst w1))
                     go_ret
                     exact ⟨rfl, HB.out⟩
             · have hl' := hl
               clear hl
               have HR := Lib.hid (show r = true from hr.symm.trans (by simp [hl']))
               clear hr
               rw [HR.out]
               go_enter Tryz.func136, Tryz.ntmps136
               go_upto_region 1 with fail
               rw [show w.alloc (.cells #[.string (bstr dst), .string (bstr src), .bool true, .int .i64 vl, .int .i64 pr, .int .i64 ty, .string (bstr da)] 48) = W1 from HW.out]
               go_wp2_with (first | ((with_reducible refine H1.out.mono ?_); rintro e w1 ⟨rfl, hw1⟩; subst w1) | ((with_reducible refine H2.out.mono ?_); rintro e w1 ⟨rfl, hw1⟩; subst w1) | ((with_reducible refine H3.out.mono ?_); rintro e w1 ⟨rfl, hw1⟩; subst w1))
               go_ret
               exact ⟨rfl, HB.out⟩
     · have hl : lensF dst.length src.length da.length = false := by have := of_decide_eq_true a3; unfold lensF; simp; omega
       have HR := Lib.hid (show r = false from hr.symm.trans (by simp [hl]))
       clear hr
       rw [HR.out]
       go_enter Tryz.func136, Tryz.ntmps136
       go_upto_region 1 with fail
       rw [show w.alloc (.cells #[.string (bstr dst), .string (bstr src), .bool tg, .int .i64 vl, .int .i64 pr, .int .i64 ty, .string (bstr da)] 48) = W1 from HW.out]
       go_wp2_with (first | ((with_reducible refine H1.out.mono ?_); rintro e w1 ⟨rfl, hw1⟩; subst w1) | ((with_reducible refine H2.out.mono ?_); rintro e w1 ⟨rfl, hw1⟩; subst w1) | ((with_reducible refine H3.out.mono ?_); rintro e w1 ⟨rfl, hw1⟩; subst w1))
       go_ret
       exact ⟨rfl, HB.out⟩
   · have hl : lensF dst.length src.length da.length = false := by unfold lensF; rw [decide_eq_false (show ¬ src.length = 6 from fun h => by rw [h] at a2; cases a2)]; simp
     have HR := Lib.hid (show r = false from hr.symm.trans (by simp [hl]))
     clear hr
     rw [HR.out]
     go_enter Tryz.func136, Tryz.ntmps136
     go_upto_region 1 with fail
     rw [show w.alloc (.cells #[.string (bstr dst), .string (bstr src), .bool tg, .int .i64 vl, .int .i64 pr, .int .i64 ty, .string (bstr da)] 48) = W1 from HW.out]
     go_wp2_with (first | ((with_reducible refine H1.out.mono ?_); rintro e w1 ⟨rfl, hw1⟩; subst w1) | ((with_reducible refine H2.out.mono ?_); rintro e w1 ⟨rfl, hw1⟩; subst w1) | ((with_reducible refine H3.out.mono ?_); rintro e w1 ⟨rfl, hw1⟩; subst w1))
     go_ret
     exact ⟨rfl, HB.out⟩
 · have hl : lensF dst.length src.length da.length = false := by unfold lensF; rw [decide_eq_false (show ¬ dst.length = 6 from fun h => by rw [h] at a1; cases a1)]; simp
   have HR := Lib.hid (show r = false from hr.symm.trans (by simp [hl]))
   clear hr
   rw [HR.out]
   go_enter Tryz.func136, Tryz.ntmps136
   go_upto_region 1 with fail
   rw [show w.alloc (.cells #[.string (bstr dst), .string (bstr src), .bool tg, .int .i64 vl, .int .i64 pr, .int .i64 ty, .string (bstr da)] 48) = W1 from HW.out]
   go_wp2_with (first | ((with_reducible refine H1.out.mono ?_); rintro e w1 ⟨rfl, hw1⟩; subst w1) | ((with_reducible refine H2.out.mono ?_); rintro e w1 ⟨rfl, hw1⟩; subst w1) | ((with_reducible refine H3.out.mono ?_); rintro e w1 ⟨rfl, hw1⟩; subst w1))
   go_ret
   exact ⟨rfl, HB.out⟩

theorem and_one_u8 : ∀ b : Fin 256, bits BinOp.and .u8 (b.val : Int) 1 = ((b.val % 2 : Nat) : Int) := by decide +kernel
theorem many_any (m : Str) (w : World) : Calls Tryz.prog 111 #[.string (bstr m)] w fun e w' => e = .returned (.bool (isMany m)) ∧ w = w' := by
 unfold isMany
 have hlen : ∀ q, (((m.length : Nat) : Int) == 6) = q → decide (m.length = 6) = q := fun q h => by
  rw [← h, Bool.eq_iff_iff]
  simp only [decide_eq_true_eq, beq_iff_eq]
  omega
 cases q1 : (((m.length : Nat) : Int) == 6)
 · rw [hlen _ q1, Bool.false_and]
   clear hlen
   go_enter Tryz.func111, Tryz.ntmps111
   go_wp2
   go_ret
   exact ⟨rfl, rfl⟩
 · rw [hlen _ q1, Bool.true_and]
   have h6 := of_decide_eq_true (hlen _ q1)
   clear hlen
   cases m with
   | nil => cases h6
   | cons b0 r =>
     have hb := and_one_u8 ⟨b0.toNat, b0.toNat_lt⟩
     dsimp only at hb
     have hg : (b0 :: r).getD 0 0 = b0 := rfl
     rw [hg]
     have q2 : ((r.length : Int) + 1 == 6) = true := by simpa using q1
     have hl : 0 < (b0 :: r).length := by simp
     clear h6 hg
     rcases Nat.mod_two_eq_zero_or_one b0.toNat with h2 | h2
     · rw [h2] at hb ⊢
       clear h2
       go_enter Tryz.func111, Tryz.ntmps111
       go_wp2
       go_ret
       exact ⟨by simp, rfl⟩
     · rw [h2] at hb ⊢
       clear h2
       go_enter Tryz.func111, Tryz.ntmps111
       go_wp2
       go_ret
       exact ⟨by simp, rfl⟩
end Go.Proofs.YthcdppppppgckaaGreatDoor

namespace Go.Proofs.YthcdppppppgckaaGreatDoor
open Go.RowKit Go.Lib Go.Sort
set_option maxRecDepth 20000
set_option maxRecDepth 20000
attribute [local go_sem] bstr_append

def RetWb (w : World) (b : Nat) (S : Str) (e : Ending) (w' : World) : Prop := e = .returned (.tuple #[]) ∧ Wb w' b S ∧ Tub w w' b
theorem putS_len (n : Int) (width : Nat) : (putS n width).length ≤ width := by
 unfold putS
 split
 · rw [ofN_length]; exact Nat.le_refl _
 · simp
set_option maxHeartbeats 1000000 in
theorem eput_any (b : Nat) (S : Str) (n : Int) (w : World) (h : Wb w b S) (hl : S.length ≤ 100000000) :
 Calls Tryz.prog 137 #[.int .i64 n, .pointer (some ⟨b, 0, none⟩)] w (RetWb w b (S ++ putS n 2)) := by
 have hp : Calls Tryz.prog 134 #[.int .i64 n, .int .i64 2] w fun e w' => e = .returned (.tuple #[.string (bstr (putS n 2)), .int .i64 (if okPut n 2 then 0 else 1)]) ∧ Below w.heap.size w w' := put_any n 2 w (by omega) (by omega)
 obtain ⟨er, her⟩ : ∃ er : Int, er = if okPut n 2 then 0 else 1 := ⟨_, rfl⟩
 obtain ⟨x, hx⟩ : ∃ x, x = putS n 2 := ⟨_, rfl⟩
 have hxl : x.length ≤ 2 := by rw [hx]; exact putS_len n 2
 rw [← her, ← hx] at hp
 rw [← hx]
 have HP := Lib.hid hp
 have HW := Lib.hid h
 have HL := Lib.hid (show S.length + x.length ≤ 140737488355328 by omega)
 clear hp h her hx hxl hl
 go_enter Tryz.func137, Tryz.ntmps137
 go_wp2_with (first | ((with_reducible refine HP.out.mono ?_); rintro e w1 ⟨rfl, hb1⟩; have HW1 := Lib.hid (HW.out.kept hb1); have HT1 := Lib.hid (Tub.of_below hb1 (Nat.le_of_lt HW.out.lt)); clear hb1) | ((with_reducible refine (bstring_any b S x _ HW1.out HL.out).mono ?_); rintro e w2 ⟨⟨m, rfl⟩, hw2, ht2⟩; have HW2 := Lib.hid hw2; have HT2 := Lib.hid (HT1.out.trans ht2); clear hw2 ht2))
 go_end0
 exact ⟨rfl, HW2.out, HT2.out⟩

theorem put2 {n : Int} (h0 : 0 ≤ n) (h1 : n ≤ 65535) : putS n 2 = ofN n.toNat 2 := by
 unfold putS okPut
 rw [decide_eq_true h0, decide_eq_true (by omega)]
 rfl
theorem bits_or_i64_nat (a b : Nat) (ha : a < 9223372036854775808) (hb : b < 9223372036854775808) : bits .or .i64 (a : Int) (b : Int) = ((a ||| b : Nat) : Int) := by
 have hx : a ||| b < 2 ^ 63 := Nat.or_lt_two_pow (by omega) (by omega)
 have h1 : (BitVec.ofInt 64 (a : Int)).toNat = a := by
  rw [BitVec.ofInt_natCast, BitVec.toNat_ofNat]; exact Nat.mod_eq_of_lt (by omega)
 have h2 : (BitVec.ofInt 64 (b : Int)).toNat = b := by
  rw [BitVec.ofInt_natCast, BitVec.toNat_ofNat]; exact Nat.mod_eq_of_lt (by omega)
 show IntKind.i64.wrap ((BitVec.ofInt 64 (a : Int) ||| BitVec.ofInt 64 (b : Int)).toNat : Int) = _
 rw [BitVec.toNat_or, h1, h2, IntKind.wrap_i64]
 omega
theorem tag_join {a b : Nat} (ha : a < 8) (hb : b < 8192) : bits BinOp.or .i64 ((a * 8192 : Nat) : Int) (b : Nat) = ((a * 8192 + b : Nat) : Int) := by
 rw [bits_or_i64_nat _ _ (by omega) (by omega)]
 congr 1
 have := Nat.two_pow_add_eq_or_of_lt (i := 13) (b := b) (by omega) a
 rw [Nat.mul_comm a 8192]
 exact this.symm
def RetEnc (w : World) (r : Str × Int) (e : Ending) (w' : World) : Prop := e = .returned (.tuple #[.string (bstr r.1), .int .i64 r.2]) ∧ Below w.heap.size w w'

structure EncSt (w W : World) (q0 q1 : Nat) (cs : Array Value) (S : Str) : Prop where
 box : CBox W q0 48 cs
 wb : Wb W q1 S
 below : Below w.heap.size w W
 le : w.heap.size ≤ q1
 ne : q0 ≠ q1
theorem EncSt.step {w W W' : World} {q0 q1 : Nat} {cs : Array Value} {S S' : Str} (h : EncSt w W q0 q1 cs S) (hw : Wb W' q1 S') (ht : Tub W W' q1) : EncSt w W' q0 q1 cs S' :=
 ⟨ht.box h.box h.ne (by decide), hw, h.below.trans (ht.1.mono h.le), h.le, h.ne⟩
theorem fineF_facts {f : Fr} (h : fineF f = true) : f.dst.length = 6 ∧ f.src.length = 6 ∧ f.data.length ≤ 2000 ∧ (0 ≤ f.vlan ∧ f.vlan ≤ 4094) ∧ (0 ≤ f.prio ∧ f.prio ≤ 7) ∧ (0 ≤ f.typ ∧ f.typ ≤ 65535) := by
 unfold fineF inTo at h
 simp only [Bool.and_eq_true, decide_eq_true_eq] at h
 exact ⟨h.1.1.1.1.1.1, h.1.1.1.1.1.2, h.1.1.1.1.2, h.1.1.1.2, h.1.1.2, h.1.2⟩

set_option maxHeartbeats 4000000 in
theorem enc_any (f : Fr) (w : World) (hs : f.dst.length ≤ maxLen ∧ f.src.length ≤ maxLen ∧ f.data.length ≤ maxLen) :
 Calls Tryz.prog 73 #[encF f] w (RetEnc w (eEnc f)) := by
 have HFN := Lib.hid (fun W => fine_any f W hs)
 unfold eEnc
 cases hf : fineF f
 · rw [hf] at HFN
   obtain ⟨dst, src, tg, vl, pr, ty, da⟩ := f
   unfold encF fcells at HFN ⊢
   dsimp only at HFN ⊢
   clear hf hs
   obtain ⟨W1, hW1⟩ : ∃ W, w.alloc (.cells #[.string (bstr dst), .string (bstr src), .bool tg, .int .i64 vl, .int .i64 pr, .int .i64 ty, .string (bstr da)] 48) = W := ⟨_, rfl⟩
   have HB := Lib.hid (show Below w.heap.size w W1 from by rw [← hW1]; exact (Below.refl _ _).alloc (Nat.le_refl _) _)
   have hx : CBox W1 w.heap.size 48 #[.string (bstr dst), .string (bstr src), .bool tg, .int .i64 vl, .int .i64 pr, .int .i64 ty, .string (bstr da)] := by rw [← hW1]; exact CBox.new _ rfl
   have HW := Lib.hid hW1
   obtain ⟨c0, cf0⟩ := CBox.at_ hx 0 _ rfl
   obtain ⟨c1, cf1⟩ := CBox.at_ hx 1 _ rfl
   obtain ⟨c2, cf2⟩ := CBox.at_ hx 2 _ rfl
   obtain ⟨c3, cf3⟩ := CBox.at_ hx 3 _ rfl
   obtain ⟨c4, cf4⟩ := CBox.at_ hx 4 _ rfl
   obtain ⟨c5, cf5⟩ := CBox.at_ hx 5 _ rfl
   obtain ⟨c6, cf6⟩ := CBox.at_ hx 6 _ rfl
   clear hx hW1
   go_enter Tryz.func73, Tryz.ntmps73
   go_upto_region 1 with fail
   rw [HW.out]
   go_wp2_with ((with_reducible refine (HFN.out _).mono ?_); rintro e w2 ⟨rfl, hb2⟩; have HB2 := Lib.hid (HB.out.trans (hb2.mono HB.out.size)); clear hb2)
   go_ret2
   exact ⟨by rw [bstr_nil]; rfl, HB2.out⟩
 · obtain ⟨g1, g2, g3, g4, g5, g6⟩ := fineF_facts hf
   rw [hf] at HFN
   have HRT := Lib.hid (show eEncS f = f.dst ++ f.src ++ (if f.tagged then ofN 33024 2 ++ ofN (f.prio.toNat * 8192 + f.vlan.toNat) 2 else []) ++ ofN f.typ.toNat 2 ++ f.data from rfl)
   obtain ⟨R, hR⟩ : ∃ R, eEncS f = R := ⟨_, rfl⟩
   rw [hR] at HRT
   rw [if_pos rfl, hR]
   clear hR
   obtain ⟨dst, src, tg, vl, pr, ty, da⟩ := f
   unfold encF fcells at HFN ⊢
   dsimp only at HFN g1 g2 g3 g4 g5 g6 HRT ⊢
   clear hf hs
   obtain ⟨W1, hW1⟩ : ∃ W, w.alloc (.cells #[.string (bstr dst), .string (bstr src), .bool tg, .int .i64 vl, .int .i64 pr, .int .i64 ty, .string (bstr da)] 48) = W := ⟨_, rfl⟩
   have hb : Below w.heap.size w W1 := by rw [← hW1]; exact (Below.refl _ _).alloc (Nat.le_refl _) _
   have HB := Lib.hid hb
   have hx : CBox W1 w.heap.size 48 #[.string (bstr dst), .string (bstr src), .bool tg, .int .i64 vl, .int .i64 pr, .int .i64 ty, .string (bstr da)] := by rw [← hW1]; exact CBox.new _ rfl
   obtain ⟨q0, hq0⟩ : ∃ q, w.heap.size = q := ⟨_, rfl⟩
   have HQ0 := Lib.hid hq0
   rw [hq0] at hx
   have HX := Lib.hid hx
   have HW := Lib.hid hW1
   have HSD := Lib.hid (show (dst ++ src).length = 12 from by rw [List.length_append]; omega)
   have HG := Lib.hid (And.intro g3 (And.intro g4 (And.intro g5 g6)))
   obtain ⟨c0, cf0⟩ := CBox.at_ hx 0 _ rfl
   obtain ⟨c1, cf1⟩ := CBox.at_ hx 1 _ rfl
   obtain ⟨c2, cf2⟩ := CBox.at_ hx 2 _ rfl
   obtain ⟨c3, cf3⟩ := CBox.at_ hx 3 _ rfl
   obtain ⟨c4, cf4⟩ := CBox.at_ hx 4 _ rfl
   obtain ⟨c5, cf5⟩ := CBox.at_ hx 5 _ rfl
   obtain ⟨c6, cf6⟩ := CBox.at_ hx 6 _ rfl
   clear hx hW1 hb hq0 g1 g2 g3 g4 g5 g6
   go_enter Tryz.func73, Tryz.ntmps73
   go_upto_region 1 with fail
   rw [HW.out, HQ0.out]
   go_upto_region 3 with ((with_reducible refine (HFN.out _).mono ?_); rintro e w2 ⟨rfl, hb2⟩; have HB2 := Lib.hid hb2; clear hb2)
   clear c0 cf0 c1 cf1 c2 cf2 c3 cf3 c4 cf4 c5 cf5 c6 cf6 HFN HW
   go_upto_region 4 with fail
   obtain ⟨W3, hW3⟩ : ∃ W, w2.alloc (.cells #[.pointer none, .slice none 0 0] 236) = W := ⟨_, rfl⟩
   obtain ⟨q1, hq1⟩ : ∃ q, w2.heap.size = q := ⟨_, rfl⟩
   have h3 : Below w2.heap.size w2 W3 := by rw [← hW3]; exact (Below.refl _ _).alloc (Nat.le_refl _) _
   have H3 := Lib.hid (show EncSt w W3 q0 q1 #[.string (bstr dst), .string (bstr src), .bool tg, .int .i64 vl, .int .i64 pr, .int .i64 ty, .string (bstr da)] [] from
    ⟨(HX.out.below HB2.out HX.out.lt).below h3 (HX.out.below HB2.out HX.out.lt).lt, by rw [← hW3]; exact Wb.new hq1.symm, (HB.out.trans (HB2.out.mono HB.out.size)).trans (h3.mono (Nat.le_trans HB.out.size HB2.out.size)), by have := HB.out.size; have := HB2.out.size; omega, by have := (HX.out.below HB2.out HX.out.lt).lt; omega⟩)
   rw [hW3, hq1]
   clear hW3 hq1 h3 HX HB HB2
   obtain ⟨c0, cf0⟩ := CBox.at_ H3.out.box 0 _ rfl
   obtain ⟨c1, cf1⟩ := CBox.at_ H3.out.box 1 _ rfl
   obtain ⟨c2, cf2⟩ := CBox.at_ H3.out.box 2 _ rfl
   obtain ⟨c3, cf3⟩ := CBox.at_ H3.out.box 3 _ rfl
   obtain ⟨c4, cf4⟩ := CBox.at_ H3.out.box 4 _ rfl
   obtain ⟨c5, cf5⟩ := CBox.at_ H3.out.box 5 _ rfl
   obtain ⟨c6, cf6⟩ := CBox.at_ H3.out.box 6 _ rfl
   have hl5 := HSD.out
   have hln : (bstr dst).size + (bstr src).size ≤ 9223372036854775807 := by rw [bstr_size, bstr_size]; rw [List.length_append] at hl5; omega
   go_upto_region 6 with ((with_reducible refine (bstring_any q1 [] (dst ++ src) _ H3.out.wb (by rw [HSD.out]; decide)).mono ?_); rintro e w5 ⟨⟨m5, rfl⟩, hw5, ht5⟩; have H5 := Lib.hid (H3.out.step hw5 ht5); clear hw5 ht5)
   clear c0 cf0 c1 cf1 c2 cf2 c3 cf3 c4 cf4 c5 cf5 c6 cf6 H3 hln
   obtain ⟨c0, cf0⟩ := CBox.at_ H5.out.box 0 _ rfl
   obtain ⟨c1, cf1⟩ := CBox.at_ H5.out.box 1 _ rfl
   obtain ⟨c2, cf2⟩ := CBox.at_ H5.out.box 2 _ rfl
   obtain ⟨c3, cf3⟩ := CBox.at_ H5.out.box 3 _ rfl
   obtain ⟨c4, cf4⟩ := CBox.at_ H5.out.box 4 _ rfl
   obtain ⟨c5, cf5⟩ := CBox.at_ H5.out.box 5 _ rfl
   obtain ⟨c6, cf6⟩ := CBox.at_ H5.out.box 6 _ rfl
   obtain ⟨S, hS⟩ : ∃ S, [] ++ (dst ++ src) = S := ⟨_, rfl⟩
   have HS := Lib.hid (show S = dst ++ src from hS.symm)
   have HSL := Lib.hid (show S.length = 12 from by rw [HS.out]; exact hl5)
   rw [hS] at H5
   clear hS hl5
   cases tg
   · go_upto_region 9 with fail
     go_upto_region 10 with ((with_reducible refine (eput_any q1 S ty _ H5.out.wb (by rw [HSL.out]; decide)).mono ?_); rintro e w6 ⟨rfl, hw6, ht6⟩; have H6 := Lib.hid (H5.out.step hw6 ht6); clear hw6 ht6)
     clear c0 cf0 c1 cf1 c2 cf2 c3 cf3 c4 cf4 c5 cf5 c6 cf6 H5
     have HG6 := Lib.hid (show putS ty 2 = ofN ty.toNat 2 from put2 HG.out.2.2.2.1 HG.out.2.2.2.2)
     rw [HG6.out] at H6
     obtain ⟨c0, cf0⟩ := CBox.at_ H6.out.box 0 _ rfl
     obtain ⟨c1, cf1⟩ := CBox.at_ H6.out.box 1 _ rfl
     obtain ⟨c2, cf2⟩ := CBox.at_ H6.out.box 2 _ rfl
     obtain ⟨c3, cf3⟩ := CBox.at_ H6.out.box 3 _ rfl
     obtain ⟨c4, cf4⟩ := CBox.at_ H6.out.box 4 _ rfl
     obtain ⟨c5, cf5⟩ := CBox.at_ H6.out.box 5 _ rfl
     obtain ⟨c6, cf6⟩ := CBox.at_ H6.out.box 6 _ rfl
     obtain ⟨S6, hS6⟩ : ∃ S6, S ++ ofN ty.toNat 2 = S6 := ⟨_, rfl⟩
     have HS6 := Lib.hid hS6
     have HSL6 := Lib.hid (show S6.length = 14 from by rw [← hS6, List.length_append, ofN_length, HSL.out])
     rw [hS6] at H6
     clear hS6
     go_upto_region 11 with ((with_reducible refine (bstring_any q1 S6 da _ H6.out.wb (by rw [HSL6.out]; have := HG.out.1; omega)).mono ?_); rintro e w7 ⟨⟨m7, rfl⟩, hw7, ht7⟩; have H7 := Lib.hid (H6.out.step hw7 ht7); clear hw7 ht7)
     clear c0 cf0 c1 cf1 c2 cf2 c3 cf3 c4 cf4 c5 cf5 c6 cf6 H6
     have HRR := Lib.hid (show S6 ++ da = R from by rw [HRT.out, ← HS6.out, HS.out]; simp)
     rw [HRR.out] at H7
     have HRL := Lib.hid (show R.length ≤ 100000000 from by rw [← HRR.out, List.length_append, HSL6.out]; have := HG.out.1; omega)
     go_wp2_with ((with_reducible refine (btext_any q1 R _ H7.out.wb HRL.out).mono ?_); rintro e w8 ⟨rfl, hb8⟩; have HB8 := Lib.hid (H7.out.below.trans (hb8.mono H7.out.le)); clear hb8)
     go_ret2
     exact ⟨rfl, HB8.out⟩
   · obtain ⟨pn, rfl⟩ := Int.eq_ofNat_of_zero_le HG.out.2.2.1.1
     obtain ⟨vn, rfl⟩ := Int.eq_ofNat_of_zero_le HG.out.2.1.1
     obtain ⟨J, hJ⟩ : ∃ J : Nat, pn * 8192 + vn = J := ⟨_, rfl⟩
     have HJ := Lib.hid (show bits BinOp.or .i64 ((pn : Int) * 8192) (vn : Int) = (J : Int) from by
      rw [← hJ, ← tag_join (a := pn) (b := vn) (by have := HG.out.2.2.1.2; omega) (by have := HG.out.2.1.2; omega)]
      rfl)
     have hpn : ((pn : Nat) : Int) ≤ 7 := HG.out.2.2.1.2
     have HP33 := Lib.hid (show putS 33024 2 = ofN 33024 2 from rfl)
     have HPJ := Lib.hid (show putS (J : Int) 2 = ofN J 2 from put2 (by omega) (by have := HG.out.2.2.1.2; have := HG.out.2.1.2; omega))
     have HJ2 := Lib.hid (show ((pn : Nat) : Int).toNat * 8192 + ((vn : Nat) : Int).toNat = J from hJ)
     clear hJ
     have HG6 := Lib.hid (show putS ty 2 = ofN ty.toNat 2 from put2 HG.out.2.2.2.1 HG.out.2.2.2.2)
     go_upto_region 7 with fail
     go_upto_region 8 with ((with_reducible refine (eput_any q1 S 33024 _ H5.out.wb (by rw [HSL.out]; decide)).mono ?_); rintro e w6 ⟨rfl, hw6, ht6⟩; have H6 := Lib.hid (H5.out.step hw6 ht6); clear hw6 ht6)
     clear c0 cf0 c1 cf1 c2 cf2 c3 cf3 c4 cf4 c5 cf5 c6 cf6 H5
     rw [HP33.out] at H6
     obtain ⟨c0, cf0⟩ := CBox.at_ H6.out.box 0 _ rfl
     obtain ⟨c1, cf1⟩ := CBox.at_ H6.out.box 1 _ rfl
     obtain ⟨c2, cf2⟩ := CBox.at_ H6.out.box 2 _ rfl
     obtain ⟨c3, cf3⟩ := CBox.at_ H6.out.box 3 _ rfl
     obtain ⟨c4, cf4⟩ := CBox.at_ H6.out.box 4 _ rfl
     obtain ⟨c5, cf5⟩ := CBox.at_ H6.out.box 5 _ rfl
     obtain ⟨c6, cf6⟩ := CBox.at_ H6.out.box 6 _ rfl
     obtain ⟨S6, hS6⟩ : ∃ S6, S ++ ofN 33024 2 = S6 := ⟨_, rfl⟩
     have HS6 := Lib.hid hS6
     have HSL6 := Lib.hid (show S6.length = 14 from by rw [← hS6, List.length_append, ofN_length, HSL.out])
     rw [hS6] at H6
     clear hS6
     go_upto_region 9 with (rw [HJ.out]; (with_reducible refine (eput_any q1 S6 (J : Int) _ H6.out.wb (by rw [HSL6.out]; decide)).mono ?_); rintro e w7 ⟨rfl, hw7, ht7⟩; have H7 := Lib.hid (H6.out.step hw7 ht7); clear hw7 ht7)
     clear c0 cf0 c1 cf1 c2 cf2 c3 cf3 c4 cf4 c5 cf5 c6 cf6 H6 HJ hpn
     rw [HPJ.out] at H7
     obtain ⟨c0, cf0⟩ := CBox.at_ H7.out.box 0 _ rfl
     obtain ⟨c1, cf1⟩ := CBox.at_ H7.out.box 1 _ rfl
     obtain ⟨c2, cf2⟩ := CBox.at_ H7.out.box 2 _ rfl
     obtain ⟨c3, cf3⟩ := CBox.at_ H7.out.box 3 _ rfl
     obtain ⟨c4, cf4⟩ := CBox.at_ H7.out.box 4 _ rfl
     obtain ⟨c5, cf5⟩ := CBox.at_ H7.out.box 5 _ rfl
     obtain ⟨c6, cf6⟩ := CBox.at_ H7.out.box 6 _ rfl
     obtain ⟨S7, hS7⟩ : ∃ S7, S6 ++ ofN J 2 = S7 := ⟨_, rfl⟩
     have HS7 := Lib.hid hS7
     have HSL7 := Lib.hid (show S7.length = 16 from by rw [← hS7, List.length_append, ofN_length, HSL6.out])
     rw [hS7] at H7
     clear hS7
     go_upto_region 10 with ((with_reducible refine (eput_any q1 S7 ty _ H7.out.wb (by rw [HSL7.out]; decide)).mono ?_); rintro e w8 ⟨rfl, hw8, ht8⟩; have H8 := Lib.hid (H7.out.step hw8 ht8); clear hw8 ht8)
     clear c0 cf0 c1 cf1 c2 cf2 c3 cf3 c4 cf4 c5 cf5 c6 cf6 H7
     rw [HG6.out] at H8
     obtain ⟨c0, cf0⟩ := CBox.at_ H8.out.box 0 _ rfl
     obtain ⟨c1, cf1⟩ := CBox.at_ H8.out.box 1 _ rfl
     obtain ⟨c2, cf2⟩ := CBox.at_ H8.out.box 2 _ rfl
     obtain ⟨c3, cf3⟩ := CBox.at_ H8.out.box 3 _ rfl
     obtain ⟨c4, cf4⟩ := CBox.at_ H8.out.box 4 _ rfl
     obtain ⟨c5, cf5⟩ := CBox.at_ H8.out.box 5 _ rfl
     obtain ⟨c6, cf6⟩ := CBox.at_ H8.out.box 6 _ rfl
     obtain ⟨S8, hS8⟩ : ∃ S8, S7 ++ ofN ty.toNat 2 = S8 := ⟨_, rfl⟩
     have HS8 := Lib.hid hS8
     have HSL8 := Lib.hid (show S8.length = 18 from by rw [← hS8, List.length_append, ofN_length, HSL7.out])
     rw [hS8] at H8
     clear hS8
     go_upto_region 11 with ((with_reducible refine (bstring_any q1 S8 da _ H8.out.wb (by rw [HSL8.out]; have := HG.out.1; omega)).mono ?_); rintro e w9 ⟨⟨m9, rfl⟩, hw9, ht9⟩; have H9 := Lib.hid (H8.out.step hw9 ht9); clear hw9 ht9)
     clear c0 cf0 c1 cf1 c2 cf2 c3 cf3 c4 cf4 c5 cf5 c6 cf6 H8
     have HRR := Lib.hid (show S8 ++ da = R from by rw [HRT.out, ← HS8.out, ← HS7.out, ← HS6.out, HS.out, HJ2.out]; simp)
     rw [HRR.out] at H9
     have HRL := Lib.hid (show R.length ≤ 100000000 from by rw [← HRR.out, List.length_append, HSL8.out]; have := HG.out.1; omega)
     go_wp2_with ((with_reducible refine (btext_any q1 R _ H9.out.wb HRL.out).mono ?_); rintro e w10 ⟨rfl, hb10⟩; have HB10 := Lib.hid (H9.out.below.trans (hb10.mono H9.out.le)); clear hb10)
     go_ret2
     exact ⟨rfl, HB10.out⟩
end Go.Proofs.YthcdppppppgckaaGreatDoor

namespace Go.Proofs.YthcdppppppgckaaGreatDoor
open Go.RowKit Go.Lib Go.Sort
set_option maxRecDepth 20000
open Go.Maps (Keyed has IsMap has_true_of_atKey)

structure Bx (α : Type) where
 val : α
section
variable {P : Program} {T : TypeId} {κ : Type}
def VRg (K : KeyEnc P T κ) (w : World) (b r n : Nat) (F : κ → Option Value) (lf : κ → Bool) (cnt : Nat) : Prop :=
 (∀ x, F x ≠ none → K.ok x) ∧ ∃ (D : DataW Value) (left : Lit → Bool), w.ranges P T heldR b r n D left cnt ∧ (∀ x, K.ok x → lookV D (K.lit x) = F x) ∧ ∀ x, K.ok x → left (K.lit x) = lf x
variable {K : KeyEnc P T κ} {w : World} {b r n cnt : Nat} {F : κ → Option Value} {lf : κ → Bool}
theorem VRg.map (h : VRg K w b r n F lf cnt) : VMap K w b n F := by
 obtain ⟨h0, D, left, h, e, _⟩ := h
 exact ⟨h0, D, h.owns, e⟩
theorem VRg.left (h : VRg K w b r n F lf cnt) : w.rangeLeft b r = cnt := by
 obtain ⟨_, D, left, h, _, _⟩ := h
 exact h.left_eq
theorem VRg.kept {w' : World} {row : Option Nat} (h : VRg K w b r n F lf cnt) (hg : w.grownBy w' row) (h1 : some b ≠ row) (h2 : some r ≠ row) : VRg K w' b r n F lf cnt := by
 obtain ⟨h0, D, left, h, e, l⟩ := h
 exact ⟨h0, D, left, h.kept hg h1 h2, e, l⟩
theorem VRg.same {w' : World} (h : VRg K w b r n F lf cnt) (h1 : w'.heap[b]? = w.heap[b]?) (h2 : w'.heap[r]? = w.heap[r]?) : VRg K w' b r n F lf cnt := by
 obtain ⟨h0, D, left, ⟨es, clock, since, seen, c0, hb, F, hs, hd, hr, hold⟩, e, l⟩ := h
 exact ⟨h0, D, left, ⟨es, clock, since, seen, c0, h1.trans hb, F, hs, hd, h2.trans hr, hold⟩, e, l⟩
theorem VRg.lt (h : VRg K w b r n F lf cnt) : b < w.heap.size ∧ r < w.heap.size := by
 obtain ⟨_, D, left, ⟨es, clock, since, seen, c0, hb, F, hs, hd, hr, hold⟩, _⟩ := h
 exact ⟨(Array.getElem?_eq_some_iff.1 hb).1, (Array.getElem?_eq_some_iff.1 hr).1⟩
theorem VRg.below {w' : World} (h : VRg K w b r n F lf cnt) (hb : Below w.heap.size w w') : VRg K w' b r n F lf cnt := h.same (hb.block _ h.lt.1) (hb.block _ h.lt.2)
theorem VRg.ne (h : VRg K w b r n F lf cnt) : r ≠ b := by
 obtain ⟨_, D, left, h, _, _⟩ := h
 exact h.ne
def strikeK [DecidableEq κ] (lf : κ → Bool) (x : κ) : κ → Bool := fun a => lf a && !decide (a = x)
theorem strikeK_left [DecidableEq κ] (K : KeyEnc P T κ) {left : Lit → Bool} {lf : κ → Bool} (h : ∀ a, K.ok a → left (K.lit a) = lf a) {x a : κ} (hx : K.ok x) (ha : K.ok a) : (left (K.lit a) && !(K.lit a).sameKey (K.lit x)) = strikeK lf x a := by
 unfold strikeK
 rw [h a ha]
 by_cases e : a = x
 · subst e
   rw [WideAt.sameKey_self (K.isKey ha)]
   simp
 · rw [Maps.sameKey_ne (fun h => e (K.lit_inj ha hx h))]
   simp [e]
theorem VRg.drop [DecidableEq κ] {t e : TypeId} (h : VRg K w b r n F lf cnt) (ht : P.underlying t = some (.map T e)) (x : κ) (hx : K.ok x) (ty : TypeId) :
 ∃ w' cnt', (Builtin.delete_ #[t, T] ty #[.map (some b), K.enc x]).run P w = .ok (.tuple #[]) w' ∧ VRg K w' b r n (delV F x) (strikeK lf x) cnt' ∧ cnt' ≤ cnt ∧ w.mapTurned w' b := by
 obtain ⟨h0, D, left, h, e, l⟩ := h
 obtain ⟨w', cnt', hr, h', hle, ht⟩ := h.drop K.law ht (K.reads x hx) ty
 refine ⟨w', cnt', hr, ⟨fun y hy => ?_, _, _, h', fun y hy => ?_, fun a ha => strikeK_left K l hx ha⟩, hle, ht⟩
 · unfold delV at hy
   split at hy
   · exact absurd rfl hy
   · exact h0 y hy
 · rw [lookV_del K hx hy]
   unfold delV
   dsimp only
   rw [e y hy]
variable (w : World) {ops : Array Oper} {rest : List Oper} {o : Oper} {a : Act} {Q : Exit → Act → World → Prop}
theorem wpList_range_v (hg : o.guard = none) (m : Operand) (t e : TypeId) (hop : o.op = Op.range t m) (ht : P.underlying t = some (.map T e)) (K : KeyEnc P T κ) (b n : Nat) (F : κ → Option Value) (hm : a.eval m = .map (some b)) (h : VMap K w b n F)
 (hK : ∀ w' cnt, VRg K w' b w.heap.size n F (fun a => (F a).isSome) cnt → Below w.heap.size w w' → w'.heap.size = w.heap.size + 1 → wpList P ops Q rest (a.put o.dst (.pointer (some ⟨w.heap.size, 0, none⟩))) w') :
 wpList P ops Q (o :: rest) a w := by
 obtain ⟨h0, D, hown, e'⟩ := h
 refine wpList_range_own w hg m t hop T e K.law ht heldR b n D hm hown (fun w' h1 h2 h3 => hK w' _ ⟨h0, D, _, h1, e', fun x hx => ?_⟩ ⟨h2.os, h2.tape, h2.output, h2.size, fun k hk => h2.block k hk (by simp)⟩ h3)
 rw [lookV_has hown K, e' x hx]
theorem wpList_next_v [DecidableEq κ] (hg : o.guard = none) (it : Operand) (hop : o.op = Op.next it false) (K : KeyEnc P T κ) (b r n : Nat) (F : κ → Option Value) (lf : κ → Bool) (cnt : Nat) (hit : a.eval it = .pointer (some ⟨r, 0, none⟩)) (h : VRg K w b r n F lf cnt)
 (hDone : (∀ x, K.ok x → lf x = false) → wpList P ops Q rest (a.put o.dst (.tuple #[.bool false])) w)
 (hMore : ∀ (x : κ) (c : Value) (w' : World) (cnt' : Nat), K.ok x → F x = some c → lf x = true → VRg K w' b r n F (strikeK lf x) cnt' → cnt' < cnt → w.grownBy w' (some r) → w'.heap.size = w.heap.size →
   (Instr.entry (.pointer (some ⟨r, 0, none⟩))).run P w' = .ok (.tuple #[K.enc x, c]) w' → wpList P ops Q rest (a.put o.dst (.tuple #[.bool true, K.enc x, c])) w') :
 wpList P ops Q (o :: rest) a w := by
 obtain ⟨h0, D, left, h, e, l⟩ := h
 refine wpList_next_ranges w hg it hop T K.law heldR K.enc id (fun key kl hkey => by obtain ⟨x, _, hx⟩ := K.all key kl hkey; exact ⟨x, hx⟩) (fun v _ _ => ⟨v, rfl⟩) b r n D left cnt hit h (fun _ h => hDone (fun x hx => by rw [← l x hx]; exact h _))
  (fun x c kl y w' cnt' hkey hlk hv hat hrg hlt hgr hsz hen => ?_)
 obtain ⟨x', hx', ex⟩ := K.all _ _ hkey
 obtain rfl : x = x' := K.inj _ _ ex
 rw [K.reads x hx'] at hkey
 injection hkey with hkey
 subst hkey
 simp only [heldR, Option.some.injEq] at hv
 refine hMore x c w' cnt' hx' ?_ (by rw [← l x hx']; exact hlk) ⟨h0, D, _, hrg, e, fun a ha => strikeK_left K l hx' ha⟩ hlt hgr hsz hen
 rw [← e x hx']
 unfold lookV
 rw [if_pos (has_true_of_atKey hat), hat, ← hv]
 rfl
def DoneK (K : KeyEnc P T κ) (lf : κ → Bool) : Prop := ∀ x, K.ok x → lf x = false
theorem wpList_next_b [DecidableEq κ] (hg : o.guard = none) (it : Operand) (hop : o.op = Op.next it false) (K : KeyEnc P T κ) (b r n : Nat) (F : κ → Option Value) (lf : κ → Bool) (cnt : Nat) (hit : a.eval it = .pointer (some ⟨r, 0, none⟩)) (h : VRg K w b r n F lf cnt)
 (hDone : DoneK K lf → wpList P ops Q rest (a.put o.dst (.tuple #[.bool false])) w)
 (hMore : ∀ (xb : Bx κ) (c : Value) (w' : World) (cnt' : Nat), K.ok xb.val → F xb.val = some c → lf xb.val = true → VRg K w' b r n F (strikeK lf xb.val) cnt' → cnt' < cnt → w.grownBy w' (some r) → w'.heap.size = w.heap.size →
   (Instr.entry (.pointer (some ⟨r, 0, none⟩))).run P w' = .ok (.tuple #[K.enc xb.val, c]) w' → wpList P ops Q rest (a.put o.dst (.tuple #[.bool true, K.enc xb.val, c])) w') :
 wpList P ops Q (o :: rest) a w :=
 wpList_next_v w hg it hop K b r n F lf cnt hit h hDone fun x => hMore ⟨x⟩
end
end Go.Proofs.YthcdppppppgckaaGreatDoor

namespace Go.Proofs.YthcdppppppgckaaGreatDoor
open Go.RowKit Go.Lib Go.Maps Go.Sort
set_option maxRecDepth 20000
set_option maxRecDepth 20000

theorem eight_any (n : Nat) (w : World) (hn : n < 18446744073709551616) :
 Calls Tryz.prog 135 #[.int .u64 n] w fun e w' => e = .returned (.string (bstr (ofN n 8))) ∧ Below w.heap.size w w' := by
 have hb : Calls Tryz.prog 195 #[.int .u64 n, .int .i64 8] w fun e w' => e = .returned (.string (bstr (ofN n 8))) ∧ Below w.heap.size w w' := bytes_any n 8 w hn (by omega)
 have HB := Lib.hid hb
 clear hb
 go_enter Tryz.func135, Tryz.ntmps135
 go_wp2_with ((with_reducible refine HB.out.mono ?_); rintro e w2 ⟨rfl, hb2⟩; have HB2 := Lib.hid hb2; clear hb2)
 go_ret
 exact ⟨rfl, HB2.out⟩

theorem put_1 (n : Int) (w : World) : Calls Tryz.prog 134 #[.int .i64 n, .int .i64 1] w fun e w' => e = .returned (.tuple #[.string (bstr (putS n 1)), .int .i64 (if okPut n 1 then 0 else 1)]) ∧ Below w.heap.size w w' := put_any n 1 w (by omega) (by omega)
theorem put_2 (n : Int) (w : World) : Calls Tryz.prog 134 #[.int .i64 n, .int .i64 2] w fun e w' => e = .returned (.tuple #[.string (bstr (putS n 2)), .int .i64 (if okPut n 2 then 0 else 1)]) ∧ Below w.heap.size w w' := put_any n 2 w (by omega) (by omega)
theorem put_4 (n : Int) (w : World) : Calls Tryz.prog 134 #[.int .i64 n, .int .i64 4] w fun e w' => e = .returned (.tuple #[.string (bstr (putS n 4)), .int .i64 (if okPut n 4 then 0 else 1)]) ∧ Below w.heap.size w w' := put_any n 4 w (by omega) (by omega)
theorem putS_yes {n : Int} {k : Nat} (h : okPut n k = true) : putS n k = ofN n.toNat k := by unfold putS; rw [h]; rfl
def KZ : KeyEnc Tryz.prog 3 Int where
 enc := Value.int .i64
 ok x := (Lit.int .i64 x).wf = true
 lit := Lit.int .i64
 reads _ h := keyOf_int_mk Tryz.underlying3 h
 all _ _ h := by obtain ⟨x, e, _, hw⟩ := Maps.keyOf_int_inv Tryz.underlying3 h; exact ⟨x, hw, e⟩
 inj _ _ h := by injection h
 law := int_keyed Tryz.underlying3

def flg (c l f a b d : Bool) : Int := 12 + (if c && !a then 1 else 0) + (if l && !b then 16 else 0) + (if f && !d then 32 else 0)
theorem flg_a (l f b d : Bool) : bits BinOp.or .i64 (flg true l f true b d) 1 = flg true l f false b d := by revert l f b d; decide +kernel
theorem flg_b (c f a d : Bool) : bits BinOp.or .i64 (flg c true f a true d) 16 = flg c true f a false d := by revert c f a d; decide +kernel
theorem flg_d (c l a b : Bool) : bits BinOp.or .i64 (flg c l true a b true) 32 = flg c l true a b false := by revert c l a b; decide +kernel
def bflags (b : Bpd) : Int := flg b.change b.learn b.fwd false false false
theorem bflags_range (b : Bpd) : 0 ≤ bflags b ∧ bflags b ≤ 61 := by unfold bflags flg; constructor <;> (cases b.change <;> cases b.learn <;> cases b.fwd <;> decide)
def bEncOk (b : Bpd) : Bool := okPut b.v.cost 4 && okPut b.v.port 2 && okPut b.age 1
def bEncS (b : Bpd) : Str := [66, 66, 3, 0, 0, 2, 2] ++ ofN (bflags b).toNat 1 ++ ofN b.v.root.toNat 8 ++ ofN b.v.cost.toNat 4 ++ ofN b.v.bridge.toNat 8 ++ ofN b.v.port.toNat 2 ++ ofN b.age.toNat 1 ++ [0, 20, 0, 2, 0, 15, 0, 0]
def bEnc (b : Bpd) : Str × Int := if bEncOk b then (bEncS b, 0) else ([], 1)
def bcells (b : Bpd) : Array Value := #[.int .u64 b.v.root, .int .i64 b.v.cost, .int .u64 b.v.bridge, .int .i64 b.v.port, .int .i64 b.age, .bool b.change, .bool b.learn, .bool b.fwd]
def encB (b : Bpd) : Value := .agg (bcells b)
def FlagV (c l f : Bool) : Int → Option Value := updV (updV (updV (fun _ => none) 0 (.bool c)) 4 (.bool l)) 5 (.bool f)
theorem strike_same (lf : Int → Bool) (x : Int) : strikeK lf x x = false := by simp [strikeK]
theorem strike_else (lf : Int → Bool) (x y : Int) (h : y ≠ x) : strikeK lf x y = lf y := by simp [strikeK, h]
theorem FlagV_some {c l f : Bool} {x : Int} {v : Value} (h : FlagV c l f x = some v) : (x = 0 ∧ v = .bool c) ∨ (x = 4 ∧ v = .bool l) ∨ (x = 5 ∧ v = .bool f) := by
 unfold FlagV updV at h
 dsimp only at h
 split at h
 · injection h with h; exact .inr (.inr ⟨by assumption, h.symm⟩)
 · split at h
   · injection h with h; exact .inr (.inl ⟨by assumption, h.symm⟩)
   · split at h
     · injection h with h; exact .inl ⟨by assumption, h.symm⟩
     · cases h
def RetBEnc (w : World) (r : Str × Int) (e : Ending) (w' : World) : Prop := e = .returned (.tuple #[.string (bstr r.1), .int .i64 r.2]) ∧ Below w.heap.size w w'
def u64ok (n : Int) : Prop := 0 ≤ n ∧ n < 18446744073709551616

set_option maxHeartbeats 4000000 in
theorem benc_any (b : Bpd) (w : World) (h1 : u64ok b.v.root) (h2 : u64ok b.v.bridge) :
 Calls Tryz.prog 72 #[encB b] w (RetBEnc w (bEnc b)) := by
 obtain ⟨⟨root, cost, bridge, port⟩, age, c, l, f⟩ := b
 unfold encB bcells
 dsimp only at h1 h2 ⊢
 obtain ⟨rn, rfl⟩ := Int.eq_ofNat_of_zero_le h1.1
 obtain ⟨dn, rfl⟩ := Int.eq_ofNat_of_zero_le h2.1
 have H8 := Lib.hid (And.intro (show rn < 18446744073709551616 from by have := h1.2; omega) (show dn < 18446744073709551616 from by have := h2.2; omega))
 clear h1 h2
 obtain ⟨r, hr⟩ : ∃ r, bEnc ⟨⟨(rn : Nat), cost, (dn : Nat), port⟩, age, c, l, f⟩ = r := ⟨_, rfl⟩
 rw [hr]
 have HRB := Lib.hid hr
 clear hr
 obtain ⟨W1, hW1⟩ : ∃ W, w.alloc (.cells #[.int .u64 (rn : Nat), .int .i64 cost, .int .u64 (dn : Nat), .int .i64 port, .int .i64 age, .bool c, .bool l, .bool f] 110) = W := ⟨_, rfl⟩
 obtain ⟨q0, hq0⟩ : ∃ q, w.heap.size = q := ⟨_, rfl⟩
 have hx : CBox W1 q0 110 #[.int .u64 (rn : Nat), .int .i64 cost, .int .u64 (dn : Nat), .int .i64 port, .int .i64 age, .bool c, .bool l, .bool f] := by rw [← hW1]; exact CBox.new _ hq0.symm
 have HB := Lib.hid (show Below w.heap.size w W1 from by rw [← hW1]; exact (Below.refl _ _).alloc (Nat.le_refl _) _)
 have HX := Lib.hid hx
 have HW := Lib.hid hW1; have HQ := Lib.hid hq0
 -- the literal
 have hm0 : VMap KZ (W1.alloc (.map #[] 0)) W1.heap.size 0 (fun _ => none) := VMap.made KZ W1
 obtain ⟨W3, hr3, hm3, hg3⟩ := hm0.put Tryz.underlying231 0 (by rfl) (.bool c) (by decide)
 obtain ⟨W4, hr4, hm4, hg4⟩ := hm3.put Tryz.underlying231 4 (by rfl) (.bool l) (by decide)
 obtain ⟨W5, hr5, hm5, hg5⟩ := hm4.put Tryz.underlying231 5 (by rfl) (.bool f) (by decide)
 replace hr3 : (Instr.mapUpdate 231 (.map (some W1.heap.size)) (.int .i64 0) (.bool c)).run Tryz.prog (W1.alloc (.map #[] 0)) = .ok () W3 := hr3
 replace hr4 : (Instr.mapUpdate 231 (.map (some W1.heap.size)) (.int .i64 4) (.bool l)).run Tryz.prog W3 = .ok () W4 := hr4
 replace hr5 : (Instr.mapUpdate 231 (.map (some W1.heap.size)) (.int .i64 5) (.bool f)).run Tryz.prog W4 = .ok () W5 := hr5
 have b2 : Below W1.heap.size W1 (W1.alloc (.map #[] 0)) := (Below.refl _ _).alloc (Nat.le_refl _) _
 have b3 := b2.grown hg3.grown (by simp) (fun k hk => by cases hk; exact Nat.le_refl _)
 have b4 := b3.grown hg4.grown b3.size (fun k hk => by cases hk; exact Nat.le_refl _)
 have b5 := b4.grown hg5.grown b4.size (fun k hk => by cases hk; exact Nat.le_refl _)
 have x2 := hx.below b2 hx.lt
 have x3 := hx.below b3 hx.lt
 have x4 := hx.below b4 hx.lt
 obtain ⟨c5, _⟩ := x2.at_ 5 _ rfl
 obtain ⟨c6, _⟩ := x3.at_ 6 _ rfl
 obtain ⟨c7, _⟩ := x4.at_ 7 _ rfl
 have X5 := Lib.hid (hx.below b5 hx.lt)
 have B5 := Lib.hid (HB.out.trans (b5.mono HB.out.size))
 have M5 := Lib.hid (show VMap KZ W5 W1.heap.size 3 (FlagV c l f) from hm5)
 have HM := Lib.hid b5.size
 have HML := Lib.hid (show q0 < W1.heap.size from hx.lt)
 have HWM := Lib.hid (show w.heap.size ≤ W1.heap.size from HB.out.size)
 clear hx hW1 hq0 hm0 hm3 hm4 hm5 hg3 hg4 hg5 b2 b3 b4 b5 x2 x3 x4
 have hmm := @run_makeMap Tryz.prog
 go_enter Tryz.func72, Tryz.ntmps72
 go_upto_region 2 with fail
 rw [HW.out, HQ.out]
 clear HW HX HB
 go_wp2_with (at_range; refine wpList_range_v _ rfl _ 231 4 rfl Tryz.underlying231 KZ W1.heap.size 3 (FlagV c l f) rfl M5.out ?_; intro w6 cnt6 hrg6 hb6 hs6)
 go_frame
 clear hmm hr3 hr4 hr5 c5 c6 c7
 have HR6 := Lib.hid hrg6; have B6 := Lib.hid (B5.out.trans (hb6.mono B5.out.size)); have X6 := Lib.hid (X5.out.below hb6 X5.out.lt)
 have HWS := Lib.hid (show W1.heap.size ≤ W5.heap.size from HM.out)
 clear hrg6 hb6 hs6
 go_loopw [4] (fun fl wr => ∃ (lf : Int → Bool) (cnt : Nat), fl = .int .i64 (flg c l f (lf 0) (lf 4) (lf 5)) ∧ VRg KZ wr W1.heap.size W5.heap.size 3 (FlagV c l f) lf cnt ∧ Below w.heap.size w wr ∧ CBox wr q0 110 #[.int .u64 (rn : Nat), .int .i64 cost, .int .u64 (dn : Nat), .int .i64 port, .int .i64 age, .bool c, .bool l, .bool f]) (fun _ wr => wr.rangeLeft W1.heap.size W5.heap.size)
 case atStart => exact ⟨_, cnt6, by unfold FlagV updV flg; simp, HR6.out, B6.out, X6.out⟩
 case round =>
  obtain ⟨lf, cnt, rfl, hrg, hb, hxr⟩ := hrel
  have HXR := Lib.hid hxr; have HBR := Lib.hid hb; have HRG := Lib.hid hrg
  clear hb hxr HR6 B6 X6 X5 B5 M5
  go_wp2_with (first
   | (at_next; refine wpList_next_v _ rfl _ rfl KZ W1.heap.size W5.heap.size 3 _ _ _ rfl HRG.out ?_ ?_)
   | go_in)
  · intro hdone
    have HE := Lib.hid (show flg c l f (lf 0) (lf 4) (lf 5) = bflags ⟨⟨(rn : Nat), cost, (dn : Nat), port⟩, age, c, l, f⟩ from by rw [hdone 0 (by rfl), hdone 4 (by rfl), hdone 5 (by rfl)]; rfl)
    clear hdone hrg HRG
    rw [HE.out]
    clear HE
    obtain ⟨FL, hFL⟩ : ∃ n, bflags ⟨⟨(rn : Nat), cost, (dn : Nat), port⟩, age, c, l, f⟩ = n := ⟨_, rfl⟩
    have hr := bflags_range ⟨⟨(rn : Nat), cost, (dn : Nat), port⟩, age, c, l, f⟩
    have HRT := Lib.hid (show r = if okPut cost 4 && okPut port 2 && okPut age 1 then ([66, 66, 3, 0, 0, 2, 2] ++ ofN FL.toNat 1 ++ ofN rn 8 ++ ofN cost.toNat 4 ++ ofN dn 8 ++ ofN port.toNat 2 ++ ofN age.toNat 1 ++ [0, 20, 0, 2, 0, 15, 0, 0], 0) else ([], 1) from by rw [← HRB.out, ← hFL]; rfl)
    rw [hFL] at hr ⊢
    have ho1 : okPut FL 1 = true := by unfold okPut; rw [decide_eq_true hr.1, decide_eq_true (by omega)]; rfl
    have HP1 := Lib.hid (fun W => put_1 FL W)
    rw [ho1, putS_yes ho1, if_pos rfl] at HP1
    clear hFL hr ho1
    have HP4 := Lib.hid (fun W => put_4 cost W)
    have HP2 := Lib.hid (fun W => put_2 port W)
    have HPA := Lib.hid (fun W => put_1 age W)
    obtain ⟨X1, hX1⟩ : ∃ x, ofN FL.toNat 1 = x := ⟨_, rfl⟩
    rw [hX1] at HP1 HRT
    have HL1 := Lib.hid (show X1.length = 1 from by rw [← hX1, ofN_length])
    clear hX1
    cases o4 : okPut cost 4
    · have HR0 := Lib.hid (show r = ([], 1) from by rw [HRT.out, o4]; rfl)
      rw [o4, if_neg (by decide)] at HP4
      clear HRT o4
      obtain ⟨YHP4, hYHP4⟩ : ∃ y, putS cost 4 = y := ⟨_, rfl⟩
      rw [hYHP4] at HP4
      clear hYHP4
      obtain ⟨YHP2, hYHP2⟩ : ∃ y, putS port 2 = y := ⟨_, rfl⟩
      rw [hYHP2] at HP2
      clear hYHP2
      obtain ⟨YHPA, hYHPA⟩ : ∃ y, putS age 1 = y := ⟨_, rfl⟩
      rw [hYHPA] at HPA
      clear hYHPA
      obtain ⟨EHP2, hEHP2⟩ : ∃ y : Int, (if okPut port 2 = true then 0 else 1) = y := ⟨_, rfl⟩
      rw [hEHP2] at HP2
      clear hEHP2
      obtain ⟨EHPA, hEHPA⟩ : ∃ y : Int, (if okPut age 1 = true then 0 else 1) = y := ⟨_, rfl⟩
      rw [hEHPA] at HPA
      clear hEHPA
      go_wp2_with (first | ((with_reducible refine (HP1.out _).mono ?_); rintro e w3 ⟨rfl, hb3⟩; have B3 := Lib.hid (HBR.out.trans (hb3.mono HBR.out.size)); have X3 := Lib.hid (HXR.out.below hb3 HXR.out.lt); obtain ⟨x1, _⟩ := X3.out.at_ 1 _ rfl; clear hb3) | ((with_reducible refine (HP4.out _).mono ?_); rintro e w4 ⟨rfl, hb4⟩; have B4 := Lib.hid (B3.out.trans (hb4.mono B3.out.size)); have X4 := Lib.hid (X3.out.below hb4 X3.out.lt); clear x1; obtain ⟨x3, _⟩ := X4.out.at_ 3 _ rfl; clear hb4) | ((with_reducible refine (HP2.out _).mono ?_); rintro e w5 ⟨rfl, hb5⟩; have B5 := Lib.hid (B4.out.trans (hb5.mono B4.out.size)); have X5 := Lib.hid (X4.out.below hb5 X4.out.lt); clear x3; obtain ⟨x4, _⟩ := X5.out.at_ 4 _ rfl; clear hb5) | ((with_reducible refine (HPA.out _).mono ?_); rintro e w6 ⟨rfl, hb6⟩; have B6 := Lib.hid (B5.out.trans (hb6.mono B5.out.size)); have X6 := Lib.hid (X5.out.below hb6 X5.out.lt); clear x4; clear hb6))
      go_ret2
      exact ⟨by rw [HR0.out, bstr_nil]; rfl, B6.out⟩
    · cases o2 : okPut port 2
      · have HR0 := Lib.hid (show r = ([], 1) from by rw [HRT.out, o4, o2]; rfl)
        rw [o4, if_pos rfl] at HP4
        rw [o2, if_neg (by decide)] at HP2
        clear HRT o4 o2
        obtain ⟨YHP4, hYHP4⟩ : ∃ y, putS cost 4 = y := ⟨_, rfl⟩
        rw [hYHP4] at HP4
        clear hYHP4
        obtain ⟨YHP2, hYHP2⟩ : ∃ y, putS port 2 = y := ⟨_, rfl⟩
        rw [hYHP2] at HP2
        clear hYHP2
        obtain ⟨YHPA, hYHPA⟩ : ∃ y, putS age 1 = y := ⟨_, rfl⟩
        rw [hYHPA] at HPA
        clear hYHPA
        obtain ⟨EHPA, hEHPA⟩ : ∃ y : Int, (if okPut age 1 = true then 0 else 1) = y := ⟨_, rfl⟩
        rw [hEHPA] at HPA
        clear hEHPA
        go_wp2_with (first | ((with_reducible refine (HP1.out _).mono ?_); rintro e w3 ⟨rfl, hb3⟩; have B3 := Lib.hid (HBR.out.trans (hb3.mono HBR.out.size)); have X3 := Lib.hid (HXR.out.below hb3 HXR.out.lt); obtain ⟨x1, _⟩ := X3.out.at_ 1 _ rfl; clear hb3) | ((with_reducible refine (HP4.out _).mono ?_); rintro e w4 ⟨rfl, hb4⟩; have B4 := Lib.hid (B3.out.trans (hb4.mono B3.out.size)); have X4 := Lib.hid (X3.out.below hb4 X3.out.lt); clear x1; obtain ⟨x3, _⟩ := X4.out.at_ 3 _ rfl; clear hb4) | ((with_reducible refine (HP2.out _).mono ?_); rintro e w5 ⟨rfl, hb5⟩; have B5 := Lib.hid (B4.out.trans (hb5.mono B4.out.size)); have X5 := Lib.hid (X4.out.below hb5 X4.out.lt); clear x3; obtain ⟨x4, _⟩ := X5.out.at_ 4 _ rfl; clear hb5) | ((with_reducible refine (HPA.out _).mono ?_); rintro e w6 ⟨rfl, hb6⟩; have B6 := Lib.hid (B5.out.trans (hb6.mono B5.out.size)); have X6 := Lib.hid (X5.out.below hb6 X5.out.lt); clear x4; clear hb6))
        go_ret2
        exact ⟨by rw [HR0.out, bstr_nil]; rfl, B6.out⟩
      · cases oa : okPut age 1
        · have HR0 := Lib.hid (show r = ([], 1) from by rw [HRT.out, o4, o2, oa]; rfl)
          rw [o4, if_pos rfl] at HP4
          rw [o2, if_pos rfl] at HP2
          rw [oa, if_neg (by decide)] at HPA
          clear HRT o4 o2 oa
          obtain ⟨YHP4, hYHP4⟩ : ∃ y, putS cost 4 = y := ⟨_, rfl⟩
          rw [hYHP4] at HP4
          clear hYHP4
          obtain ⟨YHP2, hYHP2⟩ : ∃ y, putS port 2 = y := ⟨_, rfl⟩
          rw [hYHP2] at HP2
          clear hYHP2
          obtain ⟨YHPA, hYHPA⟩ : ∃ y, putS age 1 = y := ⟨_, rfl⟩
          rw [hYHPA] at HPA
          clear hYHPA
          go_wp2_with (first | ((with_reducible refine (HP1.out _).mono ?_); rintro e w3 ⟨rfl, hb3⟩; have B3 := Lib.hid (HBR.out.trans (hb3.mono HBR.out.size)); have X3 := Lib.hid (HXR.out.below hb3 HXR.out.lt); obtain ⟨x1, _⟩ := X3.out.at_ 1 _ rfl; clear hb3) | ((with_reducible refine (HP4.out _).mono ?_); rintro e w4 ⟨rfl, hb4⟩; have B4 := Lib.hid (B3.out.trans (hb4.mono B3.out.size)); have X4 := Lib.hid (X3.out.below hb4 X3.out.lt); clear x1; obtain ⟨x3, _⟩ := X4.out.at_ 3 _ rfl; clear hb4) | ((with_reducible refine (HP2.out _).mono ?_); rintro e w5 ⟨rfl, hb5⟩; have B5 := Lib.hid (B4.out.trans (hb5.mono B4.out.size)); have X5 := Lib.hid (X4.out.below hb5 X4.out.lt); clear x3; obtain ⟨x4, _⟩ := X5.out.at_ 4 _ rfl; clear hb5) | ((with_reducible refine (HPA.out _).mono ?_); rintro e w6 ⟨rfl, hb6⟩; have B6 := Lib.hid (B5.out.trans (hb6.mono B5.out.size)); have X6 := Lib.hid (X5.out.below hb6 X5.out.lt); clear x4; clear hb6))
          go_ret2
          exact ⟨by rw [HR0.out, bstr_nil]; rfl, B6.out⟩
        · rw [o4, if_pos rfl, putS_yes o4] at HP4
          rw [o2, if_pos rfl, putS_yes o2] at HP2
          rw [oa, if_pos rfl, putS_yes oa] at HPA
          rw [o4, o2, oa] at HRT
          clear o4 o2 oa
          obtain ⟨YHP4, hYHP4⟩ : ∃ y, ofN cost.toNat 4 = y := ⟨_, rfl⟩
          have HLHP4 := Lib.hid (show YHP4.length = 4 from by rw [← hYHP4, ofN_length])
          rw [hYHP4] at HP4 HRT
          clear hYHP4
          obtain ⟨YHP2, hYHP2⟩ : ∃ y, ofN port.toNat 2 = y := ⟨_, rfl⟩
          have HLHP2 := Lib.hid (show YHP2.length = 2 from by rw [← hYHP2, ofN_length])
          rw [hYHP2] at HP2 HRT
          clear hYHP2
          obtain ⟨YHPA, hYHPA⟩ : ∃ y, ofN age.toNat 1 = y := ⟨_, rfl⟩
          have HLHPA := Lib.hid (show YHPA.length = 1 from by rw [← hYHPA, ofN_length])
          rw [hYHPA] at HPA HRT
          clear hYHPA
          obtain ⟨R8, hR8⟩ : ∃ y, ofN rn 8 = y := ⟨_, rfl⟩
          have HLR8 := Lib.hid (show R8.length = 8 from by rw [← hR8, ofN_length])
          have HER8 := Lib.hid (fun W => eight_any rn W H8.out.1)
          rw [hR8] at HER8 HRT
          clear hR8
          obtain ⟨D8, hD8⟩ : ∃ y, ofN dn 8 = y := ⟨_, rfl⟩
          have HLD8 := Lib.hid (show D8.length = 8 from by rw [← hD8, ofN_length])
          have HED8 := Lib.hid (fun W => eight_any dn W H8.out.2)
          rw [hD8] at HED8 HRT
          clear hD8
          obtain ⟨S1, hS1⟩ : ∃ y, ([66, 66, 3, 0, 0, 2, 2] : Str) ++ X1 = y := ⟨_, rfl⟩
          have LS1 : S1.length = 8 := by rw [← hS1, List.length_append, HL1.out]; try rfl
          have haS1 := fun (W : World) => run_sadd_b (P := Tryz.prog) W ([66, 66, 3, 0, 0, 2, 2] : Str) X1 (by rw [HL1.out]; decide)
          rw [hS1, bstr_eq ([66, 66, 3, 0, 0, 2, 2] : Str)] at haS1
          rw [hS1] at HRT
          obtain ⟨S2, hS2⟩ : ∃ y, S1 ++ R8 = y := ⟨_, rfl⟩
          have LS2 : S2.length = 16 := by rw [← hS2, List.length_append, HLR8.out, LS1]; try rfl
          have haS2 := fun (W : World) => run_sadd_b (P := Tryz.prog) W S1 R8 (by rw [LS1, HLR8.out]; decide)
          rw [hS2] at haS2
          rw [hS2] at HRT
          obtain ⟨S3, hS3⟩ : ∃ y, S2 ++ YHP4 = y := ⟨_, rfl⟩
          have LS3 : S3.length = 20 := by rw [← hS3, List.length_append, HLHP4.out, LS2]; try rfl
          have haS3 := fun (W : World) => run_sadd_b (P := Tryz.prog) W S2 YHP4 (by rw [LS2, HLHP4.out]; decide)
          rw [hS3] at haS3
          rw [hS3] at HRT
          obtain ⟨S4, hS4⟩ : ∃ y, S3 ++ D8 = y := ⟨_, rfl⟩
          have LS4 : S4.length = 28 := by rw [← hS4, List.length_append, HLD8.out, LS3]; try rfl
          have haS4 := fun (W : World) => run_sadd_b (P := Tryz.prog) W S3 D8 (by rw [LS3, HLD8.out]; decide)
          rw [hS4] at haS4
          rw [hS4] at HRT
          obtain ⟨S5, hS5⟩ : ∃ y, S4 ++ YHP2 = y := ⟨_, rfl⟩
          have LS5 : S5.length = 30 := by rw [← hS5, List.length_append, HLHP2.out, LS4]; try rfl
          have haS5 := fun (W : World) => run_sadd_b (P := Tryz.prog) W S4 YHP2 (by rw [LS4, HLHP2.out]; decide)
          rw [hS5] at haS5
          rw [hS5] at HRT
          obtain ⟨S6, hS6⟩ : ∃ y, S5 ++ YHPA = y := ⟨_, rfl⟩
          have LS6 : S6.length = 31 := by rw [← hS6, List.length_append, HLHPA.out, LS5]; try rfl
          have haS6 := fun (W : World) => run_sadd_b (P := Tryz.prog) W S5 YHPA (by rw [LS5, HLHPA.out]; decide)
          rw [hS6] at haS6
          rw [hS6] at HRT
          obtain ⟨S7, hS7⟩ : ∃ y, S6 ++ ([0, 20, 0, 2, 0, 15, 0, 0] : Str) = y := ⟨_, rfl⟩
          have LS7 : S7.length = 39 := by rw [← hS7, List.length_append, LS6]; try rfl
          have haS7 := fun (W : World) => run_sadd_b (P := Tryz.prog) W S6 ([0, 20, 0, 2, 0, 15, 0, 0] : Str) (by rw [LS6]; decide)
          rw [hS7, bstr_eq ([0, 20, 0, 2, 0, 15, 0, 0] : Str)] at haS7
          rw [hS7] at HRT
          clear hS1 LS1 hS2 LS2 hS3 LS3 hS4 LS4 hS5 LS5 hS6 LS6 hS7 LS7
          have HAS1 := Lib.hid haS1
          clear haS1
          have HAS2 := Lib.hid haS2
          clear haS2
          have HAS3 := Lib.hid haS3
          clear haS3
          have HAS4 := Lib.hid haS4
          clear haS4
          have HAS5 := Lib.hid haS5
          clear haS5
          have HAS6 := Lib.hid haS6
          clear haS6
          have HAS7 := Lib.hid haS7
          clear haS7
          go_upto_region 13 with (first | ((with_reducible refine (HP1.out _).mono ?_); rintro e w3 ⟨rfl, hb3⟩; have B3 := Lib.hid (HBR.out.trans (hb3.mono HBR.out.size)); have X3 := Lib.hid (HXR.out.below hb3 HXR.out.lt); obtain ⟨x1, _⟩ := X3.out.at_ 1 _ rfl; clear hb3) | ((with_reducible refine (HP4.out _).mono ?_); rintro e w4 ⟨rfl, hb4⟩; have B4 := Lib.hid (B3.out.trans (hb4.mono B3.out.size)); have X4 := Lib.hid (X3.out.below hb4 X3.out.lt); clear x1; obtain ⟨x3, _⟩ := X4.out.at_ 3 _ rfl; clear hb4) | ((with_reducible refine (HP2.out _).mono ?_); rintro e w5 ⟨rfl, hb5⟩; have B5 := Lib.hid (B4.out.trans (hb5.mono B4.out.size)); have X5 := Lib.hid (X4.out.below hb5 X4.out.lt); clear x3; obtain ⟨x4, _⟩ := X5.out.at_ 4 _ rfl; clear hb5) | ((with_reducible refine (HPA.out _).mono ?_); rintro e w6 ⟨rfl, hb6⟩; have B6 := Lib.hid (B5.out.trans (hb6.mono B5.out.size)); have X6 := Lib.hid (X5.out.below hb6 X5.out.lt); clear x4; clear hb6))
          obtain ⟨Z, hZ⟩ : ∃ W, w6.drew = W := ⟨_, rfl⟩
          have hbz : Below w6.heap.size w6 Z := by rw [← hZ]; exact Below.drew (Below.refl _ _)
          have HZ := Lib.hid hZ
          have XZ := Lib.hid (X6.out.below hbz X6.out.lt); have BZ := Lib.hid (B6.out.trans (hbz.mono B6.out.size))
          clear hZ hbz X6 B6 X5 B5 X4 B4 X3 B3 HXR HBR HP1 HP4 HP2 HPA
          have HF := Lib.hid (fun (wq : World) (h : CBox wq q0 110 #[.int .u64 (rn : Nat), .int .i64 cost, .int .u64 (dn : Nat), .int .i64 port, .int .i64 age, .bool c, .bool l, .bool f]) => And.intro (h.at_ 0 _ rfl).1 (And.intro (h.at_ 2 _ rfl).1 (And.intro HAS1.out (And.intro HAS2.out (And.intro HAS3.out (And.intro HAS4.out (And.intro HAS5.out (And.intro HAS6.out HAS7.out))))))))
          refine wp_region_held_drew (S := fun wq => CBox wq q0 110 #[.int .u64 (rn : Nat), .int .i64 cost, .int .u64 (dn : Nat), .int .i64 port, .int .i64 age, .bool c, .bool l, .bool f]) (by kernel_rfl) (by rw [HZ.out]; exact XZ.out) (fun hHeld => ?_)
          rw [HZ.out] at hHeld ⊢
          iterate 5 (first | (refine takeO 21 (v := ?_) rfl (by kernel_rfl) (fun _ _ _ => id) (Or.inl ⟨by rfl, ?_⟩) (by assumption) ?_; rotate_left; (focus (intro wq hSq; have f := HF.out wq hSq; go_simp <;> with_reducible rfl)); simp only [Act.put, List.setIfInBounds_toArray, List.set_cons_zero, List.set_cons_succ]) | (refine takeO 21 (v := undef) rfl (by kernel_rfl) (fun _ _ _ h => h) (Or.inr ⟨by rfl, rfl⟩) (by assumption) ?_; simp only [Act.put, List.setIfInBounds_toArray, List.set_cons_zero, List.set_cons_succ]))
          refine tkL 7 (v := ?_) rfl (by kernel_rfl) (fun _ _ _ => id) (Or.inl ⟨by rfl, ?_⟩) (by assumption) ?_; rotate_left; (focus (intro wq hSq; have f := HF.out wq hSq; go_simp <;> with_reducible rfl)); simp only [Act.put, pA, pB, pC]
          refine tkL 9 (v := ?_) rfl (by kernel_rfl) (fun _ _ _ => id) (Or.inl ⟨by rfl, ?_⟩) (by assumption) ?_; rotate_left; (focus (intro wq hSq; have f := HF.out wq hSq; go_simp <;> with_reducible rfl)); simp only [Act.put, pA, pB, pC]
          refine tkL 10 (v := ?_) rfl (by kernel_rfl) (fun _ _ _ => id) (Or.inl ⟨by rfl, ?_⟩) (by assumption) ?_; rotate_left; (focus (intro wq hSq; have f := HF.out wq hSq; go_simp <;> with_reducible rfl)); simp only [Act.put, pA, pB, pC]
          refine tkL 11 (v := ?_) rfl (by kernel_rfl) (fun _ _ _ => id) (Or.inl ⟨by rfl, ?_⟩) (by assumption) ?_; rotate_left; (focus (intro wq hSq; have f := HF.out wq hSq; go_simp <;> with_reducible rfl)); simp only [Act.put, pA, pB, pC]
          refine tkL 14 (v := ?_) rfl (by kernel_rfl) (fun _ _ _ => id) (Or.inl ⟨by rfl, ?_⟩) (by assumption) ?_; rotate_left; (focus (intro wq hSq; have f := HF.out wq hSq; go_simp <;> with_reducible rfl)); simp only [Act.put, pA, pB, pC]
          refine tkL 16 (v := ?_) rfl (by kernel_rfl) (fun _ _ _ => id) (Or.inl ⟨by rfl, ?_⟩) (by assumption) ?_; rotate_left; (focus (intro wq hSq; have f := HF.out wq hSq; go_simp <;> with_reducible rfl)); simp only [Act.put, pA, pB, pC]
          refine wpAnyH_ready (rs := [5]) (by kernel_rfl) (by simp) (nextL 5 rfl (fun Kr hKr => ?_) AllReadyH.nil)
          rw [if_pos (by rfl)]
          go_simp
          (with_reducible refine (HER8.out _).mono ?_)
          rintro e wa ⟨rfl, hba⟩
          have XA := Lib.hid (XZ.out.below hba XZ.out.lt); have BA := Lib.hid (BZ.out.trans (hba.mono BZ.out.size))
          refine hKr.out _ _ XA.out (fun _ => ?_)
          clear hKr hba
          refine tkL 6 (v := ?_) rfl (by kernel_rfl) (fun _ _ _ => id) (Or.inl ⟨by rfl, ?_⟩) (by assumption) ?_; rotate_left; (focus (intro wq hSq; have f := HF.out wq hSq; go_simp <;> with_reducible rfl)); simp only [Act.put, pA, pB, pC]
          refine tkL 8 (v := ?_) rfl (by kernel_rfl) (fun _ _ _ => id) (Or.inl ⟨by rfl, ?_⟩) (by assumption) ?_; rotate_left; (focus (intro wq hSq; have f := HF.out wq hSq; go_simp <;> with_reducible rfl)); simp only [Act.put, pA, pB, pC]
          refine wpAnyH_ready (rs := [12]) (by kernel_rfl) (by simp) (nextL 12 rfl (fun Kr hKr => ?_) AllReadyH.nil)
          rw [if_pos (by rfl)]
          go_simp
          (with_reducible refine (HED8.out _).mono ?_)
          rintro e wb ⟨rfl, hbb⟩
          have XB := Lib.hid (XA.out.below hbb XA.out.lt); have BB := Lib.hid (BA.out.trans (hbb.mono BA.out.size))
          refine hKr.out _ _ XB.out (fun _ => ?_)
          clear hKr hbb
          refine tkL 13 (v := ?_) rfl (by kernel_rfl) (fun _ _ _ => id) (Or.inl ⟨by rfl, ?_⟩) (by assumption) ?_; rotate_left; (focus (intro wq hSq; have f := HF.out wq hSq; go_simp <;> with_reducible rfl)); simp only [Act.put, pA, pB, pC]
          refine tkL 15 (v := ?_) rfl (by kernel_rfl) (fun _ _ _ => id) (Or.inl ⟨by rfl, ?_⟩) (by assumption) ?_; rotate_left; (focus (intro wq hSq; have f := HF.out wq hSq; go_simp <;> with_reducible rfl)); simp only [Act.put, pA, pB, pC]
          refine tkL 17 (v := ?_) rfl (by kernel_rfl) (fun _ _ _ => id) (Or.inl ⟨by rfl, ?_⟩) (by assumption) ?_; rotate_left; (focus (intro wq hSq; have f := HF.out wq hSq; go_simp <;> with_reducible rfl)); simp only [Act.put, pA, pB, pC]
          refine tkL 18 (v := ?_) rfl (by kernel_rfl) (fun _ _ _ => id) (Or.inl ⟨by rfl, ?_⟩) (by assumption) ?_; rotate_left; (focus (intro wq hSq; have f := HF.out wq hSq; go_simp <;> with_reducible rfl)); simp only [Act.put, pA, pB, pC]
          refine tkL 19 (v := ?_) rfl (by kernel_rfl) (fun _ _ _ => id) (Or.inl ⟨by rfl, ?_⟩) (by assumption) ?_; rotate_left; (focus (intro wq hSq; have f := HF.out wq hSq; go_simp <;> with_reducible rfl)); simp only [Act.put, pA, pB, pC]
          refine tkL 20 (v := ?_) rfl (by kernel_rfl) (fun _ _ _ => id) (Or.inl ⟨by rfl, ?_⟩) (by assumption) ?_; rotate_left; (focus (intro wq hSq; have f := HF.out wq hSq; go_simp <;> with_reducible rfl)); simp only [Act.put, pA, pB, pC]
          refine wpAnyH_done (by kernel_rfl) ?_ _
          go_wp2_with fail
          go_ret2
          exact ⟨by rw [HRT.out]; rfl, BB.out⟩
  · intro x v w2 cnt2 hxk hF hlf hrg2 hlt hg2 hs2 hen
    have hb2 := hg2
    have HB2 := Lib.hid (show Below w.heap.size w w2 from HBR.out.grown hg2 HBR.out.size (fun k hk => by cases hk; exact Nat.le_trans HWM.out HWS.out))
    have HX2 := Lib.hid (HXR.out.grown hg2 (fun e => by injection e with e; have := HML.out; have := HWS.out; omega))
    have HRG2 := Lib.hid hrg2
    have HM2 := Lib.hid (show w2.rangeLeft W1.heap.size W5.heap.size < wr.rangeLeft W1.heap.size W5.heap.size from by rw [hrg2.left, HRG.out.left]; exact hlt)
    clear hxk hb2 hg2 hs2 hlt hrg2
    rcases FlagV_some hF with ⟨rfl, rfl⟩ | ⟨rfl, rfl⟩ | ⟨rfl, rfl⟩
    all_goals clear hF
    all_goals replace hen : (Instr.entry (.pointer (some ⟨W5.heap.size, 0, none⟩))).run Tryz.prog w2 = .ok _ w2 := hen
    all_goals unfold KZ at hen
    all_goals dsimp only at hen
    · have HS := Lib.hid (And.intro (strike_same lf 0) (And.intro (strike_else lf 0 4 (by decide)) (strike_else lf 0 5 (by decide))))
      cases c
      · have HV := Lib.hid (show flg false l f (lf 0) (lf 4) (lf 5) = flg false l f (strikeK lf 0 0) (strikeK lf 0 4) (strikeK lf 0 5) from by
         rw [HS.out.1, HS.out.2.1, HS.out.2.2]
         unfold flg
         simp)
        clear hlf
        go_wp2
        go_roundw
        case rel => exact ⟨_, _, by rw [HV.out], HRG2.out, HB2.out, HX2.out⟩
        case measure => exact HM2.out
      · have HV := Lib.hid (show bits BinOp.or .i64 (flg true l f (lf 0) (lf 4) (lf 5)) 1 = flg true l f (strikeK lf 0 0) (strikeK lf 0 4) (strikeK lf 0 5) from by
         rw [HS.out.1, HS.out.2.1, HS.out.2.2, hlf]
         exact flg_a _ _ _ _)
        clear hlf
        go_wp2
        go_roundw
        case rel => exact ⟨_, _, by rw [← HV.out], HRG2.out, HB2.out, HX2.out⟩
        case measure => exact HM2.out
    · have HS := Lib.hid (And.intro (strike_same lf 4) (And.intro (strike_else lf 4 0 (by decide)) (strike_else lf 4 5 (by decide))))
      cases l
      · have HV := Lib.hid (show flg c false f (lf 0) (lf 4) (lf 5) = flg c false f (strikeK lf 4 0) (strikeK lf 4 4) (strikeK lf 4 5) from by
         rw [HS.out.1, HS.out.2.1, HS.out.2.2]
         unfold flg
         simp)
        clear hlf
        go_wp2
        go_roundw
        case rel => exact ⟨_, _, by rw [HV.out], HRG2.out, HB2.out, HX2.out⟩
        case measure => exact HM2.out
      · have HV := Lib.hid (show bits BinOp.or .i64 (flg c true f (lf 0) (lf 4) (lf 5)) 16 = flg c true f (strikeK lf 4 0) (strikeK lf 4 4) (strikeK lf 4 5) from by
         rw [HS.out.1, HS.out.2.1, HS.out.2.2, hlf]
         exact flg_b _ _ _ _)
        clear hlf
        go_wp2
        go_roundw
        case rel => exact ⟨_, _, by rw [← HV.out], HRG2.out, HB2.out, HX2.out⟩
        case measure => exact HM2.out
    · have HS := Lib.hid (And.intro (strike_same lf 5) (And.intro (strike_else lf 5 0 (by decide)) (strike_else lf 5 4 (by decide))))
      cases f
      · have HV := Lib.hid (show flg c l false (lf 0) (lf 4) (lf 5) = flg c l false (strikeK lf 5 0) (strikeK lf 5 4) (strikeK lf 5 5) from by
         rw [HS.out.1, HS.out.2.1, HS.out.2.2]
         unfold flg
         simp)
        clear hlf
        go_wp2
        go_roundw
        case rel => exact ⟨_, _, by rw [HV.out], HRG2.out, HB2.out, HX2.out⟩
        case measure => exact HM2.out
      · have HV := Lib.hid (show bits BinOp.or .i64 (flg c l true (lf 0) (lf 4) (lf 5)) 32 = flg c l true (strikeK lf 5 0) (strikeK lf 5 4) (strikeK lf 5 5) from by
         rw [HS.out.1, HS.out.2.1, HS.out.2.2, hlf]
         exact flg_d _ _ _ _)
        clear hlf
        go_wp2
        go_roundw
        case rel => exact ⟨_, _, by rw [← HV.out], HRG2.out, HB2.out, HX2.out⟩
        case measure => exact HM2.out
end Go.Proofs.YthcdppppppgckaaGreatDoor
