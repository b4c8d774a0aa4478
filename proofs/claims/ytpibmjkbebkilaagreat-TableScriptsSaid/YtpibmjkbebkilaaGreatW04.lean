/- Texts joined into one file: StrRising, Values, Boxes. -/
import Derived.Test.YtpibmjkbebkilaaGreatW03
import Derived.Sort.Walk0
import Derived.Test.YtpibmjkbebkilaaGreatW01
import Derived.RangeFuncBox
import Derived.RangeFuncLeaves
import Derived.Shelf.Abstract
import Derived.WalkKit
import Derived.OwnWalkIn
import Derived.TacticsInMore
import Derived.LoopNIn
import Derived.LoopIn
import Derived.Maps.AppendAt
import Derived.Test.YtpibmjkbebkilaaGreatW02

namespace Go.Proofs.YtpibmjkbebkilaaGreat
open Go.RowKit Go.Sort
set_option maxRecDepth 20000

def lenOf : Value → Nat
 | .slice _ n _ => n
 | _ => 0

theorem own_len {w : World} {base : Nat} {e : TypeId} {size : Nat} {v : Value} {n : Nat} {xs : List Value} (h : w.ownsRow base e size v n xs) : lenOf v = n := by
 rcases h.2 with ⟨rfl, rfl⟩ | ⟨g, cap, cur, rfl, _⟩ <;> rfl

def RetStrs (w : World) (L : List Str) (e : Ending) (w' : World) : Prop := ∃ v, e = .returned v ∧ Strs w' v L ∧ Below w.heap.size w w' ∧ Lies w.heap.size v

theorem slen_asc {L : List Str} (h : ∀ x ∈ L, x.length ≤ maxLen) (n : Nat) : ∀ x ∈ (sasc L).take n, x.length ≤ maxLen :=
 fun x hx => h x ((sasc_mem L x).1 (List.mem_of_mem_take hx))

theorem infoAddr : (Tryz.prog.info? 36).map (fun i => (i.zero, i.size, i.bytes)) = some (some (.string ⟨#[]⟩), 1, 16) := by kernel_rfl

theorem ones_str (x : Str) : ∀ u ∈ [Value.string (bstr x)], u.oneCell' = true := by simp [Value.oneCell']

set_option maxRecDepth 20000 in
set_option maxHeartbeats 4000000 in
theorem srising_any (v : Value) (L : List Str) (w : World) (h : Strs w v L) :
 Calls Tryz.prog 63 #[v] w (RetStrs w (sasc L)) := by
 obtain ⟨b, off, hm, hlen, hidx, hc⟩ := h.facts
 have HWF := Lib.hid h.len
 have hbt := bstr_toList
 clear h
 obtain ⟨i0, hi, hz0, hz1, hz2⟩ := info_parts infoAddr
 have hal := sasc_length L
 go_enter Tryz.func63, Tryz.ntmps63
 go_wp2
 go_loopw [3] (fun o wr => ∃ n, n ≤ (sasc L).length ∧ wr.ownsRow w.heap.size 36 1 o ((sasc L).take n).length (((sasc L).take n).map (encStr)) ∧ Below w.heap.size w wr) (fun o _ => L.length + 1 - lenOf o)
 case atStart => exact ⟨0, Nat.zero_le _, by simpa using World.ownsRow_nil _ _ _ _, Below.refl _ _⟩
 case round =>
  obtain ⟨n, hn, hown, hbel⟩ := hrel
  obtain ⟨wo, rfl⟩ : ∃ wo : World, wo = wr := ⟨_, rfl⟩
  have htl : ((sasc L).take n).length = n := by rw [List.length_take]; omega
  obtain ⟨ob, ooff, hom, holen, hoidx, hoc⟩ := (Strs.own hown (by omega) (slen_asc HWF.out n)).facts
  rw [htl] at holen hoidx hoc
  have HO := Lib.hid hown
  clear hown
  have hnl : n ≤ L.length := by omega
  go_wp2
  go_loopw [4, 5] (fun nx i wr => ∃ k : Nat, ∃ x : Int, k ≤ L.length ∧ i = .int .i64 k ∧ nx = .int .i64 x ∧ SFound L n k x ∧ ∃ d, wr = wo.drewN d) (fun _ i _ => L.length - (intOf i).toNat)
  case atStart => exact ⟨0, -1, Nat.zero_le _, rfl, rfl, sfound_start L n, 0, rfl⟩
  case round =>
   obtain ⟨k, x, hk, rfl, rfl, hf, d, rfl⟩ := hrel
   have HF := Lib.hid hf
   by_cases hlt : k < L.length
   · have hp := hidx k hlt
     have hcell := (hbel.cell (p := ⟨b, off + k, none⟩) (hc k hlt).1).trans (hc k hlt).2
     have hcx := sfound_cases hf
     obtain ⟨y, hy⟩ : ∃ y, L[k] = y := ⟨_, rfl⟩
     rw [show L.getD k [] = y from by rw [← hy]; simp [List.getD_eq_getElem?_getD, hlt]] at hcell
     rw [enc_bstr] at hcell
     have HY := Lib.hid hy
     -- does y stand behind?
     have key : ∀ (bh : Bool), (bh = true → y ∉ (sasc L).take n) → (bh = false → y ∈ (sasc L).take n) → ∃ x', (bh = false → x' = x ∧ SFound L n (k + 1) x) ∧ (bh = true → x = -1 → SFound L n (k + 1) k) ∧ (bh = true → ∀ j : Nat, x = j → (y < L.getD j [] → SFound L n (k + 1) k) ∧ (¬ y < L.getD j [] → SFound L n (k + 1) j)) := by
      intro bh hb1 hb2
      refine ⟨x, fun h => ⟨rfl, sfound_seen hf hlt (by rw [hy]; exact hb2 h)⟩, fun h hx => ?_, fun h j hx => ⟨fun hl => ?_, fun hl => ?_⟩⟩
      · subst hx; exact sfound_first hf hlt (by rw [hy]; exact hb1 h)
      · subst hx
        have hj := sfound_lt hf
        exact sfound_less hf hlt hj (by rw [hy]; exact hb1 h) (by rw [hy]; simpa [List.getD_eq_getElem?_getD, hj] using hl)
      · subst hx
        have hj := sfound_lt hf
        exact sfound_more hf hlt hj (by rw [hy]; simpa [List.getD_eq_getElem?_getD, hj] using hl)
     have KEY := Lib.hid key
     clear key hf hy
     by_cases hn0 : n = 0
     · have hz : ((n : Int) == 0) = true := by simp [hn0]
       obtain ⟨_, K0, K1, K2⟩ := KEY.out true (by simp [hn0]) (by simp)
       clear K0 KEY hn0 hoidx hoc
       rcases hcx with rfl | ⟨j, rfl, hj⟩
       · have K := Lib.hid (K1 rfl rfl)
         clear hc K1 K2 hidx
         go_wp2
         go_quiet (fail)
         go_wp2
         go_quiet (fail)
         go_wp2
         go_roundw
         case rel => exact ⟨k + 1, k, by omega, by go_num, rfl, K.out, _, rfl⟩
         case measure => simp [intOf]; omega
       · have hpj := hidx j hj
         have hcj := (hbel.cell (p := ⟨b, off + j, none⟩) (hc j hj).1).trans (hc j hj).2
         obtain ⟨z, hzj⟩ : ∃ z, L.getD j [] = z := ⟨_, rfl⟩
         rw [hzj] at hcj
         rw [enc_bstr] at hcj
         have K := K2 rfl j rfl
         rw [hzj] at K
         have hj0 : ¬ (j : Int) < 0 := by omega
         clear hc K1 K2 hidx hzj
         by_cases hyz : y < z
         · have K' := Lib.hid (K.1 hyz)
           have hdz : Op.bytesLess y z = true := by rw [Go.Proofs.bytesLess_eq]; exact decide_eq_true hyz
           clear hyz
           clear K
           go_wp2
           go_quiet (fail)
           go_wp2
           go_quiet (fail)
           go_wp2
           go_roundw
           case rel => exact ⟨k + 1, k, by omega, by go_num, rfl, K'.out, _, rfl⟩
           case measure => simp [intOf]; omega
         · have K' := Lib.hid (K.2 hyz)
           have hdz : Op.bytesLess y z = false := by rw [Go.Proofs.bytesLess_eq]; exact decide_eq_false hyz
           clear hyz
           clear K
           go_wp2
           go_quiet (fail)
           go_wp2
           go_quiet (fail)
           go_wp2
           go_roundw
           case rel => exact ⟨k + 1, j, by omega, by go_num, rfl, K'.out, _, rfl⟩
           case measure => simp [intOf]; omega
     · have hz : ((n : Int) == 0) = false := by simp [hn0]
       have hpo : ∀ w', (Instr.indexAt 37 u3 (.int .i64 ((n : Int) - 1))).run Tryz.prog w' = .ok (.pointer (some ⟨ob, ooff + (n - 1), none⟩)) w' := by
        have := hoidx (n - 1) (by omega)
        rwa [show ((n - 1 : Nat) : Int) = (n : Int) - 1 from by omega] at this
       have hco := (hoc (n - 1) (by omega)).2
       obtain ⟨t, ht⟩ : ∃ t, ((sasc L).take n).getD (n - 1) [] = t := ⟨_, rfl⟩
       rw [ht] at hco
       rw [enc_bstr] at hco
       have hB : y ∉ (sasc L).take n ↔ t < y := by
        have hml : n - 1 < (sasc L).length := by omega
        have e : (sasc L)[n - 1] = t := by rw [← ht]; simp [List.getD_eq_getElem?_getD, show n - 1 < n from by omega, hml]
        have := sbehind_iff L (n - 1) hml y (by rw [← HY.out]; exact List.getElem_mem hlt)
        rwa [show n - 1 + 1 = n from by omega, e] at this
       have hn1 : 1 ≤ n := by omega
       clear hoidx hoc hn0 ht
       by_cases hty : t < y
       · obtain ⟨_, K0, K1, K2⟩ := KEY.out true (fun _ => hB.2 hty) (by simp)
         have hd : Op.bytesLess y t = false := by rw [Go.Proofs.bytesLess_eq]; exact decide_eq_false (fun k => slt_asymm hty k)
         have hd' : (y == t) = false := by rw [beq_eq_false_iff_ne]; rintro rfl; exact slt_irrefl _ hty
         clear hty
         clear K0 KEY hB
         rcases hcx with rfl | ⟨j, rfl, hj⟩
         · have K := Lib.hid (K1 rfl rfl)
           clear hc K1 K2 hidx
           go_wp2
           go_quiet (fail)
           go_wp2
           go_quiet (fail)
           go_wp2
           go_roundw
           case rel => exact ⟨k + 1, k, by omega, by go_num, rfl, K.out, _, rfl⟩
           case measure => simp [intOf]; omega
         · have hpj := hidx j hj
           have hcj := (hbel.cell (p := ⟨b, off + j, none⟩) (hc j hj).1).trans (hc j hj).2
           obtain ⟨z, hzj⟩ : ∃ z, L.getD j [] = z := ⟨_, rfl⟩
           rw [hzj] at hcj
           rw [enc_bstr] at hcj
           have K := K2 rfl j rfl
           rw [hzj] at K
           have hj0 : ¬ (j : Int) < 0 := by omega
           clear hc K1 K2 hidx hzj
           by_cases hyz : y < z
           · have K' := Lib.hid (K.1 hyz)
             have hdz : Op.bytesLess y z = true := by rw [Go.Proofs.bytesLess_eq]; exact decide_eq_true hyz
             clear hyz
             clear K
             go_wp2
             go_quiet (fail)
             go_wp2
             go_quiet (fail)
             go_wp2
             go_roundw
             case rel => exact ⟨k + 1, k, by omega, by go_num, rfl, K'.out, _, rfl⟩
             case measure => simp [intOf]; omega
           · have K' := Lib.hid (K.2 hyz)
             have hdz : Op.bytesLess y z = false := by rw [Go.Proofs.bytesLess_eq]; exact decide_eq_false hyz
             clear hyz
             clear K
             go_wp2
             go_quiet (fail)
             go_wp2
             go_quiet (fail)
             go_wp2
             go_roundw
             case rel => exact ⟨k + 1, j, by omega, by go_num, rfl, K'.out, _, rfl⟩
             case measure => simp [intOf]; omega
       · obtain ⟨_, K0, K1, K2⟩ := KEY.out false (by simp) (fun _ => by
          by_cases hm : y ∈ (sasc L).take n
          · exact hm
          · exact absurd (hB.1 hm) hty)
         have K := Lib.hid (K0 rfl).2
         have hd : Op.bytesLess y t = true ∨ (Op.bytesLess y t = false ∧ (y == t) = true) := by
          rcases slt_or y t with h | h | h
          · exact .inl (by rw [Go.Proofs.bytesLess_eq]; exact decide_eq_true h)
          · exact .inr ⟨by rw [Go.Proofs.bytesLess_eq]; subst h; exact decide_eq_false (slt_irrefl _), by simpa using h⟩
          · exact absurd h hty
         clear hty
         clear K0 K1 K2 KEY hB hc hidx hcx
         rcases hd with hd | ⟨hd, hd'⟩
         · go_wp2
           go_quiet (fail)
           go_wp2
           go_quiet (fail)
           go_wp2
           go_roundw
           case rel => exact ⟨k + 1, x, by omega, by go_num, rfl, K.out, _, rfl⟩
           case measure => simp [intOf]; omega
         · go_wp2
           go_quiet (fail)
           go_wp2
           go_quiet (fail)
           go_wp2
           go_roundw
           case rel => exact ⟨k + 1, x, by omega, by go_num, rfl, K.out, _, rfl⟩
           case measure => simp [intOf]; omega
   · obtain rfl : k = L.length := by omega
     have hcx := sfound_cases hf
     clear hlt
     rcases hcx with rfl | ⟨j, rfl, hj⟩
     · have hE := Lib.hid (sfound_none hn hf)
       clear hf HF hidx hc hoidx hoc
       go_wp2
       go_ret
       refine ⟨_, rfl, ?_, ?_, Lies.own HO.out⟩
       · have := HO.out
         rw [hE.out, List.take_length] at this
         exact (Strs.own this (by omega) (fun x hx => HWF.out x ((sasc_mem L x).1 hx))).draws d
       · exact below_draws _ hbel d
     · obtain ⟨hlt, hE⟩ := sfound_next hn hf hj
       have hpj := hidx j hj
       have hcj := (hbel.cell (p := ⟨b, off + j, none⟩) (hc j hj).1).trans (hc j hj).2
       have hj0 : ¬ (j : Int) < 0 := by omega
       obtain ⟨z, hz⟩ : ∃ z, (sasc L)[n] = z := ⟨_, rfl⟩
       have hzj : L.getD j [] = z := by rw [← hz, ← hE]; simp [List.getD_eq_getElem?_getD, hj]
       rw [hzj] at hcj
       rw [enc_bstr] at hcj
       have HS := Lib.hid (show (sasc L).take (n + 1) = (sasc L).take n ++ [z] from by rw [take_snoc _ n hlt, hz])
       have hownD : (wo.drewN d).ownsRow w.heap.size 36 1 u3 ((sasc L).take n).length (((sasc L).take n).map (encStr)) := HO.out
       have hbelD := below_draws _ hbel d
       have hs0 := hbelD.size
       have hL3 : ((sasc L).take n).length + 1 ≤ maxLen := by rw [htl]; unfold maxLen; omega
       have hL4 : (((sasc L).take n).length + 1) * 16 ≤ 140737488355328 := by rw [htl]; omega
       clear hf HF hidx hc hoidx hoc hE hzj hz hom
       go_wp2_with (at_builtin; refine wpList_append_own _ rfl _ _ 37 rfl w.heap.size 36 i0 (.string ⟨#[]⟩) 1 16 Tryz.underlying37 hi hz0 hz1 hz2 rfl (by decide) u3 _ _ rfl (hownD.alloc _) ⟨(wo.drewN d).heap.size, 0, none⟩ 1 1 [.string (bstr z)] rfl rfl (cell_one_new _ _ _) (ones_str z) hL3 hL4 (by simp at hs0 ⊢; omega) ?_; intro v' w2 hown2 hg2 _)
       go_roundw
       case rel =>
        refine ⟨n + 1, hlt, ?_, below_own ((hbelD.alloc hs0 _)) (hownD.alloc _) (Nat.le_refl _) (by simp at hs0 ⊢; omega) hg2⟩
        rw [HS.out, List.length_append, List.map_append]
        rw [← enc_bstr] at hown2
        exact hown2
       case measure =>
        have e1 := own_len hown2
        have e2 := own_len hownD
        rw [e1, e2, htl]
        omega
end Go.Proofs.YtpibmjkbebkilaaGreat

namespace Go.Proofs.YtpibmjkbebkilaaGreat
open Go.RowKit Go.Shelf Go.Maps Go.Sort
set_option maxRecDepth 20000
attribute [local go_sem] Oper.semAt_some

theorem vals_stops (n : Nat) (hn : 1 ≤ n) (w0 : World) (Bs : Nat) (sl : Value) (L : List (List UInt8)) (hS : Strs w0 sl L) (w : World) (hB : Below w0.heap.size w0 w) (hBs : Bs < w.heap.size) (hc : w.cell? ⟨Bs, 0, none⟩ = some sl) :
 SeqStopsK Fence.wide n Tryz.prog 79 #[.pointer (some ⟨Bs, 0, none⟩)] (fun x : List UInt8 => #[encStr x]) (Below w0.heap.size) (fun ys => ys = L) (fun pre => pre <+: L) L.length w := fun l J Jx W hW _ _ hY h0 => by
 have hc' := (hW.cell (p := ⟨Bs, 0, none⟩) hBs).trans hc
 have hB' : Below w0.heap.size w0 W := hB.trans (hW.mono hB.size)
 obtain ⟨b, off, hm, hlen, hidx, hcs⟩ := hS.facts
 clear hS hc
 refine callsIn_of_wp Tryz.func79 rfl trivial ?_ rfl
 simp only [Tryz.ntmps79, List.size_toArray, List.length_cons, List.length_nil, Nat.reduceAdd, Nat.reduceSub, Array.replicate_succ, Array.replicate_zero, List.push_toArray, List.append_toArray, List.nil_append, List.cons_append]
 gi_wp2
 gi_loopw [7] (fun i wr => ∃ k : Nat, k ≤ L.length ∧ i = .int .i64 k ∧ J (L.take k) wr ∧ Below w0.heap.size w0 wr) (fun i _ => L.length - (intOf i).toNat)
 case atStart => exact ⟨0, Nat.zero_le _, rfl, h0, hB'⟩
 case round =>
  obtain ⟨k, hk, rfl, hJs, hnx⟩ := hrel
  by_cases hlt : k < L.length
  · obtain ⟨t, ht⟩ : ∃ t, t = L.getD k [] := ⟨_, rfl⟩
    have htk : L[k] = t := by rw [ht]; simp [List.getD_eq_getElem?_getD, hlt]
    have hp := hidx k hlt
    have hcx : wr.cell? ⟨b, off + k, none⟩ = some (encStr t) := by rw [ht]; exact (hnx.cell (p := ⟨b, off + k, none⟩) (hcs k hlt).1).trans (hcs k hlt).2
    have HT := Lib.hid (show L.take (k + 1) = L.take k ++ [t] from by rw [take_snoc L k hlt, htk])
    obtain ⟨fn, tmps, assign, body, hy, hR⟩ := hY _ t wr hJs (by simp; omega)
    clear hidx hcs ht htk
    gi_wp2
    refine hR.mono ?_
    rintro e W3 (⟨rfl, hJ3, hk3⟩ | ⟨rfl, hJx3⟩)
    · gi_wp2
      go_roundw
      case rel => exact ⟨k + 1, by omega, by simp, by rw [HT.out]; exact hJ3, hnx.trans hk3⟩
      case measure => simp [intOf]; omega
    · gi_wp2
      refine bodyPost_ret (results_none rfl _ _ _) rfl ?_
      exact ⟨⟨_, rfl⟩, .inr ⟨_, List.take_prefix (k + 1) _, by rw [HT.out]; exact hJx3⟩⟩
  · obtain rfl : k = L.length := by omega
    gi_wp2
    go_end0
    exact ⟨⟨_, rfl⟩, .inl ⟨_, rfl, by simpa using hJs⟩⟩

theorem vals_in (n : Nat) (ao : Option Addr) (m c : Nat) (w : World) :
 CallsIn Fence.wide n Tryz.prog 53 #[.slice ao m c] w fun e w' => e = .returned (.func (.func 79) #[] #[.pointer (some ⟨w.heap.size, 0, none⟩)]) ∧ w' = w.alloc (.cells #[.slice ao m c] 37) := by
 refine callsIn_of_wp Tryz.func53 rfl trivial ?_ rfl
 simp only [Tryz.ntmps53, List.size_toArray, List.length_cons, List.length_nil, Nat.reduceAdd, Nat.reduceSub, Array.replicate_succ, Array.replicate_zero, List.push_toArray, List.append_toArray, List.nil_append, List.cons_append]
 gi_wp2
 go_ret
 exact ⟨rfl, rfl⟩

set_option maxRecDepth 100000 in
set_option maxHeartbeats 2000000 in
theorem appendVals (n : Nat) (hn : 3 ≤ n) (w0 : World) (Bs : Nat) (sl : Value) (L : List (List UInt8)) (hS : Strs w0 sl L) (w : World) (hB : Below w0.heap.size w0 w) (hBs : Bs < w.heap.size) (hc : w.cell? ⟨Bs, 0, none⟩ = some sl) :
 CallsIn Fence.wide n Tryz.prog 97 #[.slice none 0 0, .func (.func 79) #[] #[.pointer (some ⟨Bs, 0, none⟩)]] w
  fun e W' => ∃ v, e = .returned v ∧ W'.ownsRow w.heap.size 36 1 v L.length (L.map encStr) ∧ (v = .slice none 0 0 ↔ L = []) ∧ Below w.heap.size w W' := by
 have h1 : 1 ≤ n := by omega
 obtain ⟨i0, hi, hz0, hz1, hz2⟩ := info_parts infoAddr
 have hLm : L.length ≤ 8796093022208 := by obtain ⟨_, _, _, _, _, _, h, _⟩ := hS; exact h
 have hmm : maxLen = 9223372036854775807 := rfl
 refine callsIn_of_wp_marks Tryz.func97 rfl trivial ?_ rfl
 simp only [Tryz.ntmps97, List.size_toArray, List.length_cons, List.length_nil, Nat.reduceAdd, Nat.reduceSub, Array.replicate_succ, Array.replicate_zero, List.push_toArray, List.append_toArray, List.nil_append, List.cons_append]
 gi_wp2
 have bO := Boxed.new w 37 (.slice none 0 0)
 have hB0 : Below w.heap.size w (w.alloc (.cells #[.slice none 0 0] 37)) := (Below.refl _ w).alloc (Nat.le_refl _) _
 refine wpIn_rangeFunc_ownG rfl h1 (gf := 79) (lb := #[.pointer (some ⟨Bs, 0, none⟩)]) rfl trivial (enters_of Tryz.func79 (by kernel_rfl) rfl)
  (vals_stops (n - 1) (by omega) w0 Bs sl L hS (w.alloc (.cells #[.slice none 0 0] 37)) (hB.trans (hB0.mono hB.size)) (by simp; omega) ((hB0.cell (p := ⟨Bs, 0, none⟩) hBs).trans hc)) belowK_t (belowK_b (by have := hB.size; simp; omega)) (Below.refl _ _) (fun _ => rfl)
  (fun pre W => (∃ v, Boxed W w.heap.size 37 v ∧ W.ownsRow w.heap.size 36 1 v pre.length (pre.map encStr) ∧ (v = .slice none 0 0 ↔ pre = [])) ∧ Below w.heap.size w W)
  (fun _ _ _ => False)
  (OwnFrom.and (Own.from (holdsRow_own w.heap.size w.heap.size 37 36 1 (fun pre => pre.length) (fun pre => pre.map encStr) (fun pre v => v = .slice none 0 0 ↔ pre = [])) _) (ownFrom_below (Nat.le_refl _) (by simp)))
  (fun _ _ _ _ _ hs _ _ => hs)
  ⟨⟨_, bO, World.ownsRow_nil _ _ _ _, by simp⟩, hB0⟩
  (fun x => { tmps := #[.slice none 0 0, .func (.func 79) #[] #[.pointer (some ⟨Bs, 0, none⟩)], .pointer (some ⟨w.heap.size, 0, none⟩), undef, .slice none 0 0, encStr x, .func (.func 79) #[] #[.pointer (some ⟨Bs, 0, none⟩)], encStr x, undef, undef, undef, undef, undef], defers := [] }) ?assign ?body ?done ?stop
 case assign =>
  intro l x W K hK
  gi_wp2
  exact hK
 case body =>
  rintro l pre x W ⟨⟨v, hv, hrow, hnil⟩, hW⟩ hlt
  have hcb := hv.cell
  gi_wp2_with (gi_at_builtin; refine wpListIn_append_own _ rfl _ _ 37 rfl w.heap.size 36 i0 (.string ⟨#[]⟩) 1 16 Tryz.underlying37 hi hz0 hz1 hz2 rfl (by decide) _ _ _ rfl (hrow.alloc _) ⟨W.heap.size, 0, none⟩ 1 1 [encStr x] rfl rfl (cell_one_new _ _ _) (by simp [Value.oneCell', encStr]) (by omega) (by omega) (by have := hW.size; simp; omega) ?_; intro v' w1 hown' hgrow _; obtain ⟨g', cap', rfl⟩ := ownsRow_succ hown'; obtain ⟨hv1, hv2, hr2, hk2, hb2⟩ := hv.appended (by decide) hrow hW.size (Nat.le_refl _) hown' hgrow; have hc1 := hv1.cell; have hf1 := hv1.frozen)
  exact ⟨hk2.from _, hb2.mono hB.size, ⟨_, hv2, by simpa using hr2, by simp⟩, hW.trans hb2⟩
 case done =>
  rintro D ys W hD rfl ⟨⟨v, hv, hrow, hnil⟩, hW⟩ hK
  have hcb := hv.cell
  gi_wp2
  refine ⟨by simp, .inl ⟨_, _, rfl, run_takeDeferred hK, ?_⟩⟩
  exact ⟨_, results_tmp rfl _ _ _, v, rfl, ownsRow_putObj hrow _ hK rfl, hnil, hW.trans (belowK_b (w := w) (Nat.le_refl _) W D _ _ (by simp at hD; omega) hK rfl rfl)⟩
 case stop =>
  rintro D c pre W _ _ h _
  exact h.elim

theorem own_below {w w' : World} {base : Nat} {e : TypeId} {size : Nat} {v : Value} {n : Nat} {xs : List Value} (h : w.ownsRow base e size v n xs) (hb : Below w.heap.size w w') : w'.ownsRow base e size v n xs :=
 h.kept (row := none) ⟨hb.os, hb.tape, hb.output, hb.size, fun k hk _ => hb.block k hk⟩ (by cases v.ownBlock <;> simp)

theorem sortedVals (w0 : World) (Bs : Nat) (sl : Value) (L : List Str) (hS : Strs w0 sl L) (w : World) (hB : Below w0.heap.size w0 w) (hBs : Bs < w.heap.size) (hc : w.cell? ⟨Bs, 0, none⟩ = some sl) :
 Calls Tryz.prog 52 #[.func (.func 79) #[] #[.pointer (some ⟨Bs, 0, none⟩)]] w
  fun e W' => ∃ v, e = .returned v ∧ Below w.heap.size w W' ∧ (∀ b, v.ownBlock = some b → w.heap.size ≤ b ∧ b < W'.heap.size) ∧ ∀ W, Below W'.heap.size W' W → Calls Tryz.prog 51 #[v] W fun e w'' =>
   ∃ o, e = .returned o ∧ Strs w'' o (sasc L) ∧ W.grownBy w'' v.ownBlock ∧ o.ownBlock = v.ownBlock := by
 refine (callsIn_wide (n := 6)).1 ?_
 refine callsIn_of_wp Tryz.func52 rfl trivial ?_ rfl
 simp only [Tryz.ntmps52, List.size_toArray, List.length_cons, List.length_nil, Nat.reduceAdd, Nat.reduceSub, Array.replicate_succ, Array.replicate_zero, List.push_toArray, List.append_toArray, List.nil_append, List.cons_append]
 have HC : Hid (CallsIn Fence.wide 5 Tryz.prog 77 #[.func (.func 79) #[] #[.pointer (some ⟨Bs, 0, none⟩)]] w fun e W' => ∃ v, e = .returned v ∧ W'.ownsRow w.heap.size 36 1 v L.length (L.map encStr) ∧ (v = .slice none 0 0 ↔ L = []) ∧ Below w.heap.size w W') := by
  refine callsIn_of_wp Tryz.func77 rfl trivial ?_ rfl
  simp only [Tryz.ntmps77, List.size_toArray, List.length_cons, List.length_nil, Nat.reduceAdd, Nat.reduceSub, Array.replicate_succ, Array.replicate_zero, List.push_toArray, List.append_toArray, List.nil_append, List.cons_append]
  gi_wp2_with (refine ⟨trivial, ?_⟩; gi_at_call 97; refine (appendVals _ (by omega) w0 Bs sl L hS w hB hBs hc).mono ?_; rintro e w1 ⟨v, rfl, h1, h2, h3⟩)
  go_ret
  exact ⟨v, rfl, h1, h2, h3⟩
 have hLl : L.length ≤ 8796093022208 := by obtain ⟨_, _, _, _, _, _, h, _⟩ := hS; exact h
 have hLm := hS.len
 gi_wp2_with (refine ⟨trivial, ?_⟩; gi_at_call 77; refine HC.out.mono ?_; rintro e w1 ⟨v, rfl, h1, h2, h3⟩)
 have HS := Lib.hid (ssorted_compact' h1 hLl hLm)
 obtain ⟨ao, cap, rfl⟩ : ∃ ao cap, v = .slice ao L.length cap := (Strs.own h1 hLl hLm).shape
 gi_wp2_with (refine ⟨trivial, ?_⟩; gi_at_call 78; refine (callsIn_wide.2 HS.out).mono ?_; rintro e w2 ⟨rfl, hg12, hcp⟩)
 go_ret
 exact ⟨_, rfl, h3.grown hg12 h3.size (fun k e => (h1.lt k e).1), fun b e => ⟨(h1.lt b e).1, Nat.lt_of_lt_of_le (h1.lt b e).2 hg12.size⟩, hcp⟩
end Go.Proofs.YtpibmjkbebkilaaGreat

namespace Go.Proofs.YtpibmjkbebkilaaGreat
open Go.RowKit
set_option maxRecDepth 20000

def CBox (w : World) (b : Nat) (T : TypeId) (cs : Array Value) : Prop := w.heap[b]? = some (.cells cs T (0, 0))
section
variable {w w' : World} {b B : Nat} {T : TypeId} {cs : Array Value}
theorem CBox.lt (h : CBox w b T cs) : b < w.heap.size := (Array.getElem?_eq_some_iff.1 h).1
theorem CBox.at_ (h : CBox w b T cs) (i : Nat) (v : Value) (hi : cs[i]? = some v) : w.cell? ⟨b, i, none⟩ = some v ∧ w.frozen? ⟨b, i, none⟩ = false := by
 have h' : w.heap[b]? = some (.cells cs T (0, 0)) := h
 exact ⟨by simp [World.cell?, h', hi], by simp [World.frozen?, h']⟩
theorem CBox.below (h : CBox w b T cs) (hb : Below B w w') (hB : b < B) : CBox w' b T cs := (hb.block b hB).trans h
theorem CBox.grown {row : Option Nat} (h : CBox w b T cs) (hg : w.grownBy w' row) (hne : some b ≠ row) : CBox w' b T cs := (hg.block b h.lt hne).trans h
theorem CBox.set (h : CBox w b T cs) (i : Nat) (u : Value) : CBox (w.setCell ⟨b, i, none⟩ u) b T (cs.setIfInBounds i u) := by
 have h' : w.heap[b]? = some (.cells cs T (0, 0)) := h
 unfold CBox
 simp [World.setCell, Array.getElem?_modify, h']
theorem CBox.far (h : CBox w b T cs) {p : Addr} (hp : b ≠ p.block) (u : Value) : CBox (w.setCell p u) b T cs := (Below.heap_setCell w p u b hp).trans h
theorem CBox.new (cs : Array Value) (hb : b = w.heap.size) : CBox (w.alloc (.cells cs T)) b T cs := by subst hb; exact heap_alloc_new w _
theorem CBox.old (h : CBox w b T cs) (o : Obj) : CBox (w.alloc o) b T cs := h.below ((Below.refl _ w).alloc (Nat.le_refl _) o) h.lt
theorem CBox.draws (h : CBox w b T cs) (n : Nat) : CBox (w.drewN n) b T cs := h.below (below_draws _ (Below.refl _ _) n) h.lt
end

theorem own_form {w : World} {base : Nat} {e : TypeId} {size : Nat} {v : Value} {n : Nat} {xs : List Value} (h : w.ownsRow base e size v n xs) : ∃ ao c, v = .slice ao n c := by
 rcases h.2 with ⟨rfl, rfl⟩ | ⟨g, cap, cur, rfl, _⟩
 · exact ⟨_, _, rfl⟩
 · exact ⟨_, _, rfl⟩

theorem grown_below {w1 wr w2 : World} {row : Option Nat} (hg : w1.grownBy wr row) (hb : Below wr.heap.size wr w2) : w1.grownBy w2 row :=
 ⟨hb.os.trans hg.os, hb.tape.trans hg.tape, hb.output.trans hg.output, Nat.le_trans hg.size hb.size, fun k hk hne => (hb.block k (Nat.lt_of_lt_of_le hk hg.size)).trans (hg.block k hk hne)⟩

theorem heap_new (w : World) (o : Obj) (b : Nat) (h : b = w.heap.size) : (w.alloc o).heap[b]? = some o := by subst h; exact heap_alloc_new w o

end Go.Proofs.YtpibmjkbebkilaaGreat
