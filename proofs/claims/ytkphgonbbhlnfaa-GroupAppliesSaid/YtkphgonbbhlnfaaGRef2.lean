/- siphonref17.all, kept. -/
import Derived.Test.YtkphgonbbhlnfaaGPutW
import Derived.Test.YtkphgonbbhlnfaaGExc
namespace Go.Proofs.Ytkphgonbbhlnfaa
open Go.RowKit Go.Lib Go.Maps Go.Sort

/-- a box of a state that tells F -/
def StBox (w : World) (S : Nat) (ok : Nat → Prop) (ex : Bool) (at' : Int) (n : Nat) (F : Str → Option Int) : Prop :=
  ∃ v L, CBox w S 24 #[.bool ex, .int .i64 at', v] ∧ Tms w v L ∧ Asc F L ∧ L.length ≤ n ∧ (L ≠ [] → ∀ b, v.ownBlock = some b → ok b)
theorem StBox.lt {w : World} {S n : Nat} {ok : Nat → Prop} {ex : Bool} {at' : Int} {F : Str → Option Int} (h : StBox w S ok ex at' n F) : S < w.heap.size := by
  obtain ⟨v, L, h1, _⟩ := h; exact h1.lt
theorem StBox.mono {w w' : World} {S n : Nat} {ok : Nat → Prop} {ex : Bool} {at' : Int} {F : Str → Option Int} (h : StBox w S ok ex at' n F) (hb : Below w.heap.size w w') : StBox w' S ok ex at' n F := by
  obtain ⟨v, L, h1, h2, h3, h4⟩ := h
  exact ⟨v, L, h1.below hb h1.lt, h2.mono hb, h3, h4⟩
theorem StBox.up {w : World} {S n m : Nat} {ok : Nat → Prop} {ex : Bool} {at' : Int} {F : Str → Option Int} (h : StBox w S ok ex at' n F) (hm : n ≤ m) : StBox w S ok ex at' m F := by
  obtain ⟨v, L, h1, h2, h3, h4, h5⟩ := h
  exact ⟨v, L, h1, h2, h3, by omega, h5⟩
theorem put_st {w : World} {S n : Nat} {ok : Nat → Prop} {ex : Bool} {at' : Int} {F : Str → Option Int} (a : Str) (z : Int) (hok : ∀ b, w.heap.size ≤ b → ok b) (h : StBox w S ok ex at' n F) (hn : n ≤ 1000000) (ha : a.length ≤ maxLen) (hz : (Lit.int .i64 z).wf = true) :
    Calls Try.prog 57 #[.pointer (some ⟨S, 0, none⟩), .string (bstr a), .int .i64 z] w fun e w' => e = .returned (.tuple #[]) ∧ StBox w' S ok ex at' (n + 1) (upd F a z) ∧ w.grownBy w' (some S) := by
  obtain ⟨v, L, h1, h2, h3, h4, _⟩ := h
  refine (put_any ex at' v L S a z w h1 h2 (by omega) ha hz).mono ?_
  rintro e w' ⟨rfl, v', k1, k2, k3, k4⟩
  exact ⟨rfl, ⟨v', _, k1, k2, asc_put h3 a z, by have := putL_len L a z h3; omega, fun _ b hb => hok b (k3 b hb)⟩, k4⟩

set_option maxHeartbeats 2000000 in
theorem all_any {w : World} {S n : Nat} {ok : Nat → Prop} {ex : Bool} {at' : Int} {F : Str → Option Int} (lv : Value) (C : List Str) (z : Int) (hok : ∀ b, w.heap.size ≤ b → ok b) (h : StBox w S ok ex at' n F) (hn : n + C.length ≤ 1000000) (hC : Strs w lv C) (hne : C ≠ [] → lv.ownBlock ≠ some S) (hz : (Lit.int .i64 z).wf = true) :
    Calls Try.prog 53 #[.pointer (some ⟨S, 0, none⟩), lv, .int .i64 z] w fun e w' => e = .returned (.tuple #[]) ∧ StBox w' S ok ex at' (n + C.length) (setF F C z) ∧ w.grownBy w' (some S) := by
  obtain ⟨lo, lc, rfl⟩ := hC.shape
  have HC := Lib.hid hC; have HN := Lib.hid hne; have H := Lib.hid h; have HZ := Lib.hid hz
  have hw := hC.len
  clear hC hne h hz
  go_enter Try.func53, Try.ntmps53
  go_wp2_with fail
  go_loopw [6] (fun i wr => ∃ k : Nat, k ≤ C.length ∧ i = .int .i64 k ∧ StBox wr S ok ex at' (n + k) (setF F (C.take k) z) ∧ w.grownBy wr (some S)) (fun i _ => C.length - (intOf i).toNat)
  case atStart => exact ⟨0, Nat.zero_le _, rfl, by rw [List.take_zero, setF_nil]; exact H.out, World.grownBy.refl _ _⟩
  case round =>
    obtain ⟨k, hk, rfl, hst, hg⟩ := hrel
    have HG0 := Lib.hid hg
    obtain ⟨b, off, hm, hlen, hidx, hc⟩ := (HC.out.grown' hg HN.out).facts
    by_cases hlt : k < C.length
    · have hcell := (hc k hlt).2
      have HT := Lib.hid (setF_snoc F C z k hlt)
      obtain ⟨a, ha⟩ : ∃ a, C[k] = a := ⟨_, rfl⟩
      have hal : a.length ≤ maxLen := by rw [← ha]; exact hw _ (List.getElem_mem hlt)
      rw [show C.getD k [] = a from by rw [← ha]; simp [List.getD_eq_getElem?_getD, hlt], enc_bstr] at hcell
      rw [ha] at HT
      have hp := hidx k hlt
      have HP := Lib.hid (put_st a z (fun b hb => hok b (Nat.le_trans HG0.out.size hb)) hst (by omega) hal HZ.out)
      have HG := Lib.hid hg
      clear hidx hc hw ha hal hst hg
      go_wp2_with ((with_reducible refine HP.out.mono ?_); rintro e w2 ⟨rfl, hs2, hg2⟩)
      go_roundw
      case rel => exact ⟨k + 1, by omega, by go_num, by rw [HT.out]; exact hs2, HG.out.trans hg2⟩
      case measure => simp [intOf]; omega
    · have HT := Lib.hid (show C.take k = C from List.take_of_length_le (by omega))
      have hk' : k = C.length := by omega
      have HS := Lib.hid hst; have HG := Lib.hid hg
      clear hidx hc hw hst hg
      go_wp2_with fail
      go_end0
      exact ⟨rfl, by have := HS.out; rw [HT.out, hk'] at this; exact this, HG.out⟩

/-- those of a list as they are in G -/
def keepF (F : Str → Option Int) (C : List Str) (G : Str → Option Int) : Str → Option Int := fun a => if C.contains a then some ((G a).getD 0) else F a
theorem keepF_nil (F G : Str → Option Int) : keepF F [] G = F := by funext a; simp [keepF]
theorem keepF_snoc (F : Str → Option Int) (C : List Str) (G : Str → Option Int) (k : Nat) (h : k < C.length) : keepF F (C.take (k + 1)) G = upd (keepF F (C.take k) G) C[k] ((G C[k]).getD 0) := by
  funext a
  unfold keepF upd
  rw [mem_snoc C a k h]
  by_cases e : a = C[k]
  · subst e; simp
  · have e' : (C[k] == a) = false := by rw [beq_eq_false_iff_ne]; exact fun h => e h.symm
    rw [e', Bool.or_false, if_neg e]

theorem asc_wf {F : Str → Option Int} {L : List Tmd} {w : World} {v : Value} (h : Asc F L) (hT : Tms w v L) (a : Str) : (Lit.int .i64 ((F a).getD 0)).wf = true := by
  cases hF : F a
  · rfl
  · rename_i z
    obtain ⟨t, ht, rfl⟩ := List.mem_map.1 ((h.1.2 a).2 (by simp [hF]))
    have := h.2 t ht
    rw [hF] at this
    injection this with e
    rw [Option.getD_some, e]
    exact (hT.wfs t ht).2

set_option maxHeartbeats 4000000 in
theorem kept_any {w : World} {S n : Nat} {ok : Nat → Prop} {ex : Bool} {at' : Int} {F : Str → Option Int} (hok : ∀ b, w.heap.size ≤ b → ok b) (lv : Value) (C : List Str) (e2 : Bool) (a2 : Int) (v2 : Value) (L2 : List Tmd) {G : Str → Option Int} (h : StBox w S ok ex at' n F) (hn : n + C.length ≤ 1000000) (hC : Strs w lv C) (hne : C ≠ [] → lv.ownBlock ≠ some S)
    (h2 : Tms w v2 L2) (hA : Asc G L2) (hne2 : L2 ≠ [] → ∀ b, v2.ownBlock = some b → b ≠ S) :
    Calls Try.prog 52 #[.pointer (some ⟨S, 0, none⟩), lv, .agg #[.bool e2, .int .i64 a2, v2]] w fun e w' => e = .returned (.tuple #[]) ∧ StBox w' S ok ex at' (n + C.length) (keepF F C G) ∧ w.grownBy w' (some S) := by
  obtain ⟨lo, lc, rfl⟩ := hC.shape
  obtain ⟨vo, vc, rfl⟩ := h2.shape
  have hSl := h.lt
  obtain ⟨W0, hW0⟩ : ∃ W0, W0 = w.alloc (.cells #[.bool e2, .int .i64 a2, .slice vo L2.length vc] 24) := ⟨_, rfl⟩
  have hb0 : Below w.heap.size w W0 := by rw [hW0]; exact (Below.refl _ _).alloc (Nat.le_refl _) _
  have s1 : CBox W0 w.heap.size 24 #[.bool e2, .int .i64 a2, .slice vo L2.length vc] := by rw [hW0]; exact CBox.new _ rfl
  have HC := Lib.hid (hC.mono hb0); have HN := Lib.hid hne; have H := Lib.hid (h.mono hb0); have H2 := Lib.hid (h2.mono hb0); have HN2 := Lib.hid hne2; have S1 := Lib.hid s1; have HB0 := Lib.hid hb0; have HA := Lib.hid hA
  have hw := hC.len
  clear hC hne h h2 hne2 s1 hb0 hA
  go_enter Try.func52, Try.ntmps52
  go_wp2_with fail
  rw [← hW0]
  have HW0 := Lib.hid hW0
  clear hW0
  go_loopw [6] (fun i wr => ∃ k : Nat, k ≤ C.length ∧ i = .int .i64 k ∧ StBox wr S ok ex at' (n + k) (keepF F (C.take k) G) ∧ W0.grownBy wr (some S)) (fun i _ => C.length - (intOf i).toNat)
  case atStart => exact ⟨0, Nat.zero_le _, rfl, by rw [List.take_zero, keepF_nil]; exact H.out, World.grownBy.refl _ _⟩
  case round =>
    obtain ⟨k, hk, rfl, hst, hg⟩ := hrel
    obtain ⟨b, off, hm, hlen, hidx, hc⟩ := (HC.out.grown' hg HN.out).facts
    by_cases hlt : k < C.length
    · have hcell := (hc k hlt).2
      have hbl := (hc k hlt).1
      have HT := Lib.hid (keepF_snoc F C G k hlt)
      obtain ⟨a, ha⟩ : ∃ a, C[k] = a := ⟨_, rfl⟩
      have hal : a.length ≤ maxLen := by rw [← ha]; exact hw _ (List.getElem_mem hlt)
      rw [show C.getD k [] = a from by rw [← ha]; simp [List.getD_eq_getElem?_getD, hlt], enc_bstr] at hcell
      rw [ha] at HT
      have hp := hidx k hlt
      have uS := S1.out.grown hg (fun e => by injection e with e; omega)
      have hT2 : Tms wr (.slice vo L2.length vc) L2 := by
        obtain ⟨ao, cap, b', off', e1, h0, h1', h2', h3⟩ := H2.out
        refine ⟨ao, cap, b', off', e1, h0, h1', h2', fun j hj => ?_⟩
        obtain ⟨q1, q2, q3⟩ := h3 j hj
        have hb' : b' ≠ S := by
          rcases h0 with h0 | h0
          · rw [h0] at hj; simp at hj
          · exact HN2.out (by intro e; rw [e] at hj; simp at hj) b' (by rw [e1, h0]; rfl)
        exact ⟨Nat.lt_of_lt_of_le q1 hg.size, hg.cell q2 (fun e => hb' (by injection e)), hg.cell q3 (fun e => hb' (by injection e))⟩
      have HAT := Lib.hid (fun W (hW : Below wr.heap.size wr W) => rat_any e2 a2 _ L2 a W (hT2.mono hW))
      have hz : atL L2 a = (G a).getD 0 := atL_asc HA.out a
      have HWZ := Lib.hid (asc_wf HA.out H2.out a)
      have HP := Lib.hid (fun W (hW : Below wr.heap.size wr W) => put_st a ((G a).getD 0) (fun b hb => hok b (Nat.le_trans (Nat.le_trans (Nat.le_trans HB0.out.size hg.size) hW.size) hb)) (hst.mono hW) (by omega) hal HWZ.out)
      rw [hz] at HAT
      have HG := Lib.hid hg
      have R0 := Lib.hid (Below.drew (Below.refl wr.heap.size wr))
      have SK := Lib.hid (show ∀ w', wr.grownBy w' (some S) → w'.cell? ⟨b, off + k, none⟩ = some (.string (bstr a)) ∧ w'.cell? ⟨w.heap.size, 0, none⟩ = some (.bool e2) ∧ w'.cell? ⟨w.heap.size, 1, none⟩ = some (.int .i64 a2) ∧ w'.cell? ⟨w.heap.size, 2, none⟩ = some (.slice vo L2.length vc) from fun w' hg' =>
        have t := uS.grown hg' (fun e => by injection e with e; omega)
        ⟨hg'.cell hcell (fun e => by
          injection e with e
          have hne := HN.out (by intro e'; rw [e'] at hlt; simp at hlt)
          have hs := hp wr
          obtain ⟨ao, cap, b', off', e1, h0, _⟩ := HC.out
          rcases h0 with h0 | h0
          · rw [h0] at hlt; simp at hlt
          · rw [e1, h0] at hne hs
            have hk2 := (run_index_any (P := Try.prog) (s := 1) Try.underlying35 (fun w => by kernel_rfl) b' off' C.length cap k hlt wr)
            rw [hk2] at hs
            injection hs with hs
            simp at hs
            exact hne (by simp [Value.ownBlock, hs.1]; exact e)), (t.at_ 0 _ rfl).1, (t.at_ 1 _ rfl).1, (t.at_ 2 _ rfl).1⟩)
      clear hidx hc hw ha hal hst hg uS hT2 hz hcell
      go_wp2_with fail
      go_region_held3 (fun w' => w'.cell? ⟨b, off + k, none⟩ = some (.string (bstr a)) ∧ w'.cell? ⟨w.heap.size, 0, none⟩ = some (.bool e2) ∧ w'.cell? ⟨w.heap.size, 1, none⟩ = some (.int .i64 a2) ∧ w'.cell? ⟨w.heap.size, 2, none⟩ = some (.slice vo L2.length vc)) (first | exact SK.out _ (G2.out) | exact SK.out _ (grown_below (World.grownBy.refl _ _) R1.out) | exact SK.out _ (grown_below (World.grownBy.refl _ _) R0.out))
        (first
          | ((with_reducible refine (HP.out _ R1.out).mono ?_); rintro e w3 ⟨rfl, hs3, hg3⟩; have HS3 := Lib.hid hs3; have G2 := Lib.hid ((grown_below (World.grownBy.refl _ (some S)) R1.out).trans hg3); clear hs3 hg3)
          | ((with_reducible refine (HAT.out _ R0.out).mono ?_); rintro e w2 ⟨rfl, hb2⟩; have R1 := Lib.hid (R0.out.trans (hb2.mono R0.out.size)); clear hb2))
      all_goals
        go_wp2_with fail
        go_roundw
        case rel => exact ⟨k + 1, by omega, by go_num, by rw [HT.out]; exact HS3.out, HG.out.trans G2.out⟩
        case measure => simp [intOf]; omega
    · have HT := Lib.hid (show C.take k = C from List.take_of_length_le (by omega))
      have hk' : k = C.length := by omega
      have HS := Lib.hid hst; have HG := Lib.hid hg
      clear hidx hc hw hst hg
      go_wp2_with fail
      go_end0
      exact ⟨rfl, by have := HS.out; rw [HT.out, hk'] at this; exact this, (grown_below (World.grownBy.refl w _) HB0.out).trans HG.out⟩
end Go.Proofs.Ytkphgonbbhlnfaa
