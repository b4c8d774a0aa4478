/- igmp.addrs, fit; the document's sources, sized, joined. -/
import Derived.Test.YthkogdgfkhhleaaJRef7
import Derived.Test.YthkogdgfkhhleaaApp
import Derived.Test.YthkogdgfkhhleaaRecs
import Derived.Maps.AppendAt
import Derived.OwnWalk
namespace Go.Proofs.Ythkogdgfkhhleaa
open Go.RowKit Go.Sort
set_option maxRecDepth 20000
set_option maxRecDepth 20000
attribute [local go_sem] bstr_size bstr_extract bstr_toList bstr_get

theorem w64 (n : Int) (h1 : 0 ≤ n) (h2 : n ≤ 1000000000) : wrap64 n = n := by unfold wrap64; omega
theorem infoAddr8 : (Try.prog.info? 23).map (fun i => (i.zero, i.size, i.bytes)) = some (some (.string ⟨#[]⟩), 1, 16) := by kernel_rfl
theorem ones_str8 (x : Str) : ∀ u ∈ [Value.string (bstr x)], u.oneCell' = true := by simp [Value.oneCell']
theorem srcs_succ (s : Str) (i k size : Nat) : srcs s i (k + 1) size = srcs s i k size ++ [(s.drop (i + k * size)).take size] := by
  unfold srcs
  rw [List.range_succ, List.map_append]
  rfl
theorem srcs_len (s : Str) (i n size : Nat) (x : Str) (h : x ∈ srcs s i n size) : x.length ≤ size := by
  obtain ⟨k, _, rfl⟩ := List.mem_map.1 h
  rw [List.length_take]; omega
theorem part_at (s : Str) (i n k size : Nat) (hk : k < n) : (((s.drop i).take (n * size)).drop (k * size)).take size = (s.drop (i + k * size)).take size := by
  have h : k * size + size ≤ n * size := by rw [← Nat.succ_mul]; exact Nat.mul_le_mul_right _ hk
  rw [List.drop_take, List.take_take, List.drop_drop, Nat.min_eq_left (by omega)]
theorem part_len (s : Str) (i n k size : Nat) (_hk : k ≤ n) (h : i + n * size ≤ s.length) : (((s.drop i).take (n * size)).drop (k * size)).length = (n - k) * size := by
  rw [List.length_drop, List.length_take, List.length_drop, Nat.sub_mul]; omega

/-- addresses handed back -/
def RetAddrs (w : World) (L : List Str) (er : Int) (e : Ending) (w' : World) : Prop := ∃ v, e = .returned (.tuple #[v, .int .i64 er]) ∧ Strs w' v L ∧ Lies w.heap.size v ∧ Below w.heap.size w w'

def lenOf : Value → Nat
  | .string s => s.size
  | _ => 0
set_option maxHeartbeats 2000000 in
theorem addrs_any (s : Str) (i n size : Nat) (w : World) (hs : s.length ≤ 1000000) (hi : i ≤ 1000000) (hn : n ≤ 65535) (h1 : 1 ≤ size) (h16 : size ≤ 16) :
    Calls Try.prog 66 #[.string (bstr s), .int .i64 i, .int .i64 n, .int .i64 size] w (RetAddrs w (if i + n * size ≤ s.length then srcs s i n size else []) (if i + n * size ≤ s.length then 0 else 2)) := by
  obtain ⟨i0, hti, hz0, hz1, hz2⟩ := info_parts infoAddr8
  have hm16 : n * size ≤ 65535 * 16 := Nat.mul_le_mul hn h16
  have hmm : maxLen = 9223372036854775807 := rfl
  obtain ⟨N, hN⟩ : ∃ N, N = n * size := ⟨_, rfl⟩
  rw [← hN] at hm16
  have HC := Lib.hid (cut_any s i N w (by omega) (by omega))
  have hw : wrap64 ((n : Int) * size) = (N : Int) := by
    rw [show (n : Int) * size = (N : Int) by rw [hN]; simp]
    exact w64 _ (by omega) (by omega)
  rw [← hN]
  by_cases h : i + N ≤ s.length
  · rw [if_pos h, if_pos h] at HC
    rw [if_pos h, if_pos h]
    obtain ⟨S, hS⟩ : ∃ S, S = (s.drop i).take N := ⟨_, rfl⟩
    rw [← hS] at HC
    rw [hN] at hS h
    have HT := Lib.hid (show ∀ k, k < n → (S.drop (k * size)).take size = (s.drop (i + k * size)).take size from fun k hk => by rw [hS]; exact part_at s i n k size hk)
    have HL := Lib.hid (show ∀ k, k ≤ n → (S.drop (k * size)).length = (n - k) * size from fun k hk => by rw [hS]; exact part_len s i n k size hk h)
    have b0 : (⟨#[]⟩ : ByteArray) = bstr [] := bstr_nil.symm
    clear hS h hs hi hm16 hN
    go_enter Try.func66, Try.ntmps66
    go_wp2_with ((with_reducible refine HC.out.mono ?_); rintro e w2 ⟨rfl, hw2⟩; subst w2)
    go_loopw [10, 12] (fun t l wr => ∃ k : Nat, k ≤ n ∧ t = .string (bstr (S.drop (k * size))) ∧ wr.ownsRow w.heap.size 23 1 l k ((srcs s i k size).map encStr) ∧ Below w.heap.size w wr) (fun t _ _ => lenOf t)
    case atStart => exact ⟨0, Nat.zero_le _, by simp, World.ownsRow_nil _ _ _ _, Below.refl _ _⟩
    case round =>
      obtain ⟨k, hk, rfl, hown, hb⟩ := hrel
      have hl := HL.out k hk
      by_cases hlt : k < n
      · have HTk := Lib.hid (HT.out k hlt)
        have hk2 : size ≤ (n - k) * size := Nat.le_mul_of_pos_left _ (by omega)
        have HD := Lib.hid (show (S.drop (k * size)).drop size = S.drop ((k + 1) * size) from by rw [List.drop_drop, Nat.add_mul, Nat.one_mul])
        have HS1 := Lib.hid (srcs_succ s i k size)
        obtain ⟨T, hT⟩ : ∃ T, T = S.drop (k * size) := ⟨_, rfl⟩
        rw [← hT] at hl HTk HD ⊢
        have hTl : size ≤ T.length := by omega
        have hTs : (size : Int) ≤ T.length := by omega
        have hT0 : (T == []) = false := by
          cases T with
          | nil => simp at hTl; omega
          | cons a b => rfl
        have ht1 : List.take (T.length - size) (T.drop size) = T.drop size := List.take_of_length_le (by simp)
        have HO := Lib.hid hown; have HB := Lib.hid hb
        have hsz := hb.size
        have hc3 : k + 1 ≤ maxLen := by omega
        have hc4 : (k + 1) * 16 ≤ 140737488355328 := by omega
        clear hown hb hT hk2 hl hn HT HL HC
        go_wp2_with (at_builtin; refine wpList_append_own _ rfl _ _ 24 rfl w.heap.size 23 i0 (.string ⟨#[]⟩) 1 16 Try.underlying24 hti hz0 hz1 hz2 rfl (by decide) _ _ _ rfl (HO.out.alloc _) ⟨wr.heap.size, 0, none⟩ 1 1 [.string (bstr (T.take size))] rfl rfl (cell_one_new _ _ _) (ones_str8 _) hc3 hc4 (by simp; omega) ?_; intro v' w3 hown3 hg3 _; obtain ⟨ao', cap', rfl⟩ := own_form hown3)
        refine ⟨⟨k + 1, hlt, by rw [HD.out], ?_, below_own (HB.out.alloc hsz _) (HO.out.alloc _) (Nat.le_refl _) (by simp; omega) hg3⟩, ?_⟩
        · rw [HS1.out, List.map_append, ← HTk.out]
          rw [← enc_bstr] at hown3
          exact hown3
        · simp only [lenOf, bstr_size, List.length_drop]; omega
      · obtain rfl : n = k := by omega
        have he : S.drop (n * size) = [] := List.eq_nil_of_length_eq_zero (by rw [hl, Nat.sub_self, Nat.zero_mul])
        rw [he]
        have HO := Lib.hid hown; have HB := Lib.hid hb
        have HF := Lib.hid (And.intro hn h16)
        clear hown hb hl he HT HL HC hw
        go_wp2_with fail
        go_ret2
        refine ⟨_, rfl, Strs.own (by rw [srcs_length]; exact HO.out) (by rw [srcs_length]; have := HF.out.1; omega) (fun x hx => Nat.le_trans (srcs_len _ _ _ _ x hx) (Nat.le_trans HF.out.2 (by decide))), Lies.own HO.out, HB.out⟩
  · rw [if_neg h, if_neg h] at HC
    rw [if_neg h, if_neg h]
    clear h hs hi hm16 hN
    go_enter Try.func66, Try.ntmps66
    go_wp2_with ((with_reducible refine HC.out.mono ?_); rintro e w2 ⟨rfl, hw2⟩; subst w2)
    go_ret2
    exact ⟨_, rfl, Strs.nil _, fun b hb => (by cases hb), Below.refl _ _⟩

set_option maxHeartbeats 1000000 in
theorem fit_any (v : Value) (L : List Str) (size : Nat) (w : World) (h : Strs w v L) :
    Calls Try.prog 43 #[v, .int .i64 size] w fun e w' => e = .returned (.bool (sized L size)) ∧ w = w' := by
  obtain ⟨b, off, hm, hlen, hidx, hc⟩ := h.facts
  have HLEN := Lib.hid h.len
  obtain ⟨ao, cap, rfl⟩ := h.shape
  have HA := Lib.hid (show ∀ k (hk : k < L.length), (L.take (k + 1)).all (fun a => decide (a.length = size)) = ((L.take k).all (fun a => decide (a.length = size)) && decide (L[k].length = size)) from fun k hk => by rw [take_snoc L k hk, List.all_append]; simp)
  have HSZ := Lib.hid (show sized L size = (decide (L.length ≤ 60) && L.all (fun a => decide (a.length = size))) from rfl)
  obtain ⟨B, hB⟩ : ∃ B, B = sized L size := ⟨_, rfl⟩
  rw [← hB] at HSZ ⊢
  clear h hB
  go_enter Try.func43, Try.ntmps43
  go_wp2_with fail
  go_loop [6, 9] (fun _ i => ∃ k : Nat, k ≤ L.length ∧ i = .int .i64 k ∧ (L.take k).all (fun a => decide (a.length = size)) = true) (fun _ i => L.length - (RowKit.intOf i).toNat)
  case atStart => exact ⟨0, Nat.zero_le _, rfl, by simp⟩
  case round =>
    obtain ⟨k, hk, rfl, hall⟩ := hrel
    by_cases hlt : k < L.length
    · obtain ⟨t, ht⟩ : ∃ t, t = L.getD k [] := ⟨_, rfl⟩
      have htk : L[k] = t := by rw [ht]; simp [List.getD_eq_getElem?_getD, hlt]
      have HK := Lib.hid (HA.out k hlt)
      rw [htk, hall] at HK
      have hp := hidx k hlt
      have hcell := (hc k hlt).2
      rw [enc_bstr, ← ht] at hcell
      clear hidx hc ht htk hall
      by_cases he : t.length = size
      · have hne : ((t.length : Int) != size) = false := by rw [he]; simp
        rw [decide_eq_true he] at HK
        clear he
        go_wp2_with fail
        exact ⟨⟨k + 1, hlt, by go_num, HK.out⟩, by simp [RowKit.intOf]; omega⟩
      · have hne : ((t.length : Int) != size) = true := by rw [bne_iff_ne]; omega
        rw [decide_eq_false he] at HK
        have HB2 := Lib.hid (show B = false from by
          rw [HSZ.out, Bool.and_eq_false_iff]
          refine .inr ?_
          have := HK.out
          simp only [Bool.and_false] at this
          rw [List.all_eq_false] at this ⊢
          obtain ⟨x, hx, hn⟩ := this
          exact ⟨x, List.mem_of_mem_take hx, hn⟩)
        clear he
        go_wp2_with fail
        go_ret
        exact ⟨ret_bool HB2.out.symm, rfl⟩
    · obtain rfl : k = L.length := by omega
      rw [List.take_length] at hall
      have HB2 := Lib.hid (show decide ((L.length : Int) ≤ 60) = B from by
        rw [HSZ.out, hall, Bool.and_true]; exact decide_eq_decide.2 (by omega))
      clear hidx hc hall
      go_wp2_with fail
      go_ret
      exact ⟨ret_bool HB2.out, rfl⟩

theorem src_nums (i size k J N P R len : Nat) (h1 : i + N ≤ len) (h2 : len ≤ 1000000) (hJ : J = k * size) (hk1 : J + size ≤ N) (hP : P = i + J) (hR : R = P + size) : wrap64 ((k : Int) * size) = (J : Int) ∧ wrap64 ((i : Int) + J) = (P : Int) ∧ wrap64 ((P : Int) + size) = (R : Int) ∧ (R : Int) ≤ len ∧ P ≤ R ∧ R - P = size := by
  refine ⟨?_, ?_, ?_, by omega, by omega, by omega⟩
  · rw [show (k : Int) * size = (J : Int) by rw [hJ]; simp]
    exact w64 _ (by omega) (by omega)
  · rw [w64 _ (by omega) (by omega)]; omega
  · rw [w64 _ (by omega) (by omega)]; omega
theorem src_cnt (k n : Nat) (h : k < n) (hn : n ≤ 65535) : k + 1 ≤ maxLen ∧ (k + 1) * 16 ≤ 140737488355328 := by
  have hmm : maxLen = 9223372036854775807 := rfl
  omega
set_option maxHeartbeats 2000000 in
theorem sources_any (s : Str) (i n size : Nat) (w : World) (hs : s.length ≤ 1000000) (hi : i ≤ s.length) (hn : n ≤ 65535) (h16 : size ≤ 16) :
    Calls Try.prog 42 #[.string (bstr s), .int .i64 i, .int .i64 n, .int .i64 size] w fun e w' => ∃ v, e = .returned (.tuple #[v, .bool (decide (i + n * size ≤ s.length))]) ∧ Strs w' v (if i + n * size ≤ s.length then srcs s i n size else []) ∧ Lies w.heap.size v ∧ Below w.heap.size w w' := by
  obtain ⟨i0, hti, hz0, hz1, hz2⟩ := info_parts infoAddr8
  have hm16 : n * size ≤ 65535 * 16 := Nat.mul_le_mul hn h16
  obtain ⟨N, hN⟩ : ∃ N, N = n * size := ⟨_, rfl⟩
  rw [← hN] at hm16
  have hw : wrap64 ((n : Int) * size) = (N : Int) := by
    rw [show (n : Int) * size = (N : Int) by rw [hN]; simp]
    exact w64 _ (by omega) (by omega)
  have hw0 : wrap64 ((s.length : Int) - i) = (s.length : Int) - i := by unfold wrap64; omega
  rw [← hN]
  by_cases h : i + N ≤ s.length
  · have d1 : decide ((s.length : Int) - i < N) = false := decide_eq_false (by omega)
    rw [if_pos h, decide_eq_true h]
    have HB0 := Lib.hid (show ∀ k, k < n → k * size + size ≤ N from fun k hk => by rw [hN, ← Nat.succ_mul]; exact Nat.mul_le_mul_right _ hk)
    have HH := Lib.hid (And.intro h (And.intro hs (And.intro hn h16)))
    clear h hs hi hm16 hN hn
    go_enter Try.func42, Try.ntmps42
    go_wp2_with fail
    clear hw hw0 d1
    go_loopw [10, 11] (fun l j wr => ∃ k : Nat, k ≤ n ∧ j = .int .i64 k ∧ wr.ownsRow w.heap.size 23 1 l k ((srcs s i k size).map encStr) ∧ Below w.heap.size w wr) (fun _ j _ => n - (RowKit.intOf j).toNat)
    case atStart => exact ⟨0, Nat.zero_le _, rfl, World.ownsRow_nil _ _ _ _, Below.refl _ _⟩
    case round =>
      obtain ⟨k, hk, rfl, hown, hb⟩ := hrel
      by_cases hlt : k < n
      · have hk1 := HB0.out k hlt
        obtain ⟨h1, h2, h3, h4⟩ := HH.out
        have HS1 := Lib.hid (srcs_succ s i k size)
        obtain ⟨J, hJ⟩ : ∃ J, J = k * size := ⟨_, rfl⟩
        rw [← hJ] at hk1 HS1
        obtain ⟨P, hP⟩ : ∃ P, P = i + J := ⟨_, rfl⟩
        obtain ⟨R, hR⟩ : ∃ R, R = P + size := ⟨_, rfl⟩
        obtain ⟨w1, w2, w3, hc1, hPR, ht⟩ := src_nums i size k J N P R s.length h1 h2 hJ hk1 hP hR
        rw [← hP] at HS1
        obtain ⟨hc3, hc4⟩ := src_cnt k n hlt h3
        have HO := Lib.hid hown; have HB := Lib.hid hb
        have hsz := hb.size
        clear hown hb hJ hk1 h1 h2 h3 h4 hP hR
        go_wp2_with (at_builtin; refine wpList_append_own _ rfl _ _ 24 rfl w.heap.size 23 i0 (.string ⟨#[]⟩) 1 16 Try.underlying24 hti hz0 hz1 hz2 rfl (by decide) _ _ _ rfl (HO.out.alloc _) ⟨wr.heap.size, 0, none⟩ 1 1 [.string (bstr ((s.drop P).take size))] rfl rfl (cell_one_new _ _ _) (ones_str8 _) hc3 hc4 (by simp; omega) ?_; intro v' w3 hown3 hg3 _; obtain ⟨ao', cap', rfl⟩ := own_form hown3)
        go_roundw
        case rel =>
          refine ⟨k + 1, hlt, rfl, ?_, below_own (HB.out.alloc hsz _) (HO.out.alloc _) (Nat.le_refl _) (by simp; omega) hg3⟩
          rw [HS1.out, List.map_append]
          rw [← enc_bstr] at hown3
          exact hown3
        case measure => exact meas_up n k hlt
      · obtain rfl : n = k := Nat.le_antisymm (Nat.le_of_not_lt hlt) hk
        have HO := Lib.hid hown; have HB := Lib.hid hb
        clear hown hb
        go_wp2_with fail
        go_ret2
        refine ⟨_, rfl, Strs.own (by rw [srcs_length]; exact HO.out) (by rw [srcs_length]; have := HH.out.2.2.1; omega) (fun x hx => Nat.le_trans (srcs_len _ _ _ _ x hx) (Nat.le_trans HH.out.2.2.2 (by decide))), Lies.own HO.out, HB.out⟩
  · have d1 : decide ((s.length : Int) - i < N) = true := decide_eq_true (by omega)
    rw [if_neg h, decide_eq_false h]
    clear h hs hi hm16 hN
    go_enter Try.func42, Try.ntmps42
    go_wp2_with fail
    go_ret2
    exact ⟨_, rfl, Strs.nil _, fun b hb => (by cases hb), Below.refl _ _⟩

set_option maxHeartbeats 1000000 in
theorem sized_any (v : Value) (L : List Str) (size : Nat) (w : World) (h : Strs w v L) :
    Calls Try.prog 46 #[v, .int .i64 size] w fun e w' => e = .returned (.bool (sized L size)) ∧ w = w' := by
  obtain ⟨b, off, hm, hlen, hidx, hc⟩ := h.facts
  obtain ⟨ao, cap, rfl⟩ := h.shape
  have HA := Lib.hid (show ∀ k (hk : k < L.length), (L.take (k + 1)).all (fun a => decide (a.length = size)) = ((L.take k).all (fun a => decide (a.length = size)) && decide (L[k].length = size)) from fun k hk => by rw [take_snoc L k hk, List.all_append]; simp)
  have HSZ := Lib.hid (show sized L size = (decide (L.length ≤ 60) && L.all (fun a => decide (a.length = size))) from rfl)
  obtain ⟨B, hB⟩ : ∃ B, B = sized L size := ⟨_, rfl⟩
  rw [← hB] at HSZ ⊢
  clear h hB
  by_cases h60 : L.length ≤ 60
  · have d60 : decide ((60 : Int) < L.length) = false := decide_eq_false (by omega)
    rw [decide_eq_true h60, Bool.true_and] at HSZ
    clear h60
    go_enter Try.func46, Try.ntmps46
    go_wp2_with fail
    go_loop [5] (fun i => ∃ k : Nat, k ≤ L.length ∧ i = .int .i64 k ∧ (L.take k).all (fun a => decide (a.length = size)) = true) (fun i => L.length - (RowKit.intOf i).toNat)
    case atStart => exact ⟨0, Nat.zero_le _, rfl, by simp⟩
    case round =>
      obtain ⟨k, hk, rfl, hall⟩ := hrel
      by_cases hlt : k < L.length
      · obtain ⟨t, ht⟩ : ∃ t, t = L.getD k [] := ⟨_, rfl⟩
        have htk : L[k] = t := by rw [ht]; simp [List.getD_eq_getElem?_getD, hlt]
        have HK := Lib.hid (HA.out k hlt)
        rw [htk, hall] at HK
        have hp := hidx k hlt
        have hcell := (hc k hlt).2
        rw [enc_bstr, ← ht] at hcell
        clear hidx hc ht htk hall
        by_cases he : t.length = size
        · have hne : ((t.length : Int) != size) = false := by rw [he]; simp
          rw [decide_eq_true he] at HK
          clear he
          go_wp2_with fail
          exact ⟨⟨k + 1, hlt, by go_num, HK.out⟩, by simp [RowKit.intOf]; omega⟩
        · have hne : ((t.length : Int) != size) = true := by rw [bne_iff_ne]; omega
          rw [decide_eq_false he] at HK
          have HB2 := Lib.hid (show B = false from by
            rw [HSZ.out]
            have := HK.out
            simp only [Bool.and_false] at this
            rw [List.all_eq_false] at this ⊢
            obtain ⟨x, hx, hn⟩ := this
            exact ⟨x, List.mem_of_mem_take hx, hn⟩)
          clear he
          go_wp2_with fail
          go_ret
          exact ⟨ret_bool HB2.out.symm, rfl⟩
      · obtain rfl : k = L.length := by omega
        rw [List.take_length] at hall
        have HB2 := Lib.hid (show true = B from by rw [HSZ.out, hall])
        clear hidx hc hall
        go_wp2_with fail
        go_ret
        exact ⟨ret_bool HB2.out, rfl⟩
  · have d60 : decide ((60 : Int) < L.length) = true := decide_eq_true (by omega)
    rw [decide_eq_false h60, Bool.false_and] at HSZ
    clear h60 hidx hc
    go_enter Try.func46, Try.ntmps46
    go_wp2_with fail
    go_ret
    exact ⟨ret_bool HSZ.out.symm, rfl⟩

set_option maxHeartbeats 1000000 in
theorem joined_any (v : Value) (L : List Str) (w : World) (h : Strs w v L) (hl : L.length ≤ 1000000) (hz : ∀ a ∈ L, a.length ≤ 1000000) :
    Calls Try.prog 48 #[v] w fun e w' => e = .returned (.string (bstr L.flatten)) ∧ w = w' := by
  obtain ⟨b, off, hm, hlen, hidx, hc⟩ := h.facts
  obtain ⟨ao, cap, rfl⟩ := h.shape
  have HA := Lib.hid (show ∀ k (hk : k < L.length), (L.take (k + 1)).flatten = (L.take k).flatten ++ L[k] from fun k hk => by rw [take_snoc L k hk, List.flatten_append, List.flatten_cons, List.flatten_nil, List.append_nil])
  have HZ := Lib.hid (show ∀ k, k ≤ L.length → (L.take k).flatten.length ≤ k * 1000000 from by
    intro k
    induction k with
    | zero => intro _; simp
    | succ k ih =>
      intro hk
      rw [HA.out k hk, List.length_append, Nat.add_mul]
      have := ih (by omega)
      have := hz _ (List.getElem_mem hk)
      omega)
  have HZ1 := Lib.hid (And.intro hl hz)
  have b0 : (⟨#[]⟩ : ByteArray) = bstr [] := bstr_nil.symm
  clear h hl hz
  go_enter Try.func48, Try.ntmps48
  go_wp2_with fail
  go_loop [3, 4] (fun t i => ∃ k : Nat, k ≤ L.length ∧ i = .int .i64 k ∧ t = .string (bstr (L.take k).flatten)) (fun _ i => L.length - (RowKit.intOf i).toNat)
  case atStart => exact ⟨0, Nat.zero_le _, rfl, by rw [b0]; rfl⟩
  case round =>
    obtain ⟨k, hk, rfl, rfl⟩ := hrel
    by_cases hlt : k < L.length
    · obtain ⟨t, ht⟩ : ∃ t, t = L.getD k [] := ⟨_, rfl⟩
      have htk : L[k] = t := by rw [ht]; simp [List.getD_eq_getElem?_getD, hlt]
      have HK := Lib.hid (HA.out k hlt)
      rw [htk] at HK
      have hp := hidx k hlt
      have hcell := (hc k hlt).2
      rw [enc_bstr, ← ht] at hcell
      obtain ⟨F, hF⟩ : ∃ F, F = (L.take k).flatten := ⟨_, rfl⟩
      rw [← hF] at HK ⊢
      have n1 : ¬ 9223372036854775807 < F.length + t.length := by
        have h1 := HZ.out k hk
        have h2 := HZ1.out.1
        have h3 := HZ1.out.2 t (by rw [← htk]; exact List.getElem_mem hlt)
        have h4 : k * 1000000 ≤ 1000000 * 1000000 := Nat.mul_le_mul_right _ (by omega)
        rw [← hF] at h1
        omega
      have e1 : bstr F ++ bstr t = bstr (F ++ t) := bstr_append _ _
      clear hidx hc ht htk hF
      go_wp2_with fail
      exact ⟨⟨k + 1, hlt, rfl, by rw [HK.out]⟩, meas_up L.length k hlt⟩
    · obtain rfl : k = L.length := by omega
      rw [List.take_length]
      clear hidx hc
      go_wp2_with fail
      go_ret
      exact ⟨rfl, rfl⟩
end Go.Proofs.Ythkogdgfkhhleaa
