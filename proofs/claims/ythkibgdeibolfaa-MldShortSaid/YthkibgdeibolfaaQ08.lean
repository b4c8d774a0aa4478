/- Texts joined into one file: JAddr, JRec, JRecs. -/
import Derived.Test.YthkibgdeibolfaaQ07
import Derived.Test.YthkibgdeibolfaaQ02
import Derived.Test.YthkibgdeibolfaaQ03
import Derived.Maps.AppendAt
import Derived.OwnWalk

/- igmp.addrs, fit; the document's sources, sized, joined. -/
namespace Go.Proofs.Ythkibgdeibolfaa
open Go.RowKit Go.Sort
set_option maxRecDepth 20000
set_option maxRecDepth 20000
attribute [local go_sem] bstr_size bstr_extract bstr_toList bstr_get

theorem w64 (n : Int) (h1 : 0 ≤ n) (h2 : n ≤ 1000000000) : wrap64 n = n := by unfold wrap64; omega
theorem infoAddr8 : (Try.prog.info? 22).map (fun i => (i.zero, i.size, i.bytes)) = some (some (.string ⟨#[]⟩), 1, 16) := by kernel_rfl
theorem ones_str8 (x : Str) : ∀ u ∈ [Value.string (bstr x)], u.oneCell' = true := by simp [Value.oneCell']
theorem srcs_succ (s : Str) (i k size : Nat) : srcs s i (k + 1) size = srcs s i k size ++ [(s.drop (i + k * size)).take size] := by
  unfold srcs
  rw [List.range_succ, List.map_append]
  rfl
theorem srcs_len (s : Str) (i n size : Nat) (x : Str) (h : x ∈ srcs s i n size) : x.length ≤ size := by
  obtain ⟨k, _, rfl⟩ := List.mem_map.1 h
  rw [List.length_take]; omega
theorem part_at (s : Str) (i n k size : Nat) (hk : k < n) : (((s.drop i).take (n * size)).drop (k * size)).take size = (s.drop (i + k * size)).take size := by
  have h : k * size + size ≤ n * size := by rw [← Nat.succ_mul]; exact Nat.mul_le_mul_right _ hk
  rw [List.drop_take, List.take_take, List.drop_drop, Nat.min_eq_left (by omega)]
theorem part_len (s : Str) (i n k size : Nat) (_hk : k ≤ n) (h : i + n * size ≤ s.length) : (((s.drop i).take (n * size)).drop (k * size)).length = (n - k) * size := by
  rw [List.length_drop, List.length_take, List.length_drop, Nat.sub_mul]; omega

/-- addresses handed back -/
def RetAddrs (w : World) (L : List Str) (er : Int) (e : Ending) (w' : World) : Prop := ∃ v, e = .returned (.tuple #[v, .int .i64 er]) ∧ Strs w' v L ∧ Lies w.heap.size v ∧ Below w.heap.size w w'

def lenOf : Value → Nat
  | .string s => s.size
  | _ => 0
set_option maxHeartbeats 2000000 in
theorem addrs_any (s : Str) (i n size : Nat) (w : World) (hs : s.length ≤ 1000000) (hi : i ≤ 1000000) (hn : n ≤ 65535) (h1 : 1 ≤ size) (h16 : size ≤ 16) :
    Calls Try.prog 79 #[.string (bstr s), .int .i64 i, .int .i64 n, .int .i64 size] w (RetAddrs w (if i + n * size ≤ s.length then srcs s i n size else []) (if i + n * size ≤ s.length then 0 else 2)) := by
  obtain ⟨i0, hti, hz0, hz1, hz2⟩ := info_parts infoAddr8
  have hm16 : n * size ≤ 65535 * 16 := Nat.mul_le_mul hn h16
  have hmm : maxLen = 9223372036854775807 := rfl
  obtain ⟨N, hN⟩ : ∃ N, N = n * size := ⟨_, rfl⟩
  rw [← hN] at hm16
  have HC := Lib.hid (cut_any s i N w (by omega) (by omega))
  have hw : wrap64 ((n : Int) * size) = (N : Int) := by
    rw [show (n : Int) * size = (N : Int) by rw [hN]; simp]
    exact w64 _ (by omega) (by omega)
  rw [← hN]
  by_cases h : i + N ≤ s.length
  · rw [if_pos h, if_pos h] at HC
    rw [if_pos h, if_pos h]
    obtain ⟨S, hS⟩ : ∃ S, S = (s.drop i).take N := ⟨_, rfl⟩
    rw [← hS] at HC
    rw [hN] at hS h
    have HT := Lib.hid (show ∀ k, k < n → (S.drop (k * size)).take size = (s.drop (i + k * size)).take size from fun k hk => by rw [hS]; exact part_at s i n k size hk)
    have HL := Lib.hid (show ∀ k, k ≤ n → (S.drop (k * size)).length = (n - k) * size from fun k hk => by rw [hS]; exact part_len s i n k size hk h)
    have b0 : (⟨#[]⟩ : ByteArray) = bstr [] := bstr_nil.symm
    clear hS h hs hi hm16 hN
    go_enter Try.func79, Try.ntmps79
    go_wp2_with ((with_reducible refine HC.out.mono ?_); rintro e w2 ⟨rfl, hw2⟩; subst w2)
    go_loopw [10, 12] (fun t l wr => ∃ k : Nat, k ≤ n ∧ t = .string (bstr (S.drop (k * size))) ∧ wr.ownsRow w.heap.size 22 1 l k ((srcs s i k size).map encStr) ∧ Below w.heap.size w wr) (fun t _ _ => lenOf t)
    case atStart => exact ⟨0, Nat.zero_le _, by simp, World.ownsRow_nil _ _ _ _, Below.refl _ _⟩
    case round =>
      obtain ⟨k, hk, rfl, hown, hb⟩ := hrel
      have hl := HL.out k hk
      by_cases hlt : k < n
      · have HTk := Lib.hid (HT.out k hlt)
        have hk2 : size ≤ (n - k) * size := Nat.le_mul_of_pos_left _ (by omega)
        have HD := Lib.hid (show (S.drop (k * size)).drop size = S.drop ((k + 1) * size) from by rw [List.drop_drop, Nat.add_mul, Nat.one_mul])
        have HS1 := Lib.hid (srcs_succ s i k size)
        obtain ⟨T, hT⟩ : ∃ T, T = S.drop (k * size) := ⟨_, rfl⟩
        rw [← hT] at hl HTk HD ⊢
        have hTl : size ≤ T.length := by omega
        have hTs : (size : Int) ≤ T.length := by omega
        have hT0 : (T == []) = false := by
          cases T with
          | nil => simp at hTl; omega
          | cons a b => rfl
        have ht1 : List.take (T.length - size) (T.drop size) = T.drop size := List.take_of_length_le (by simp)
        have HO := Lib.hid hown; have HB := Lib.hid hb
        have hsz := hb.size
        have hc3 : k + 1 ≤ maxLen := by omega
        have hc4 : (k + 1) * 16 ≤ 140737488355328 := by omega
        clear hown hb hT hk2 hl hn HT HL HC
        go_wp2_with (at_builtin; refine wpList_append_own _ rfl _ _ 26 rfl w.heap.size 22 i0 (.string ⟨#[]⟩) 1 16 Try.underlying26 hti hz0 hz1 hz2 rfl (by decide) _ _ _ rfl (HO.out.alloc _) ⟨wr.heap.size, 0, none⟩ 1 1 [.string (bstr (T.take size))] rfl rfl (cell_one_new _ _ _) (ones_str8 _) hc3 hc4 (by simp; omega) ?_; intro v' w3 hown3 hg3 _; obtain ⟨ao', cap', rfl⟩ := own_form hown3)
        refine ⟨⟨k + 1, hlt, by rw [HD.out], ?_, below_own (HB.out.alloc hsz _) (HO.out.alloc _) (Nat.le_refl _) (by simp; omega) hg3⟩, ?_⟩
        · rw [HS1.out, List.map_append, ← HTk.out]
          rw [← enc_bstr] at hown3
          exact hown3
        · simp only [lenOf, bstr_size, List.length_drop]; omega
      · obtain rfl : n = k := by omega
        have he : S.drop (n * size) = [] := List.eq_nil_of_length_eq_zero (by rw [hl, Nat.sub_self, Nat.zero_mul])
        rw [he]
        have HO := Lib.hid hown; have HB := Lib.hid hb
        have HF := Lib.hid (And.intro hn h16)
        clear hown hb hl he HT HL HC hw
        go_wp2_with fail
        go_ret2
        refine ⟨_, rfl, Strs.own (by rw [srcs_length]; exact HO.out) (by rw [srcs_length]; have := HF.out.1; omega) (fun x hx => Nat.le_trans (srcs_len _ _ _ _ x hx) (Nat.le_trans HF.out.2 (by decide))), Lies.own HO.out, HB.out⟩
  · rw [if_neg h, if_neg h] at HC
    rw [if_neg h, if_neg h]
    clear h hs hi hm16 hN
    go_enter Try.func79, Try.ntmps79
    go_wp2_with ((with_reducible refine HC.out.mono ?_); rintro e w2 ⟨rfl, hw2⟩; subst w2)
    go_ret2
    exact ⟨_, rfl, Strs.nil _, fun b hb => (by cases hb), Below.refl _ _⟩

set_option maxHeartbeats 1000000 in
theorem fit_any (v : Value) (L : List Str) (size : Nat) (w : World) (h : Strs w v L) :
    Calls Try.prog 85 #[v, .int .i64 size] w fun e w' => e = .returned (.bool (sized L size)) ∧ w = w' := by
  obtain ⟨b, off, hm, hlen, hidx, hc⟩ := h.facts
  have HLEN := Lib.hid h.len
  obtain ⟨ao, cap, rfl⟩ := h.shape
  have HA := Lib.hid (show ∀ k (hk : k < L.length), (L.take (k + 1)).all (fun a => decide (a.length = size)) = ((L.take k).all (fun a => decide (a.length = size)) && decide (L[k].length = size)) from fun k hk => by rw [take_snoc L k hk, List.all_append]; simp)
  have HSZ := Lib.hid (show sized L size = (decide (L.length ≤ 60) && L.all (fun a => decide (a.length = size))) from rfl)
  obtain ⟨B, hB⟩ : ∃ B, B = sized L size := ⟨_, rfl⟩
  rw [← hB] at HSZ ⊢
  clear h hB
  go_enter Try.func85, Try.ntmps85
  go_wp2_with fail
  go_loop [6, 9] (fun _ i => ∃ k : Nat, k ≤ L.length ∧ i = .int .i64 k ∧ (L.take k).all (fun a => decide (a.length = size)) = true) (fun _ i => L.length - (RowKit.intOf i).toNat)
  case atStart => exact ⟨0, Nat.zero_le _, rfl, by simp⟩
  case round =>
    obtain ⟨k, hk, rfl, hall⟩ := hrel
    by_cases hlt : k < L.length
    · obtain ⟨t, ht⟩ : ∃ t, t = L.getD k [] := ⟨_, rfl⟩
      have htk : L[k] = t := by rw [ht]; simp [List.getD_eq_getElem?_getD, hlt]
      have HK := Lib.hid (HA.out k hlt)
      rw [htk, hall] at HK
      have hp := hidx k hlt
      have hcell := (hc k hlt).2
      rw [enc_bstr, ← ht] at hcell
      clear hidx hc ht htk hall
      by_cases he : t.length = size
      · have hne : ((t.length : Int) != size) = false := by rw [he]; simp
        rw [decide_eq_true he] at HK
        clear he
        go_wp2_with fail
        exact ⟨⟨k + 1, hlt, by go_num, HK.out⟩, by simp [RowKit.intOf]; omega⟩
      · have hne : ((t.length : Int) != size) = true := by rw [bne_iff_ne]; omega
        rw [decide_eq_false he] at HK
        have HB2 := Lib.hid (show B = false from by
          rw [HSZ.out, Bool.and_eq_false_iff]
          refine .inr ?_
          have := HK.out
          simp only [Bool.and_false] at this
          rw [List.all_eq_false] at this ⊢
          obtain ⟨x, hx, hn⟩ := this
          exact ⟨x, List.mem_of_mem_take hx, hn⟩)
        clear he
        go_wp2_with fail
        go_ret
        exact ⟨ret_bool HB2.out.symm, rfl⟩
    · obtain rfl : k = L.length := by omega
      rw [List.take_length] at hall
      have HB2 := Lib.hid (show decide ((L.length : Int) ≤ 60) = B from by
        rw [HSZ.out, hall, Bool.and_true]; exact decide_eq_decide.2 (by omega))
      clear hidx hc hall
      go_wp2_with fail
      go_ret
      exact ⟨ret_bool HB2.out, rfl⟩

theorem src_nums (i size k J N P R len : Nat) (h1 : i + N ≤ len) (h2 : len ≤ 1000000) (hJ : J = k * size) (hk1 : J + size ≤ N) (hP : P = i + J) (hR : R = P + size) : wrap64 ((k : Int) * size) = (J : Int) ∧ wrap64 ((i : Int) + J) = (P : Int) ∧ wrap64 ((P : Int) + size) = (R : Int) ∧ (R : Int) ≤ len ∧ P ≤ R ∧ R - P = size := by
  refine ⟨?_, ?_, ?_, by omega, by omega, by omega⟩
  · rw [show (k : Int) * size = (J : Int) by rw [hJ]; simp]
    exact w64 _ (by omega) (by omega)
  · rw [w64 _ (by omega) (by omega)]; omega
  · rw [w64 _ (by omega) (by omega)]; omega
theorem src_cnt (k n : Nat) (h : k < n) (hn : n ≤ 65535) : k + 1 ≤ maxLen ∧ (k + 1) * 16 ≤ 140737488355328 := by
  have hmm : maxLen = 9223372036854775807 := rfl
  omega
set_option maxHeartbeats 2000000 in
theorem sources_any (s : Str) (i n size : Nat) (w : World) (hs : s.length ≤ 1000000) (hi : i ≤ s.length) (hn : n ≤ 65535) (h16 : size ≤ 16) :
    Calls Try.prog 54 #[.string (bstr s), .int .i64 i, .int .i64 n, .int .i64 size] w fun e w' => ∃ v, e = .returned (.tuple #[v, .bool (decide (i + n * size ≤ s.length))]) ∧ Strs w' v (if i + n * size ≤ s.length then srcs s i n size else []) ∧ Lies w.heap.size v ∧ Below w.heap.size w w' := by
  obtain ⟨i0, hti, hz0, hz1, hz2⟩ := info_parts infoAddr8
  have hm16 : n * size ≤ 65535 * 16 := Nat.mul_le_mul hn h16
  obtain ⟨N, hN⟩ : ∃ N, N = n * size := ⟨_, rfl⟩
  rw [← hN] at hm16
  have hw : wrap64 ((n : Int) * size) = (N : Int) := by
    rw [show (n : Int) * size = (N : Int) by rw [hN]; simp]
    exact w64 _ (by omega) (by omega)
  have hw0 : wrap64 ((s.length : Int) - i) = (s.length : Int) - i := by unfold wrap64; omega
  rw [← hN]
  by_cases h : i + N ≤ s.length
  · have d1 : decide ((s.length : Int) - i < N) = false := decide_eq_false (by omega)
    rw [if_pos h, decide_eq_true h]
    have HB0 := Lib.hid (show ∀ k, k < n → k * size + size ≤ N from fun k hk => by rw [hN, ← Nat.succ_mul]; exact Nat.mul_le_mul_right _ hk)
    have HH := Lib.hid (And.intro h (And.intro hs (And.intro hn h16)))
    clear h hs hi hm16 hN hn
    go_enter Try.func54, Try.ntmps54
    go_wp2_with fail
    clear hw hw0 d1
    go_loopw [10, 11] (fun l j wr => ∃ k : Nat, k ≤ n ∧ j = .int .i64 k ∧ wr.ownsRow w.heap.size 22 1 l k ((srcs s i k size).map encStr) ∧ Below w.heap.size w wr) (fun _ j _ => n - (RowKit.intOf j).toNat)
    case atStart => exact ⟨0, Nat.zero_le _, rfl, World.ownsRow_nil _ _ _ _, Below.refl _ _⟩
    case round =>
      obtain ⟨k, hk, rfl, hown, hb⟩ := hrel
      by_cases hlt : k < n
      · have hk1 := HB0.out k hlt
        obtain ⟨h1, h2, h3, h4⟩ := HH.out
        have HS1 := Lib.hid (srcs_succ s i k size)
        obtain ⟨J, hJ⟩ : ∃ J, J = k * size := ⟨_, rfl⟩
        rw [← hJ] at hk1 HS1
        obtain ⟨P, hP⟩ : ∃ P, P = i + J := ⟨_, rfl⟩
        obtain ⟨R, hR⟩ : ∃ R, R = P + size := ⟨_, rfl⟩
        obtain ⟨w1, w2, w3, hc1, hPR, ht⟩ := src_nums i size k J N P R s.length h1 h2 hJ hk1 hP hR
        rw [← hP] at HS1
        obtain ⟨hc3, hc4⟩ := src_cnt k n hlt h3
        have HO := Lib.hid hown; have HB := Lib.hid hb
        have hsz := hb.size
        clear hown hb hJ hk1 h1 h2 h3 h4 hP hR
        go_wp2_with (at_builtin; refine wpList_append_own _ rfl _ _ 26 rfl w.heap.size 22 i0 (.string ⟨#[]⟩) 1 16 Try.underlying26 hti hz0 hz1 hz2 rfl (by decide) _ _ _ rfl (HO.out.alloc _) ⟨wr.heap.size, 0, none⟩ 1 1 [.string (bstr ((s.drop P).take size))] rfl rfl (cell_one_new _ _ _) (ones_str8 _) hc3 hc4 (by simp; omega) ?_; intro v' w3 hown3 hg3 _; obtain ⟨ao', cap', rfl⟩ := own_form hown3)
        go_roundw
        case rel =>
          refine ⟨k + 1, hlt, rfl, ?_, below_own (HB.out.alloc hsz _) (HO.out.alloc _) (Nat.le_refl _) (by simp; omega) hg3⟩
          rw [HS1.out, List.map_append]
          rw [← enc_bstr] at hown3
          exact hown3
        case measure => exact meas_up n k hlt
      · obtain rfl : n = k := Nat.le_antisymm (Nat.le_of_not_lt hlt) hk
        have HO := Lib.hid hown; have HB := Lib.hid hb
        clear hown hb
        go_wp2_with fail
        go_ret2
        refine ⟨_, rfl, Strs.own (by rw [srcs_length]; exact HO.out) (by rw [srcs_length]; have := HH.out.2.2.1; omega) (fun x hx => Nat.le_trans (srcs_len _ _ _ _ x hx) (Nat.le_trans HH.out.2.2.2 (by decide))), Lies.own HO.out, HB.out⟩
  · have d1 : decide ((s.length : Int) - i < N) = true := decide_eq_true (by omega)
    rw [if_neg h, decide_eq_false h]
    clear h hs hi hm16 hN
    go_enter Try.func54, Try.ntmps54
    go_wp2_with fail
    go_ret2
    exact ⟨_, rfl, Strs.nil _, fun b hb => (by cases hb), Below.refl _ _⟩

set_option maxHeartbeats 1000000 in
theorem sized_any (v : Value) (L : List Str) (size : Nat) (w : World) (h : Strs w v L) :
    Calls Try.prog 89 #[v, .int .i64 size] w fun e w' => e = .returned (.bool (sized L size)) ∧ w = w' := by
  obtain ⟨b, off, hm, hlen, hidx, hc⟩ := h.facts
  obtain ⟨ao, cap, rfl⟩ := h.shape
  have HA := Lib.hid (show ∀ k (hk : k < L.length), (L.take (k + 1)).all (fun a => decide (a.length = size)) = ((L.take k).all (fun a => decide (a.length = size)) && decide (L[k].length = size)) from fun k hk => by rw [take_snoc L k hk, List.all_append]; simp)
  have HSZ := Lib.hid (show sized L size = (decide (L.length ≤ 60) && L.all (fun a => decide (a.length = size))) from rfl)
  obtain ⟨B, hB⟩ : ∃ B, B = sized L size := ⟨_, rfl⟩
  rw [← hB] at HSZ ⊢
  clear h hB
  by_cases h60 : L.length ≤ 60
  · have d60 : decide ((60 : Int) < L.length) = false := decide_eq_false (by omega)
    rw [decide_eq_true h60, Bool.true_and] at HSZ
    clear h60
    go_enter Try.func89, Try.ntmps89
    go_wp2_with fail
    go_loop [5] (fun i => ∃ k : Nat, k ≤ L.length ∧ i = .int .i64 k ∧ (L.take k).all (fun a => decide (a.length = size)) = true) (fun i => L.length - (RowKit.intOf i).toNat)
    case atStart => exact ⟨0, Nat.zero_le _, rfl, by simp⟩
    case round =>
      obtain ⟨k, hk, rfl, hall⟩ := hrel
      by_cases hlt : k < L.length
      · obtain ⟨t, ht⟩ : ∃ t, t = L.getD k [] := ⟨_, rfl⟩
        have htk : L[k] = t := by rw [ht]; simp [List.getD_eq_getElem?_getD, hlt]
        have HK := Lib.hid (HA.out k hlt)
        rw [htk, hall] at HK
        have hp := hidx k hlt
        have hcell := (hc k hlt).2
        rw [enc_bstr, ← ht] at hcell
        clear hidx hc ht htk hall
        by_cases he : t.length = size
        · have hne : ((t.length : Int) != size) = false := by rw [he]; simp
          rw [decide_eq_true he] at HK
          clear he
          go_wp2_with fail
          exact ⟨⟨k + 1, hlt, by go_num, HK.out⟩, by simp [RowKit.intOf]; omega⟩
        · have hne : ((t.length : Int) != size) = true := by rw [bne_iff_ne]; omega
          rw [decide_eq_false he] at HK
          have HB2 := Lib.hid (show B = false from by
            rw [HSZ.out]
            have := HK.out
            simp only [Bool.and_false] at this
            rw [List.all_eq_false] at this ⊢
            obtain ⟨x, hx, hn⟩ := this
            exact ⟨x, List.mem_of_mem_take hx, hn⟩)
          clear he
          go_wp2_with fail
          go_ret
          exact ⟨ret_bool HB2.out.symm, rfl⟩
      · obtain rfl : k = L.length := by omega
        rw [List.take_length] at hall
        have HB2 := Lib.hid (show true = B from by rw [HSZ.out, hall])
        clear hidx hc hall
        go_wp2_with fail
        go_ret
        exact ⟨ret_bool HB2.out, rfl⟩
  · have d60 : decide ((60 : Int) < L.length) = true := decide_eq_true (by omega)
    rw [decide_eq_false h60, Bool.false_and] at HSZ
    clear h60 hidx hc
    go_enter Try.func89, Try.ntmps89
    go_wp2_with fail
    go_ret
    exact ⟨ret_bool HSZ.out.symm, rfl⟩

set_option maxHeartbeats 1000000 in
theorem joined_any (v : Value) (L : List Str) (w : World) (h : Strs w v L) (hl : L.length ≤ 1000000) (hz : ∀ a ∈ L, a.length ≤ 1000000) :
    Calls Try.prog 90 #[v] w fun e w' => e = .returned (.string (bstr L.flatten)) ∧ w = w' := by
  obtain ⟨b, off, hm, hlen, hidx, hc⟩ := h.facts
  obtain ⟨ao, cap, rfl⟩ := h.shape
  have HA := Lib.hid (show ∀ k (hk : k < L.length), (L.take (k + 1)).flatten = (L.take k).flatten ++ L[k] from fun k hk => by rw [take_snoc L k hk, List.flatten_append, List.flatten_cons, List.flatten_nil, List.append_nil])
  have HZ := Lib.hid (show ∀ k, k ≤ L.length → (L.take k).flatten.length ≤ k * 1000000 from by
    intro k
    induction k with
    | zero => intro _; simp
    | succ k ih =>
      intro hk
      rw [HA.out k hk, List.length_append, Nat.add_mul]
      have := ih (by omega)
      have := hz _ (List.getElem_mem hk)
      omega)
  have HZ1 := Lib.hid (And.intro hl hz)
  have b0 : (⟨#[]⟩ : ByteArray) = bstr [] := bstr_nil.symm
  clear h hl hz
  go_enter Try.func90, Try.ntmps90
  go_wp2_with fail
  go_loop [3, 4] (fun t i => ∃ k : Nat, k ≤ L.length ∧ i = .int .i64 k ∧ t = .string (bstr (L.take k).flatten)) (fun _ i => L.length - (RowKit.intOf i).toNat)
  case atStart => exact ⟨0, Nat.zero_le _, rfl, by rw [b0]; rfl⟩
  case round =>
    obtain ⟨k, hk, rfl, rfl⟩ := hrel
    by_cases hlt : k < L.length
    · obtain ⟨t, ht⟩ : ∃ t, t = L.getD k [] := ⟨_, rfl⟩
      have htk : L[k] = t := by rw [ht]; simp [List.getD_eq_getElem?_getD, hlt]
      have HK := Lib.hid (HA.out k hlt)
      rw [htk] at HK
      have hp := hidx k hlt
      have hcell := (hc k hlt).2
      rw [enc_bstr, ← ht] at hcell
      obtain ⟨F, hF⟩ : ∃ F, F = (L.take k).flatten := ⟨_, rfl⟩
      rw [← hF] at HK ⊢
      have n1 : ¬ 9223372036854775807 < F.length + t.length := by
        have h1 := HZ.out k hk
        have h2 := HZ1.out.1
        have h3 := HZ1.out.2 t (by rw [← htk]; exact List.getElem_mem hlt)
        have h4 : k * 1000000 ≤ 1000000 * 1000000 := Nat.mul_le_mul_right _ (by omega)
        rw [← hF] at h1
        omega
      have e1 : bstr F ++ bstr t = bstr (F ++ t) := bstr_append _ _
      clear hidx hc ht htk hF
      go_wp2_with fail
      exact ⟨⟨k + 1, hlt, rfl, by rw [HK.out]⟩, meas_up L.length k hlt⟩
    · obtain rfl : k = L.length := by omega
      rw [List.take_length]
      clear hidx hc
      go_wp2_with fail
      go_ret
      exact ⟨rfl, rfl⟩
end Go.Proofs.Ythkibgdeibolfaa

/- igmp.record: the first record of a text. -/
namespace Go.Proofs.Ythkibgdeibolfaa
open Go.RowKit Go.Sort
set_option maxRecDepth 20000
set_option maxRecDepth 20000
attribute [local go_sem] bstr_size bstr_extract bstr_toList bstr_get

def many (s : Str) : Nat := numAt s 2 2
def whole (s : Str) (size : Nat) : Nat := 4 + size + many s * size + 4 * (s.getD 1 0).toNat
def recE (s : Str) (size : Nat) : Int := if s.length < 4 + size then 2 else if s.length < whole s size then 2 else if 60 < many s ∨ grp ((s.drop 4).take size) size = false then 3 else 0
def RetRec (w : World) (s : Str) (size : Nat) (e : Ending) (w' : World) : Prop :=
  ∃ (k : Int) (g : Str) (ao : Option Addr) (m c : Nat) (n : Int), e = .returned (.tuple #[.agg #[.int .i64 k, .string (bstr g), .slice ao m c], .int .i64 n, .int .i64 (recE s size)]) ∧
    (recE s size = 0 → k = (s.getD 0 0).toNat ∧ g = (s.drop 4).take size ∧ Strs w' (.slice ao m c) (srcs s (4 + size) (many s) size) ∧ Lies w.heap.size (.slice ao m c) ∧ n = whole s size) ∧ Below w.heap.size w w'

theorem cells3 {w : World} {b : Nat} {T : TypeId} {x0 x1 x2 : Value} (h : CBox w b T #[x0, x1, x2]) (v0 v1 v2 : Value) :
    CBox (((w.setCell ⟨b, 0, none⟩ v0).setCell ⟨b, 1, none⟩ v1).setCell ⟨b, 2, none⟩ v2) b T #[v0, v1, v2] := ((h.set 0 v0).set 1 v1).set 2 v2
theorem below3 {w w0 : World} {B b : Nat} (h : Below B w0 w) (hb : B ≤ b) (v0 v1 v2 : Value) : Below B w0 (((w.setCell ⟨b, 0, none⟩ v0).setCell ⟨b, 1, none⟩ v1).setCell ⟨b, 2, none⟩ v2) :=
  ((h.setCell (p := ⟨b, 0, none⟩) hb v0).setCell (p := ⟨b, 1, none⟩) hb v1).setCell (p := ⟨b, 2, none⟩) hb v2

theorem cut0_any (s : Str) (n : Nat) (w : World) (hs : s.length ≤ maxLen) :
    Calls Try.prog 42 #[.string (bstr s), .int .i64 0, .int .i64 n] w fun e w' => e = .returned (.tuple #[.string (bstr (if n ≤ s.length then s.take n else [])), .int .i64 (if n ≤ s.length then 0 else 2)]) ∧ w = w' := by
  have h := cut_any s 0 n w hs (Nat.zero_le _)
  simp only [Nat.zero_add, List.drop_zero] at h
  exact h
theorem rec_nums (M size C J E Y Z T : Nat) (hM : M ≤ 65535) (hC : C = 4 + size) (h16 : size ≤ 16) (hJ : J = M * size) (hE : E = C + J) (hY : Y ≤ 255) (hZ : Z = 4 * Y) (hT : T = E + Z) :
    wrap64 ((M : Int) * size) = (J : Int) ∧ wrap64 ((C : Int) + J) = (E : Int) ∧ wrap64 (4 * (Y : Int)) = (Z : Int) ∧ wrap64 ((E : Int) + Z) = (T : Int) ∧ wrap64 (Y : Int) = (Y : Int) := by
  have h1 : J ≤ 65535 * 16 := by rw [hJ]; exact Nat.mul_le_mul hM h16
  refine ⟨?_, ?_, ?_, ?_, ?_⟩
  · rw [show (M : Int) * size = (J : Int) by rw [hJ]; simp]; exact w64 _ (by omega) (by omega)
  · rw [w64 _ (by omega) (by omega)]; omega
  · rw [w64 _ (by omega) (by omega)]; omega
  · rw [w64 _ (by omega) (by omega)]; omega
  · exact w64 _ (by omega) (by omega)
theorem getM_any (H : Str) (M : Nat) (w : World) (hl : 4 ≤ H.length) (hm : H.length ≤ maxLen) (hM : numAt H 2 2 = M) :
    Calls Try.prog 19 #[.string (bstr H), .int .i64 2, .int .i64 2] w fun e w' => e = .returned (.tuple #[.int .i64 M, .int .i64 0]) ∧ Below w.heap.size w w' := by
  have h := get_any H 2 2 w hm (by decide) (by decide) (by decide)
  rw [if_pos (by omega), if_pos (by omega), hM] at h
  exact h
theorem recNil (w w' : World) (s : Str) (size : Nat) (k : Int) (g : Str) (er : Int) (h : recE s size = er) (h0 : er ≠ 0) (hb : Below w.heap.size w w') : RetRec w s size (.returned (.tuple #[.agg #[.int .i64 k, .string (bstr g), .slice none 0 0], .int .i64 0, .int .i64 er])) w' :=
  ⟨k, g, none, 0, 0, 0, by rw [h], fun e => absurd (h.symm.trans e) h0, hb⟩
set_option maxHeartbeats 2000000 in
theorem record_any (s : Str) (size : Nat) (w : World) (hs : s.length ≤ 1000000) (h1 : 1 ≤ size) (h16 : size ≤ 16) :
    Calls Try.prog 46 #[.string (bstr s), .int .i64 size] w (RetRec w s size) := by
  obtain ⟨W1, hW1⟩ : ∃ W1, W1 = w.alloc (.cells #[.int .i64 0, .string ⟨#[]⟩, .slice none 0 0] 56) := ⟨_, rfl⟩
  obtain ⟨b, hb⟩ : ∃ b, b = w.heap.size := ⟨_, rfl⟩
  have hb1 : Below b w W1 := by rw [hW1, hb]; exact (Below.refl _ _).alloc (Nat.le_refl _) _
  have X1 : CBox W1 b 56 #[.int .i64 0, .string ⟨#[]⟩, .slice none 0 0] := by rw [hW1, hb]; exact CBox.new _ rfl
  have HS4 := Lib.hid (cut0_any s (4 + size) W1 (by unfold maxLen; omega))
  have hw4 : wrap64 ((4 : Int) + size) = ((4 + size : Nat) : Int) := by rw [w64 _ (by omega) (by omega)]; omega
  have hlt := X1.lt
  obtain ⟨x0, f0⟩ := X1.at_ 0 _ rfl
  obtain ⟨x1, f1⟩ := X1.at_ 1 _ rfl
  obtain ⟨x2, f2⟩ := X1.at_ 2 _ rfl
  by_cases hA : s.length < 4 + size
  · have hE : recE s size = 2 := if_pos hA
    rw [if_neg (by omega), if_neg (by omega)] at HS4
    have HB1 := Lib.hid hb1; have HX1 := Lib.hid X1; have HW1 := Lib.hid hW1; have HNB := Lib.hid hb
    have HE := Lib.hid hE
    obtain ⟨C, hC⟩ : ∃ C, C = 4 + size := ⟨_, rfl⟩
    rw [← hC] at HS4 hw4
    clear hs h16 hA hE hb1 X1 hW1 hb hC hlt
    go_enter Try.func46, Try.ntmps46
    go_upto_region 1 with fail
    rw [← HW1.out, ← HNB.out]
    go_wp2_with (first | ((with_reducible refine HS4.out.mono ?_); rintro e w2 ⟨rfl, hw2⟩; subst w2))
    obtain ⟨r0, _⟩ := (cells3 HX1.out (.int .i64 0) (.string ⟨#[]⟩) (.slice none 0 0)).at_ 0 _ rfl
    obtain ⟨r1, _⟩ := (cells3 HX1.out (.int .i64 0) (.string ⟨#[]⟩) (.slice none 0 0)).at_ 1 _ rfl
    obtain ⟨r2, _⟩ := (cells3 HX1.out (.int .i64 0) (.string ⟨#[]⟩) (.slice none 0 0)).at_ 2 _ rfl
    refine bodyPost_ret (v := .tuple #[.agg #[.int .i64 0, .string ⟨#[]⟩, .slice none 0 0], .int .i64 0, .int .i64 2]) (by simp [results, Try.results46, go_sem, r0, r1, r2]) rfl ?_
    rw [← bstr_nil]
    exact recNil w _ s size 0 [] 2 HE.out (by decide) (HNB.out ▸ below3 HB1.out (Nat.le_refl _) _ _ _)
  · rw [if_pos (by omega), if_pos (by omega)] at HS4
    obtain ⟨C, hC⟩ : ∃ C, C = 4 + size := ⟨_, rfl⟩
    rw [← hC] at HS4 hw4
    obtain ⟨H, hH⟩ : ∃ H, H = s.take C := ⟨_, rfl⟩
    rw [← hH] at HS4
    have hHl : H.length = C := by rw [hH, List.length_take]; omega
    obtain ⟨M, hM⟩ : ∃ M, M = many s := ⟨_, rfl⟩
    have hHM : numAt H 2 2 = M := by rw [hM, hH]; unfold many numAt; rw [List.drop_take, List.take_take, Nat.min_eq_left (by omega)]
    have hM65 : M ≤ 65535 := by have := numAt_lt s 2 2; rw [hM]; unfold many; omega
    have HG := Lib.hid (getM_any H M W1 (by omega) (by unfold maxLen; omega) hHM)
    obtain ⟨Y, hY⟩ : ∃ Y, Y = (s.getD 1 0).toNat := ⟨_, rfl⟩
    have hY255 : Y ≤ 255 := by have := (s.getD 1 0).toNat_lt; omega
    have hH1 : (H[1]?.getD 0).toNat = Y := by
      rw [hY, hH, List.getD_eq_getElem?_getD, List.getElem?_take_of_lt (by omega)]
    have hH1' : (1 : Int) < H.length := by omega
    obtain ⟨J, hJ⟩ : ∃ J, J = M * size := ⟨_, rfl⟩
    obtain ⟨E, hE⟩ : ∃ E, E = C + J := ⟨_, rfl⟩
    obtain ⟨Z, hZ⟩ : ∃ Z, Z = 4 * Y := ⟨_, rfl⟩
    obtain ⟨T, hT⟩ : ∃ T, T = E + Z := ⟨_, rfl⟩
    obtain ⟨q1, q2, q3, q4, q5⟩ := rec_nums M size C J E Y Z T hM65 hC h16 hJ hE hY255 hZ hT
    have hTw : T = whole s size := by unfold whole; rw [hT, hE, hZ, hJ, hC, hM, hY]
    have hHlI : (H.length : Int) = C := by omega
    have HB1 := Lib.hid hb1; have HX1 := Lib.hid X1; have HW1 := Lib.hid hW1; have HNB := Lib.hid hb
    have HC := Lib.hid (And.intro hC (And.intro hH hM))
    by_cases hB : s.length < T
    · have dB : decide ((s.length : Int) < T) = true := decide_eq_true (Int.ofNat_lt.2 hB)
      have dB' : decide (s.length < T) = true := decide_eq_true hB
      have HE := Lib.hid (show recE s size = 2 from by unfold recE; rw [if_neg hA, if_pos (by rw [← hTw]; exact hB)])
      clear hs h16 hA hB hb1 X1 hW1 hb hC hlt hH hM hHM hM65 hY hY255 hJ hE hZ hT hTw hHl x0 x1 x2 f0 f1 f2
      go_enter Try.func46, Try.ntmps46
      go_upto_region 1 with fail
      rw [← HW1.out, ← HNB.out]
      go_wp2_with (first | ((with_reducible refine HS4.out.mono ?_); rintro e w2 ⟨rfl, hw2⟩; subst w2) | ((with_reducible refine HG.out.mono ?_); rintro e w2 ⟨rfl, hb2⟩; have HB2 := Lib.hid hb2; have HX2 := Lib.hid (HX1.out.below hb2 HX1.out.lt); obtain ⟨x0, f0⟩ := HX2.out.at_ 0 _ rfl; obtain ⟨x1, f1⟩ := HX2.out.at_ 1 _ rfl; obtain ⟨x2, f2⟩ := HX2.out.at_ 2 _ rfl; clear hb2))
      obtain ⟨r0, _⟩ := (cells3 HX2.out (.int .i64 0) (.string ⟨#[]⟩) (.slice none 0 0)).at_ 0 _ rfl
      obtain ⟨r1, _⟩ := (cells3 HX2.out (.int .i64 0) (.string ⟨#[]⟩) (.slice none 0 0)).at_ 1 _ rfl
      obtain ⟨r2, _⟩ := (cells3 HX2.out (.int .i64 0) (.string ⟨#[]⟩) (.slice none 0 0)).at_ 2 _ rfl
      refine bodyPost_ret (v := .tuple #[.agg #[.int .i64 0, .string ⟨#[]⟩, .slice none 0 0], .int .i64 0, .int .i64 2]) (by simp [results, Try.results46, go_sem, r0, r1, r2]) rfl ?_
      rw [← bstr_nil]
      exact recNil w _ s size 0 [] 2 HE.out (by decide) (HNB.out ▸ below3 (HB1.out.trans (HB2.out.mono (Nat.le_of_lt HX1.out.lt))) (Nat.le_refl _) _ _ _)
    · have dB : decide ((s.length : Int) < T) = false := decide_eq_false (fun h => hB (Int.ofNat_lt.1 h))
      have dB' : decide (s.length < T) = false := decide_eq_false hB
      have HHl := Lib.hid (show H.length = C ∧ 4 ≤ C from ⟨hHl, by rw [hC]; exact Nat.le_add_right 4 size⟩)
      have HG4 := Lib.hid (show H.drop 4 = (s.drop 4).take size from by rw [hH, hC, List.drop_take, Nat.add_sub_cancel_left])
      have HK0 := Lib.hid (show (H[0]?.getD 0).toNat = (s.getD 0 0).toNat from by rw [hH, List.getD_eq_getElem?_getD, List.getElem?_take_of_lt (by rw [hC]; exact Nat.lt_of_lt_of_le (by decide) (Nat.le_add_right 4 size))])
      have HT := Lib.hid hTw
      have HN := Lib.hid (And.intro hA hB)
      have HSZ := Lib.hid (And.intro hs (And.intro h16 hM65))
      clear hs h16 hA hB hb1 X1 hW1 hb hC hlt hH hM hHM hM65 hY hY255 hJ hE hZ hT hTw hHl x0 x1 x2 f0 f1 f2
      go_enter Try.func46, Try.ntmps46
      go_upto_region 1 with fail
      rw [← HW1.out, ← HNB.out]
      go_upto_region 8 with (first | ((with_reducible refine HS4.out.mono ?_); rintro e w2 ⟨rfl, hw2⟩; subst w2) | ((with_reducible refine HG.out.mono ?_); rintro e w2 ⟨rfl, hb2⟩; have HB2 := Lib.hid hb2; have HX2 := Lib.hid (HX1.out.below hb2 HX1.out.lt); clear hb2))
      obtain ⟨G, hG⟩ : ∃ G, H.drop 4 = G := ⟨_, rfl⟩
      obtain ⟨K, hK⟩ : ∃ K, (H[0]?.getD 0).toNat = K := ⟨_, rfl⟩
      have hHI := HHl.out
      have hp0 : (0 : Int) < H.length := by rw [hHlI]; exact Int.ofNat_lt.2 (Nat.lt_of_lt_of_le (by decide) hHI.2)
      have hp4 : (4 : Int) ≤ H.length := by rw [hHlI]; exact Int.ofNat_le.2 hHI.2
      have ht4 : List.take (H.length - 4) (H.drop 4) = H.drop 4 := List.take_of_length_le (by rw [List.length_drop]; exact Nat.le_refl _)
      have hK255 : wrap64 (K : Int) = (K : Int) := by rw [← hK]; have := (H[0]?.getD 0).toNat_lt; exact w64 _ (Int.natCast_nonneg _) (by clear q1 q2 q3 q4 q5; omega)
      rw [hG] at ht4
      have hC0 : 0 < C := Nat.lt_of_lt_of_le (by decide) hHI.2
      have hC4 : 4 ≤ C := hHI.2
      have hC4' : (4 : Int) ≤ C := Int.ofNat_le.2 hHI.2
      have ht4' := ht4
      rw [hHI.1] at ht4'
      have hK64 : IntKind.i64.wrap (K : Int) = (K : Int) := by rw [← hK]; have := (H[0]?.getD 0).toNat_lt; exact wraps_i64 _ (Int.natCast_nonneg _) (by clear q1 q2 q3 q4 q5; omega)
      have HGK := Lib.hid (And.intro hG hK)
      have HQ4 := Lib.hid q4
      clear hp0 hp4 hHI q1 q2 q3 q4 q5 hw4 hH1 hH1' dB dB'
      have hd : Below w2.heap.size w2 w2.drew := Below.drew (Below.refl _ _)
      refine wp_region_held_drew (S := fun _ => True) (by kernel_rfl) trivial (fun hHeld => ?_)
      refine takeL 0 (v := ?_) rfl (by kernel_rfl) (by kernel_rfl) (by kernel_rfl) (fun _ _ _ h => h) (Or.inl ⟨by rfl, ?_⟩) (by assumption) ?_
      rotate_left
      focus (intro wq hSq; go_simp <;> with_reducible rfl)
      simp only [Act.put, List.setIfInBounds_toArray, List.set_cons_zero, List.set_cons_succ]
      refine takeL 1 (v := ?_) rfl (by kernel_rfl) (by kernel_rfl) (by kernel_rfl) (fun _ _ _ h => h) (Or.inl ⟨by rfl, ?_⟩) (by assumption) ?_
      rotate_left
      focus (intro wq hSq; go_simp <;> with_reducible rfl)
      simp only [Act.put, List.setIfInBounds_toArray, List.set_cons_zero, List.set_cons_succ]
      refine takeL 2 (v := ?_) rfl (by kernel_rfl) (by kernel_rfl) (by kernel_rfl) (fun _ _ _ h => h) (Or.inl ⟨by rfl, ?_⟩) (by assumption) ?_
      rotate_left
      focus (intro wq hSq; go_simp <;> with_reducible rfl)
      simp only [Act.put, List.setIfInBounds_toArray, List.set_cons_zero, List.set_cons_succ]
      refine takeL 3 (v := ?_) rfl (by kernel_rfl) (by kernel_rfl) (by kernel_rfl) (fun _ _ _ h => h) (Or.inl ⟨by rfl, ?_⟩) (by assumption) ?_
      rotate_left
      focus (intro wq hSq; go_simp <;> with_reducible rfl)
      simp only [Act.put, List.setIfInBounds_toArray, List.set_cons_zero, List.set_cons_succ]
      refine takeL 4 (v := ?_) rfl (by kernel_rfl) (by kernel_rfl) (by kernel_rfl) (fun _ _ _ h => h) (Or.inl ⟨by rfl, ?_⟩) (by assumption) ?_
      rotate_left
      focus (intro wq hSq; go_simp <;> with_reducible rfl)
      simp only [Act.put, List.setIfInBounds_toArray, List.set_cons_zero, List.set_cons_succ]
      refine takeL 5 (v := ?_) rfl (by kernel_rfl) (by kernel_rfl) (by kernel_rfl) (fun _ _ _ h => h) (Or.inl ⟨by rfl, ?_⟩) (by assumption) ?_
      rotate_left
      focus (intro wq hSq; go_simp <;> with_reducible rfl)
      simp only [Act.put, List.setIfInBounds_toArray, List.set_cons_zero, List.set_cons_succ]
      refine wpAnyH_ready (rs := [6]) (by kernel_rfl) (by simp) (nextL 6 rfl (fun Kr hKr => ?_) AllReadyH.nil)
      rw [if_pos (by rfl)]
      obtain ⟨W3, hW3⟩ : ∃ W3, w2.drew = W3 := ⟨_, rfl⟩
      have X3 : CBox W3 b 56 #[.int .i64 0, .string ⟨#[]⟩, .slice none 0 0] := by rw [← hW3]; exact HX2.out.draws 1
      rw [hW3] at hd ⊢
      obtain ⟨x0, f0⟩ := X3.at_ 0 _ rfl
      obtain ⟨x1, f1⟩ := X3.at_ 1 _ rfl
      obtain ⟨x2, f2⟩ := X3.at_ 2 _ rfl
      go_simp
      have X4 := cells3 X3 (.int .i64 K) (.string (bstr G)) (.slice none 0 0)
      have hB4 : Below b w2 (((W3.setCell ⟨b, 0, none⟩ (.int .i64 K)).setCell ⟨b, 1, none⟩ (.string (bstr G))).setCell ⟨b, 2, none⟩ (.slice none 0 0)) := below3 (hd.mono (Nat.le_of_lt HX2.out.lt)) (Nat.le_refl _) _ _ _
      obtain ⟨W4, hW4⟩ : ∃ W4, (((W3.setCell ⟨b, 0, none⟩ (.int .i64 K)).setCell ⟨b, 1, none⟩ (.string (bstr G))).setCell ⟨b, 2, none⟩ (.slice none 0 0)) = W4 := ⟨_, rfl⟩
      rw [hW4] at X4 hB4 ⊢
      refine hKr.out _ _ trivial (fun hHeld2 => ?_)
      clear hKr hHeld hHeld2 hd hW4 X3 hW3 x0 x1 x2 f0 f1 f2
      refine wpAnyH_done (by kernel_rfl) ?_ _
      have HB4 := Lib.hid ((HB1.out.trans (HB2.out.mono (Nat.le_of_lt HX1.out.lt))).trans hB4)
      have HX4 := Lib.hid X4
      clear hB4 HB2 HX2
      obtain ⟨x0, f0⟩ := X4.at_ 0 _ rfl
      obtain ⟨x1, f1⟩ := X4.at_ 1 _ rfl
      obtain ⟨x2, f2⟩ := X4.at_ 2 _ rfl
      clear X4
      by_cases hm : 60 < M
      · have dm : decide ((60 : Int) < M) = true := decide_eq_true (Int.ofNat_lt.2 hm)
        have dm' : decide (60 < M) = true := decide_eq_true hm
        have HE := Lib.hid (show recE s size = 3 from by
          unfold recE
          rw [if_neg HN.out.1, if_neg (by rw [← HT.out]; exact HN.out.2), if_pos (.inl (by rw [← HC.out.2.2]; exact hm))])
        clear hm
        go_wp2_with fail
        obtain ⟨r0, _⟩ := (cells3 HX4.out (.int .i64 K) (.string (bstr G)) (.slice none 0 0)).at_ 0 _ rfl
        obtain ⟨r1, _⟩ := (cells3 HX4.out (.int .i64 K) (.string (bstr G)) (.slice none 0 0)).at_ 1 _ rfl
        obtain ⟨r2, _⟩ := (cells3 HX4.out (.int .i64 K) (.string (bstr G)) (.slice none 0 0)).at_ 2 _ rfl
        refine bodyPost_ret (v := .tuple #[.agg #[.int .i64 K, .string (bstr G), (.slice none 0 0)], .int .i64 0, .int .i64 3]) (by simp [results, Try.results46, go_sem, r0, r1, r2]) rfl ?_
        exact recNil w _ s size K G 3 HE.out (by decide) (HNB.out ▸ below3 HB4.out (Nat.le_refl _) _ _ _)
      · have dm : decide ((60 : Int) < M) = false := decide_eq_false (fun h => hm (Int.ofNat_lt.1 h))
        have dm' : decide (60 < M) = false := decide_eq_false hm
        have hGl : G.length ≤ maxLen := by rw [← HGK.out.1, List.length_drop, HHl.out.1]; exact Nat.le_trans (Nat.sub_le _ _) (by rw [HC.out.1]; exact Nat.le_trans (Nat.add_le_add_left HSZ.out.2.1 4) (by decide))
        have HGR := Lib.hid (isGroup_any G size W4 hGl)
        obtain ⟨R, hR⟩ : ∃ R, R = grp G size := ⟨_, rfl⟩
        rw [← hR] at HGR
        have HRR := Lib.hid (show grp ((s.drop 4).take size) size = R from by rw [hR, ← HGK.out.1, HG4.out])
        clear hGl hR
        cases R
        · have HE := Lib.hid (show recE s size = 3 from by
            unfold recE
            rw [if_neg HN.out.1, if_neg (by rw [← HT.out]; exact HN.out.2), if_pos (.inr HRR.out)])
          clear hm
          go_wp2_with ((with_reducible refine HGR.out.mono ?_); rintro e w5 ⟨rfl, hb5⟩; have HX5 := Lib.hid (HX4.out.below hb5 HX4.out.lt); have HB5 := Lib.hid (HB4.out.trans (hb5.mono (Nat.le_of_lt HX4.out.lt))); clear x0 x1 x2 f0 f1 f2; obtain ⟨x0, f0⟩ := HX5.out.at_ 0 _ rfl; obtain ⟨x1, f1⟩ := HX5.out.at_ 1 _ rfl; obtain ⟨x2, f2⟩ := HX5.out.at_ 2 _ rfl; clear hb5)
          obtain ⟨r0, _⟩ := (cells3 HX5.out (.int .i64 K) (.string (bstr G)) (.slice none 0 0)).at_ 0 _ rfl
          obtain ⟨r1, _⟩ := (cells3 HX5.out (.int .i64 K) (.string (bstr G)) (.slice none 0 0)).at_ 1 _ rfl
          obtain ⟨r2, _⟩ := (cells3 HX5.out (.int .i64 K) (.string (bstr G)) (.slice none 0 0)).at_ 2 _ rfl
          refine bodyPost_ret (v := .tuple #[.agg #[.int .i64 K, .string (bstr G), (.slice none 0 0)], .int .i64 0, .int .i64 3]) (by simp [results, Try.results46, go_sem, r0, r1, r2]) rfl ?_
          exact recNil w _ s size K G 3 HE.out (by decide) (HNB.out ▸ below3 HB5.out (Nat.le_refl _) _ _ _)
        · have HE := Lib.hid (show recE s size = 0 from by
            unfold recE
            rw [if_neg HN.out.1, if_neg (by rw [← HT.out]; exact HN.out.2), if_neg (by rw [HRR.out, ← HC.out.2.2]; intro h; rcases h with h | h; exact hm h; cases h)])
          have hwh : C + M * size ≤ s.length := by
            have h9 := Nat.le_of_not_lt HN.out.2
            rw [HT.out] at h9
            unfold whole at h9
            rw [← HC.out.2.2, ← HC.out.1] at h9
            exact Nat.le_trans (Nat.le_add_right _ _) h9
          have HAD := Lib.hid (fun W => addrs_any s C M size W HSZ.out.1 (by rw [HC.out.1]; exact Nat.le_trans (Nat.add_le_add_left HSZ.out.2.1 4) (by decide)) (Nat.le_trans HSZ.out.2.2 (Nat.le_refl _)) h1 HSZ.out.2.1)
          rw [if_pos hwh, if_pos hwh] at HAD
          clear hm hwh
          go_wp2_with (first | ((with_reducible refine HGR.out.mono ?_); rintro e w5 ⟨rfl, hb5⟩; have HX5 := Lib.hid (HX4.out.below hb5 HX4.out.lt); have HB5 := Lib.hid (HB4.out.trans (hb5.mono (Nat.le_of_lt HX4.out.lt))); clear x0 x1 x2 f0 f1 f2 hb5) | ((with_reducible refine (HAD.out _).mono ?_); rintro e w6 ⟨v6, rfl, hv6, hl6, hb6⟩; obtain ⟨ao, cc, rfl⟩ := hv6.shape; have HX6 := Lib.hid (HX5.out.below hb6 HX5.out.lt); have HB6 := Lib.hid (HB5.out.trans (hb6.mono (Nat.le_of_lt HX5.out.lt))); obtain ⟨x0, f0⟩ := HX6.out.at_ 0 _ rfl; obtain ⟨x1, f1⟩ := HX6.out.at_ 1 _ rfl; obtain ⟨x2, f2⟩ := HX6.out.at_ 2 _ rfl; have HV6 := Lib.hid (And.intro hv6 (And.intro hl6 HX5.out.lt)); clear hv6 hl6 hb6))
          have HX7 := Lib.hid (show CBox (w6.setCell ⟨b, 2, none⟩ (.slice ao (srcs s C M size).length cc)) b 56 #[.int .i64 K, .string (bstr G), .slice ao (srcs s C M size).length cc] from HX6.out.set 2 _)
          obtain ⟨r0, _⟩ := (cells3 HX7.out (.int .i64 K) (.string (bstr G)) (.slice ao (srcs s C M size).length cc)).at_ 0 _ rfl
          obtain ⟨r1, _⟩ := (cells3 HX7.out (.int .i64 K) (.string (bstr G)) (.slice ao (srcs s C M size).length cc)).at_ 1 _ rfl
          obtain ⟨r2, _⟩ := (cells3 HX7.out (.int .i64 K) (.string (bstr G)) (.slice ao (srcs s C M size).length cc)).at_ 2 _ rfl
          refine bodyPost_ret (v := .tuple #[.agg #[.int .i64 K, .string (bstr G), .slice ao (srcs s C M size).length cc], .int .i64 (wrap64 ((E : Int) + Z)), .int .i64 0]) (by simp [results, Try.results46, go_sem, r0, r1, r2]) rfl ?_
          have hb0 : Below b w ((((w6.setCell ⟨b, 2, none⟩ (.slice ao (srcs s C M size).length cc)).setCell ⟨b, 0, none⟩ (.int .i64 K)).setCell ⟨b, 1, none⟩ (.string (bstr G))).setCell ⟨b, 2, none⟩ (.slice ao (srcs s C M size).length cc)) := below3 (HB6.out.setCell (p := ⟨b, 2, none⟩) (Nat.le_refl _) _) (Nat.le_refl _) _ _ _
          have hst : Strs ((((w6.setCell ⟨b, 2, none⟩ (.slice ao (srcs s C M size).length cc)).setCell ⟨b, 0, none⟩ (.int .i64 K)).setCell ⟨b, 1, none⟩ (.string (bstr G))).setCell ⟨b, 2, none⟩ (.slice ao (srcs s C M size).length cc)) (.slice ao (srcs s C M size).length cc) (srcs s C M size) :=
            (((HV6.out.1.far HV6.out.2.1 (p := ⟨b, 2, none⟩) HV6.out.2.2 _).far HV6.out.2.1 (p := ⟨b, 0, none⟩) HV6.out.2.2 _).far HV6.out.2.1 (p := ⟨b, 1, none⟩) HV6.out.2.2 _).far HV6.out.2.1 (p := ⟨b, 2, none⟩) HV6.out.2.2 _
          refine ⟨K, G, ao, _, cc, _, by rw [HE.out], fun _ => ⟨?_, ?_, ?_, ?_, ?_⟩, HNB.out ▸ hb0⟩
          · rw [← HGK.out.2, HK0.out]
          · rw [← HGK.out.1, HG4.out]
          · rw [← HC.out.1, ← HC.out.2.2]; exact hst
          · exact HV6.out.2.1.mono (by rw [← HNB.out]; exact Nat.le_of_lt HV6.out.2.2)
          · rw [HQ4.out, HT.out]
end Go.Proofs.Ythkibgdeibolfaa

/- igmp.Records. -/
namespace Go.Proofs.Ythkibgdeibolfaa
open Go.RowKit Go.Sort
set_option maxRecDepth 20000
set_option maxRecDepth 20000
attribute [local go_sem] bstr_size bstr_extract bstr_toList bstr_get

def recOf (s : Str) (size : Nat) : Rec := (((s.getD 0 0).toNat : Int), (s.drop 4).take size, srcs s (4 + size) (many s) size)
theorem precA_step (size m : Nat) (s : Str) (l : List Rec) : precA size (m + 1) s l = if recE s size = 0 then precA size m (s.drop (whole s size)) (if knownK (s.getD 0 0).toNat then l ++ [recOf s size] else l) else (recE s size, []) := by
  rw [precA]
  unfold recE
  by_cases h1 : s.length < 4 + size
  · rw [if_pos h1, if_pos h1, if_neg (by decide)]
  · rw [if_neg h1, if_neg h1]
    by_cases h2 : s.length < whole s size
    · rw [if_pos h2, if_pos (show s.length < 4 + size + numAt s 2 2 * size + 4 * (s.getD 1 0).toNat from h2), if_neg (by decide)]
    · rw [if_neg h2, if_neg (show ¬ s.length < 4 + size + numAt s 2 2 * size + 4 * (s.getD 1 0).toNat from h2)]
      by_cases h3 : 60 < many s ∨ grp ((s.drop 4).take size) size = false
      · rw [if_pos h3, if_pos (show 60 < numAt s 2 2 ∨ grp ((s.drop 4).take size) size = false from h3), if_neg (by decide)]
      · rw [if_neg h3, if_neg (show ¬ (60 < numAt s 2 2 ∨ grp ((s.drop 4).take size) size = false) from h3), if_pos rfl]
        rfl

def RetRecsE (w : World) (L : List Rec) (er : Int) (e : Ending) (w' : World) : Prop := ∃ v, e = .returned (.tuple #[v, .int .i64 er]) ∧ Row w' w.heap.size v L ∧ Below w.heap.size w w'
theorem recsNil (w w' : World) (er : Int) (hb : Below w.heap.size w w') : RetRecsE w [] er (.returned (.tuple #[.slice none 0 0, .int .i64 er])) w' := ⟨_, rfl, Row.nil _ _, hb⟩

theorem qcells_new (W : World) (k : Int) (g : Str) (ao : Option Addr) (m c : Nat) (T : TypeId) : SliceOf (W.alloc (.cells #[.int .i64 k, .string (bstr g), .slice ao m c] T)) 3 (.slice (some ⟨W.heap.size, 0, none⟩) 1 1) 1 [.int .i64 k, .string (bstr g), .slice ao m c] :=
  sliceOf_block (heap_new _ _ _ rfl) rfl (by simp [Value.oneCell'])

set_option maxHeartbeats 2000000 in
theorem records_nat (s : Str) (n size : Nat) (w : World) (hs : s.length ≤ 1000000) (hsz : size = 4 ∨ size = 16) (hn : n ≤ 30) :
    Calls Try.prog 20 #[.string (bstr s), .int .i64 n, .int .i64 size] w (RetRecsE w (precA size n s []).2 (precA size n s []).1) := by
  obtain ⟨i0, hi, hz0, hz1, hz2⟩ := info_parts infoRec
  have HSZ := Lib.hid (isSize_any size w)
  rw [show okSize (size : Int) = true from by unfold okSize; rcases hsz with rfl | rfl <;> rfl] at HSZ
  have d30 : decide ((30 : Int) < n) = false := decide_eq_false (by omega)
  have hs1 : 1 ≤ size ∧ size ≤ 16 := by omega
  have HS1 := Lib.hid hs1
  obtain ⟨P, hP⟩ : ∃ P, P = precA size n s [] := ⟨_, rfl⟩
  rw [← hP]
  have HP := Lib.hid hP
  have HS := Lib.hid (And.intro hs hn)
  clear hsz hs1 hP hs hn
  go_enter Try.func20, Try.ntmps20
  go_wp2_with ((with_reducible refine HSZ.out.mono ?_); rintro e w2 ⟨rfl, hw2⟩; subst w2)
  clear d30
  go_loopw [0, 8, 9, 10, 11, 24] (fun t l _ _ _ i wr => ∃ (k : Nat) (S : Str) (Q : List QRec), k ≤ n ∧ i = .int .i64 k ∧ t = .string (bstr S) ∧ RowQ wr w.heap.size l Q ∧ S.length ≤ s.length ∧ Q.length ≤ k ∧ P = precA size (n - k) S (Q.map qrec) ∧ Below w.heap.size w wr) (fun _ _ _ _ _ i _ => n - (RowKit.intOf i).toNat)
  case atStart => exact ⟨0, s, [], Nat.zero_le _, rfl, rfl, RowQ.nil _ _, Nat.le_refl _, Nat.le_refl _, HP.out, Below.refl _ _⟩
  case round =>
    obtain ⟨k, S, Q, hk, rfl, rfl, hrow, hSl, hQl, hPQ, hb⟩ := hrel
    obtain ⟨lo, lc, rfl⟩ := own_form hrow.1
    have HROW := Lib.hid hrow; have HB := Lib.hid hb
    have HIN := Lib.hid (And.intro hSl (And.intro hQl hPQ))
    clear hrow hb hSl hQl hPQ
    by_cases hlt : k < n
    · have HR := Lib.hid (record_any S size wr (Nat.le_trans HIN.out.1 HS.out.1) HS1.out.1 HS1.out.2)
      have HST := Lib.hid (show P = if recE S size = 0 then precA size (n - (k + 1)) (S.drop (whole S size)) (if knownK (S.getD 0 0).toNat then Q.map qrec ++ [recOf S size] else Q.map qrec) else (recE S size, []) from by
        rw [HIN.out.2.2, show n - k = n - (k + 1) + 1 from by omega, precA_step])
      obtain ⟨er, her⟩ : ∃ er, er = recE S size := ⟨_, rfl⟩
      unfold RetRec at HR
      rw [← her] at HR HST
      have HER := Lib.hid her
      by_cases h0 : er = 0
      · subst h0
        rw [if_pos rfl] at HST
        clear her
        go_upto_region 9 with ((with_reducible refine HR.out.mono ?_); rintro e w5 ⟨K, G, ao, m, c, N, rfl, hok, hb5⟩; obtain ⟨hK, hG, hst, hli, hN⟩ := hok rfl; have HB5 := Lib.hid (HB.out.trans (hb5.mono HB.out.size)); have HROW5 := Lib.hid (HROW.out.below hb5); have HV := Lib.hid (And.intro hst (And.intro hli (And.intro hK (And.intro hG hN)))); clear hok hb5 hK hG hst hli hN)
        obtain ⟨ao', cc', hsh⟩ := HV.out.1.shape
        injection hsh with e1 e2 e3
        subst e1 e2 e3
        obtain ⟨L, hL⟩ : ∃ L, L = srcs S (4 + size) (many S) size := ⟨_, rfl⟩
        rw [← hL] at HV ⊢
        obtain ⟨W6, hW6⟩ : ∃ W6, w5.alloc (.cells #[.int .i64 K, .string (bstr G), .slice ao L.length c] 56) = W6 := ⟨_, rfl⟩
        have X6 : CBox W6 w5.heap.size 56 #[.int .i64 K, .string (bstr G), .slice ao L.length c] := by rw [← hW6]; exact CBox.new _ rfl
        have hb6 : Below w5.heap.size w5 W6 := by rw [← hW6]; exact (Below.refl _ _).alloc (Nat.le_refl _) _
        rw [hW6]
        have HROW6 := Lib.hid (HROW5.out.below hb6)
        have HST6 := Lib.hid (HV.out.1.mono hb6)
        have HB6 := Lib.hid (HB5.out.trans (hb6.mono HB5.out.size))
        have HX6 := Lib.hid X6
        obtain ⟨x0, f0⟩ := X6.at_ 0 _ rfl
        obtain ⟨x1, f1⟩ := X6.at_ 1 _ rfl
        obtain ⟨x2, f2⟩ := X6.at_ 2 _ rfl
        have HKN := Lib.hid (known_any8 K W6)
        have HKK := Lib.hid (show knownI K = knownK (S.getD 0 0).toNat from by rw [HV.out.2.2.1, knownI_nat])
        have HSH := Lib.hid (show S.drop (whole S size) = S.drop (whole S size) from rfl)
        obtain ⟨Wn, hWn⟩ : ∃ Wn, Wn = whole S size := ⟨_, rfl⟩
        have hN : N = (Wn : Int) := by rw [hWn]; exact HV.out.2.2.2.2
        subst hN
        clear hb6 hW6 X6 HSH
        have HNX := Lib.hid (show S.drop Wn = S.drop (whole S size) from by rw [hWn])
        have HWL := Lib.hid (show Wn ≤ S.length from by
          have h9 : recE S size = 0 := HER.out.symm
          rw [hWn]
          unfold recE at h9
          by_cases h1 : S.length < 4 + size
          · rw [if_pos h1] at h9; exact absurd h9 (by decide)
          · rw [if_neg h1] at h9
            by_cases h2 : S.length < whole S size
            · rw [if_pos h2] at h9; exact absurd h9 (by decide)
            · exact Nat.le_of_not_lt h2)
        have hWL := Int.ofNat_le.2 HWL.out
        have htS : List.take (S.length - Wn) (S.drop Wn) = S.drop Wn := List.take_of_length_le (by rw [List.length_drop]; exact Nat.le_refl _)
        have HRO := Lib.hid (show recOf S size = (K, G, L) from by rw [hL]; unfold recOf; rw [HV.out.2.2.1, HV.out.2.2.2.1])
        have hwk : wrap64 ((k : Int) + 1) = (k : Int) + 1 := w64 _ (Int.le_add_one (Int.natCast_nonneg _)) (Int.le_trans (Int.ofNat_le.2 (Nat.succ_le_succ (Nat.le_trans (Nat.le_of_lt hlt) HS.out.2))) (by decide))
        clear hWn hL
        cases hk : knownI K
        · rw [hk] at HKN
          have HST2 := Lib.hid (show P = precA size (n - (k + 1)) (S.drop Wn) (Q.map qrec) from by
            rw [HST.out, HNX.out, if_neg (by rw [← HKK.out, hk]; decide)])
          clear hk
          go_wp2_with ((with_reducible refine HKN.out.mono ?_); rintro e w7 ⟨rfl, hw7⟩; subst w7)
          refine ⟨⟨k + 1, S.drop Wn, Q, hlt, by rw [hwk]; rfl, rfl, HROW6.out, by rw [List.length_drop]; exact Nat.le_trans (Nat.sub_le _ _) HIN.out.1, Nat.le_trans HIN.out.2.1 (Nat.le_succ k), HST2.out, HB6.out⟩, by rw [hwk]; exact meas_up n k hlt⟩
        · rw [hk] at HKN
          have HST2 := Lib.hid (show P = precA size (n - (k + 1)) (S.drop Wn) (Q.map qrec ++ [(K, G, L)]) from by
            rw [HST.out, HNX.out, if_pos (by rw [← HKK.out, hk]), HRO.out])
          have hc3 : Q.length + 1 ≤ maxLen := Nat.le_trans (Nat.succ_le_succ (Nat.le_trans HIN.out.2.1 (Nat.le_trans (Nat.le_of_lt hlt) HS.out.2))) (by decide)
          have hc4 : (Q.length + 1) * 48 ≤ 140737488355328 := Nat.le_trans (Nat.mul_le_mul_right 48 (Nat.succ_le_succ (Nat.le_trans HIN.out.2.1 (Nat.le_trans (Nat.le_of_lt hlt) HS.out.2)))) (by decide)
          have hbs : w.heap.size ≤ (W6.alloc (.cells #[.int .i64 K, .string (bstr G), .slice ao L.length c] 56)).heap.size := by rw [World.size_alloc]; exact Nat.le_succ_of_le HB6.out.size
          have HNE := Lib.hid (show L ≠ [] → (Value.slice ao L.length c).ownBlock ≠ (Value.slice lo Q.length lc).ownBlock from fun hne e => by
            obtain ⟨bb, hbb, _⟩ := HV.out.1.block hne
            have h1 := HV.out.2.1 bb hbb
            have h2 := (HROW.out.1.lt bb (e ▸ hbb)).2
            exact absurd h1 (Nat.not_le.2 h2))
          have HGL := Lib.hid (show G.length ≤ maxLen from by rw [HV.out.2.2.2.1]; exact Nat.le_trans (by rw [List.length_take]; exact Nat.min_le_left _ _) (Nat.le_trans HS1.out.2 (by decide)))
          have HLI := Lib.hid (show Lies w.heap.size (.slice ao L.length c) from HV.out.2.1.mono HB.out.size)
          clear hk
          go_wp2_with (first | ((with_reducible refine HKN.out.mono ?_); rintro e w7 ⟨rfl, hw7⟩; subst w7) | (at_builtin; refine wpList_append_vals _ rfl _ _ 27 rfl w.heap.size 56 i0 _ 3 48 Try.underlying27 hi hz0 hz1 hz2 rfl (by decide) _ _ _ rfl (HROW6.out.1.alloc _) _ 1 [.int .i64 K, .string (bstr G), .slice ao L.length c] rfl (qcells_new _ _ _ _ _ _ _) hc3 hc4 hbs ?_; intro v8 w8 ho hgr hv; obtain ⟨vo, vc, rfl⟩ := own_form ho; have HP8 := Lib.hid (HROW6.out.push_new (L := L) HST6.out HLI.out HGL.out HB6.out.size HNE.out ho hgr hv); clear ho hgr hv))
          refine ⟨⟨k + 1, S.drop Wn, Q ++ [(K, G, .slice ao L.length c, L)], hlt, by rw [hwk]; rfl, rfl, HP8.out.1, by rw [List.length_drop]; exact Nat.le_trans (Nat.sub_le _ _) HIN.out.1, by rw [List.length_append]; exact Nat.succ_le_succ HIN.out.2.1, by rw [HST2.out, List.map_append]; rfl, HB6.out.trans HP8.out.2⟩, by rw [hwk]; exact meas_up n k hlt⟩
      · have hne : (er != 0) = true := bne_iff_ne.2 h0
        rw [if_neg h0] at HST
        have HPE := Lib.hid (show P.2 = [] ∧ P.1 = er from by rw [HST.out]; exact ⟨rfl, rfl⟩)
        rw [HPE.out.1, HPE.out.2]
        clear her h0 hk
        go_wp2_with ((with_reducible refine HR.out.mono ?_); rintro e w5 ⟨K, G, ao, m, c, N, rfl, _, hb5⟩; have HB5 := Lib.hid (HB.out.trans (hb5.mono HB.out.size)); clear hb5)
        go_ret2
        exact recsNil w _ er (HB5.out.alloc HB5.out.size _)
    · obtain rfl : n = k := Nat.le_antisymm (Nat.le_of_not_lt hlt) hk
      have HPE := Lib.hid (show P = (0, Q.map qrec) from by rw [HIN.out.2.2, Nat.sub_self]; rfl)
      rw [HPE.out]
      dsimp only
      go_wp2_with fail
      go_ret2
      exact ⟨_, by rw [HPE.out]; rfl, by rw [HPE.out]; exact ⟨Q, HROW.out, rfl, Nat.le_trans HIN.out.2.1 (Nat.le_trans HS.out.2 (by decide))⟩, HB.out⟩

theorem records_any (s : Str) (n size : Int) (w : World) (hs : s.length ≤ 1000000) :
    Calls Try.prog 20 #[.string (bstr s), .int .i64 n, .int .i64 size] w (RetRecsE w (precs s n size).2 (precs s n size).1) := by
  by_cases h : n < 0 ∨ okSize size = false
  · have hP : precs s n size = (1, []) := if_pos h
    rw [hP]
    have HSZ := Lib.hid (isSize_any size w)
    by_cases h0 : n < 0
    · have d0 : decide (n < 0) = true := decide_eq_true h0
      clear h hP h0
      go_enter Try.func20, Try.ntmps20
      go_wp2_with ((with_reducible refine HSZ.out.mono ?_); rintro e w2 ⟨rfl, hw2⟩; subst w2)
      go_ret2
      exact recsNil w _ 1 (Below.refl _ _)
    · have d0 : decide (n < 0) = false := decide_eq_false h0
      rw [h.resolve_left h0] at HSZ
      clear h hP h0
      go_enter Try.func20, Try.ntmps20
      go_wp2_with ((with_reducible refine HSZ.out.mono ?_); rintro e w2 ⟨rfl, hw2⟩; subst w2)
      go_ret2
      exact recsNil w _ 1 (Below.refl _ _)
  · have h0 : ¬ n < 0 := fun e => h (.inl e)
    have hz : okSize size = true := by
      cases q : okSize size
      · exact absurd (.inr q) h
      · rfl
    obtain ⟨m, rfl⟩ := Int.eq_ofNat_of_zero_le (Int.not_lt.1 h0)
    obtain ⟨z, rfl, hz2⟩ : ∃ z : Nat, size = z ∧ (z = 4 ∨ z = 16) := by
      unfold okSize at hz
      rcases Bool.or_eq_true _ _ ▸ hz with e | e
      · exact ⟨4, of_decide_eq_true e, .inl rfl⟩
      · exact ⟨16, of_decide_eq_true e, .inr rfl⟩
    by_cases h30 : 30 < m
    · have hP : precs s m z = (3, []) := by unfold precs; rw [if_neg h, if_pos (by omega)]
      rw [hP]
      have HSZ := Lib.hid (isSize_any z w)
      rw [hz] at HSZ
      have d30 : decide ((30 : Int) < m) = true := decide_eq_true (by omega)
      have d30' : decide (30 < m) = true := decide_eq_true h30
      clear h hP h0 h30 hz
      go_enter Try.func20, Try.ntmps20
      go_wp2_with ((with_reducible refine HSZ.out.mono ?_); rintro e w2 ⟨rfl, hw2⟩; subst w2)
      go_ret2
      exact recsNil w _ 3 (Below.refl _ _)
    · have hP : precs s m z = precA z m s [] := by unfold precs; rw [if_neg h, if_neg (by omega), Int.toNat_natCast, Int.toNat_natCast]
      rw [hP]
      exact records_nat s m z w hs hz2 (by omega)
end Go.Proofs.Ythkibgdeibolfaa
