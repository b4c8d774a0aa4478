/- siphonref22.Sorted, for every slice: it hands back the rising list of its numbers. -/
import Derived.Test.YtmjpjpdgejpeeaaSortedPlain
import Derived.Test.YtmjpjpdgejpeeaaFwd
namespace Go.Proofs.Ytmjpjpdgejpeeaa
open Go.RowKit Go.Sort

def lenOf : Value → Nat
  | .slice _ n _ => n
  | _ => 0

theorem own_len {w : World} {base : Nat} {e : TypeId} {size : Nat} {v : Value} {n : Nat} {xs : List Value} (h : w.ownsRow base e size v n xs) : lenOf v = n := by
  rcases h.2 with ⟨rfl, rfl⟩ | ⟨g, cap, cur, rfl, _⟩ <;> rfl

theorem wf_asc {L : List Int} (h : ∀ x ∈ L, (Lit.int .i64 x).wf = true) (n : Nat) : ∀ x ∈ (asc L).take n, (Lit.int .i64 x).wf = true :=
  fun x hx => h x ((asc_mem L x).1 (List.mem_of_mem_take hx))

set_option maxHeartbeats 4000000 in
theorem sorted_any (v : Value) (L : List Int) (w : World) (h : Ints w v L) :
    Calls Try.prog 23 #[v] w (RetInts w (asc L)) := by
  obtain ⟨b, off, hm, hlen, hidx, hc⟩ := h.facts
  have HWF := Lib.hid h.wf
  clear h
  obtain ⟨i0, hi, hz0, hz1, hz2⟩ := info_parts info3
  have hal := asc_length L
  go_enter Try.func23, Try.ntmps23
  go_wp2
  go_loopw [3] (fun o wr => ∃ n, n ≤ (asc L).length ∧ wr.ownsRow w.heap.size 3 1 o ((asc L).take n).length (((asc L).take n).map (Value.int .i64)) ∧ Below w.heap.size w wr) (fun o _ => L.length + 1 - lenOf o)
  case atStart => exact ⟨0, Nat.zero_le _, by simpa using World.ownsRow_nil _ _ _ _, Below.refl _ _⟩
  case round =>
    obtain ⟨n, hn, hown, hbel⟩ := hrel
    obtain ⟨wo, rfl⟩ : ∃ wo : World, wo = wr := ⟨_, rfl⟩
    have htl : ((asc L).take n).length = n := by rw [List.length_take]; omega
    obtain ⟨ob, ooff, hom, holen, hoidx, hoc⟩ := (Ints.own hown (by omega) (wf_asc HWF.out n)).facts
    rw [htl] at holen hoidx hoc
    have HO := Lib.hid hown
    clear hown
    have hnl : n ≤ L.length := by omega
    go_wp2
    go_loopw [4, 5] (fun nx i wr => ∃ k : Nat, ∃ x : Int, k ≤ L.length ∧ i = .int .i64 k ∧ nx = .int .i64 x ∧ Found L n k x ∧ ∃ d, wr = wo.drewN d) (fun _ i _ => L.length - (intOf i).toNat)
    case atStart => exact ⟨0, -1, Nat.zero_le _, rfl, rfl, found_start L n, 0, rfl⟩
    case round =>
      obtain ⟨k, x, hk, rfl, rfl, hf, d, rfl⟩ := hrel
      have HF := Lib.hid hf
      by_cases hlt : k < L.length
      · have hp := hidx k hlt
        have hcell := (hbel.cell (p := ⟨b, off + k, none⟩) (hc k hlt).1).trans (hc k hlt).2
        have hcx := found_cases hf
        obtain ⟨y, hy⟩ : ∃ y, L[k] = y := ⟨_, rfl⟩
        rw [show L.getD k 0 = y from by rw [← hy]; simp [List.getD_eq_getElem?_getD, hlt]] at hcell
        have HY := Lib.hid hy
        -- does y stand behind?
        have key : ∀ (bh : Bool), (bh = true → y ∉ (asc L).take n) → (bh = false → y ∈ (asc L).take n) → ∃ x', (bh = false → x' = x ∧ Found L n (k + 1) x) ∧ (bh = true → x = -1 → Found L n (k + 1) k) ∧ (bh = true → ∀ j : Nat, x = j → (y < L.getD j 0 → Found L n (k + 1) k) ∧ (¬ y < L.getD j 0 → Found L n (k + 1) j)) := by
          intro bh hb1 hb2
          refine ⟨x, fun h => ⟨rfl, found_seen hf hlt (by rw [hy]; exact hb2 h)⟩, fun h hx => ?_, fun h j hx => ⟨fun hl => ?_, fun hl => ?_⟩⟩
          · subst hx; exact found_first hf hlt (by rw [hy]; exact hb1 h)
          · subst hx
            have hj := found_lt hf
            exact found_less hf hlt hj (by rw [hy]; exact hb1 h) (by rw [hy]; simpa [List.getD_eq_getElem?_getD, hj] using hl)
          · subst hx
            have hj := found_lt hf
            exact found_more hf hlt hj (by rw [hy]; have : ¬ y < L[j] := by simpa [List.getD_eq_getElem?_getD, hj] using hl
                                           omega)
        have KEY := Lib.hid key
        clear key hf hy
        by_cases hn0 : n = 0
        · have hz : ((n : Int) == 0) = true := by simp [hn0]
          obtain ⟨_, K0, K1, K2⟩ := KEY.out true (by simp [hn0]) (by simp)
          clear K0 KEY hn0 hoidx hoc
          rcases hcx with rfl | ⟨j, rfl, hj⟩
          · have K := Lib.hid (K1 rfl rfl)
            clear hc K1 K2 hidx
            go_wp2
            go_quiet (fail)
            go_wp2
            go_quiet (fail)
            go_wp2
            go_roundw
            case rel => exact ⟨k + 1, k, by omega, by go_num, rfl, K.out, _, rfl⟩
            case measure => simp [intOf]; omega
          · have hpj := hidx j hj
            have hcj := (hbel.cell (p := ⟨b, off + j, none⟩) (hc j hj).1).trans (hc j hj).2
            obtain ⟨z, hzj⟩ : ∃ z, L.getD j 0 = z := ⟨_, rfl⟩
            rw [hzj] at hcj
            have K := K2 rfl j rfl
            rw [hzj] at K
            have hj0 : ¬ (j : Int) < 0 := by omega
            clear hc K1 K2 hidx hzj
            by_cases hyz : y < z
            · have K' := Lib.hid (K.1 hyz)
              clear K
              go_wp2
              go_quiet (fail)
              go_wp2
              go_quiet (fail)
              go_wp2
              go_roundw
              case rel => exact ⟨k + 1, k, by omega, by go_num, rfl, K'.out, _, rfl⟩
              case measure => simp [intOf]; omega
            · have K' := Lib.hid (K.2 hyz)
              clear K
              go_wp2
              go_quiet (fail)
              go_wp2
              go_quiet (fail)
              go_wp2
              go_roundw
              case rel => exact ⟨k + 1, j, by omega, by go_num, rfl, K'.out, _, rfl⟩
              case measure => simp [intOf]; omega
        · have hz : ((n : Int) == 0) = false := by simp [hn0]
          have hpo : ∀ w', (Instr.indexAt 22 u3 (.int .i64 ((n : Int) - 1))).run Try.prog w' = .ok (.pointer (some ⟨ob, ooff + (n - 1), none⟩)) w' := by
            have := hoidx (n - 1) (by omega)
            rwa [show ((n - 1 : Nat) : Int) = (n : Int) - 1 from by omega] at this
          have hco := (hoc (n - 1) (by omega)).2
          obtain ⟨t, ht⟩ : ∃ t, ((asc L).take n).getD (n - 1) 0 = t := ⟨_, rfl⟩
          rw [ht] at hco
          have hB : y ∉ (asc L).take n ↔ t < y := by
            have hml : n - 1 < (asc L).length := by omega
            have e : (asc L)[n - 1] = t := by rw [← ht]; simp [List.getD_eq_getElem?_getD, List.getElem?_take, show n - 1 < n from by omega, hml]
            have := behind_iff L (n - 1) hml y (by rw [← HY.out]; exact List.getElem_mem hlt)
            rwa [show n - 1 + 1 = n from by omega, e] at this
          have hn1 : 1 ≤ n := by omega
          clear hoidx hoc hn0 ht
          by_cases hty : t < y
          · obtain ⟨_, K0, K1, K2⟩ := KEY.out true (fun _ => hB.2 hty) (by simp)
            clear K0 KEY hB
            rcases hcx with rfl | ⟨j, rfl, hj⟩
            · have K := Lib.hid (K1 rfl rfl)
              clear hc K1 K2 hidx
              go_wp2
              go_quiet (fail)
              go_wp2
              go_quiet (fail)
              go_wp2
              go_roundw
              case rel => exact ⟨k + 1, k, by omega, by go_num, rfl, K.out, _, rfl⟩
              case measure => simp [intOf]; omega
            · have hpj := hidx j hj
              have hcj := (hbel.cell (p := ⟨b, off + j, none⟩) (hc j hj).1).trans (hc j hj).2
              obtain ⟨z, hzj⟩ : ∃ z, L.getD j 0 = z := ⟨_, rfl⟩
              rw [hzj] at hcj
              have K := K2 rfl j rfl
              rw [hzj] at K
              have hj0 : ¬ (j : Int) < 0 := by omega
              clear hc K1 K2 hidx hzj
              by_cases hyz : y < z
              · have K' := Lib.hid (K.1 hyz)
                clear K
                go_wp2
                go_quiet (fail)
                go_wp2
                go_quiet (fail)
                go_wp2
                go_roundw
                case rel => exact ⟨k + 1, k, by omega, by go_num, rfl, K'.out, _, rfl⟩
                case measure => simp [intOf]; omega
              · have K' := Lib.hid (K.2 hyz)
                clear K
                go_wp2
                go_quiet (fail)
                go_wp2
                go_quiet (fail)
                go_wp2
                go_roundw
                case rel => exact ⟨k + 1, j, by omega, by go_num, rfl, K'.out, _, rfl⟩
                case measure => simp [intOf]; omega
          · obtain ⟨_, K0, K1, K2⟩ := KEY.out false (by simp) (fun _ => by
              by_cases hm : y ∈ (asc L).take n
              · exact hm
              · exact absurd (hB.1 hm) hty)
            have K := Lib.hid (K0 rfl).2
            have hd : decide (t < y) = false := by simpa using hty
            clear K0 K1 K2 KEY hB hc hidx hcx
            go_wp2
            go_quiet (fail)
            go_wp2
            go_quiet (fail)
            go_wp2
            go_roundw
            case rel => exact ⟨k + 1, x, by omega, by go_num, rfl, K.out, _, rfl⟩
            case measure => simp [intOf]; omega
      · obtain rfl : k = L.length := by omega
        have hcx := found_cases hf
        clear hlt
        rcases hcx with rfl | ⟨j, rfl, hj⟩
        · have hE := Lib.hid (found_none hn hf)
          clear hf HF hidx hc hoidx hoc
          go_wp2
          go_ret
          refine ⟨_, rfl, ?_, ?_⟩
          · have := HO.out
            rw [hE.out, List.take_length] at this
            exact (Ints.own this (by omega) (fun x hx => HWF.out x ((asc_mem L x).1 hx))).draws d
          · exact below_draws _ hbel d
        · obtain ⟨hlt, hE⟩ := found_next hn hf hj
          have hpj := hidx j hj
          have hcj := (hbel.cell (p := ⟨b, off + j, none⟩) (hc j hj).1).trans (hc j hj).2
          have hj0 : ¬ (j : Int) < 0 := by omega
          obtain ⟨z, hz⟩ : ∃ z, (asc L)[n] = z := ⟨_, rfl⟩
          have hzj : L.getD j 0 = z := by rw [← hz, ← hE]; simp [List.getD_eq_getElem?_getD, hj]
          rw [hzj] at hcj
          have HS := Lib.hid (show (asc L).take (n + 1) = (asc L).take n ++ [z] from by rw [take_snoc _ n hlt, hz])
          have hownD : (wo.drewN d).ownsRow w.heap.size 3 1 u3 ((asc L).take n).length (((asc L).take n).map (Value.int .i64)) := HO.out
          have hbelD := below_draws _ hbel d
          have hs0 := hbelD.size
          have hL3 : ((asc L).take n).length + 1 ≤ maxLen := by rw [htl]; unfold maxLen; omega
          have hL4 : (((asc L).take n).length + 1) * 8 ≤ 140737488355328 := by rw [htl]; omega
          clear hf HF hidx hc hoidx hoc hE hzj hz hom
          go_wp2_with (at_builtin; refine wpList_append_own _ rfl _ _ 22 rfl w.heap.size 3 i0 (.int .i64 0) 1 8 Try.underlying22 hi hz0 hz1 hz2 rfl (by decide) u3 _ _ rfl (hownD.alloc _) ⟨(wo.drewN d).heap.size, 0, none⟩ 1 1 [.int .i64 z] rfl rfl (cell_one_new _ _ _) (ints_oneCell .i64 [z]) hL3 hL4 (by simp at hs0 ⊢; omega) ?_; intro v' w2 hown2 hg2 _)
          go_roundw
          case rel =>
            refine ⟨n + 1, hlt, ?_, below_own ((hbelD.alloc hs0 _)) (hownD.alloc _) (Nat.le_refl _) (by simp at hs0 ⊢; omega) hg2⟩
            rw [HS.out, List.length_append, List.map_append]
            exact hown2
          case measure =>
            have e1 := own_len hown2
            have e2 := own_len hownD
            rw [e1, e2, htl]
            omega
end Go.Proofs.Ytmjpjpdgejpeeaa
