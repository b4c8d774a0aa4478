/- siphonref11.Rising, for every slice of strings: it hands back the rising list of its strings. -/
import Derived.Test.YtkphgonbbhlnfaaStrFound
import Derived.Sort.Walk0
namespace Go.Proofs.Ytkphgonbbhlnfaa
open Go.RowKit Go.Sort

def lenOf : Value → Nat
  | .slice _ n _ => n
  | _ => 0

theorem own_len {w : World} {base : Nat} {e : TypeId} {size : Nat} {v : Value} {n : Nat} {xs : List Value} (h : w.ownsRow base e size v n xs) : lenOf v = n := by
  rcases h.2 with ⟨rfl, rfl⟩ | ⟨g, cap, cur, rfl, _⟩ <;> rfl

/-- a call that hands back a slice of the strings L, and writes nothing that was there -/
def RetStrs (w : World) (L : List Str) (e : Ending) (w' : World) : Prop := ∃ v, e = .returned v ∧ Strs w' v L ∧ Below w.heap.size w w' ∧ Lies w.heap.size v

theorem slen_asc {L : List Str} (h : ∀ x ∈ L, x.length ≤ maxLen) (n : Nat) : ∀ x ∈ (sasc L).take n, x.length ≤ maxLen :=
  fun x hx => h x ((sasc_mem L x).1 (List.mem_of_mem_take hx))

theorem infoAddr : (Try.prog.info? 25).map (fun i => (i.zero, i.size, i.bytes)) = some (some (.string ⟨#[]⟩), 1, 16) := by kernel_rfl

theorem ones_str (x : Str) : ∀ u ∈ [Value.string (bstr x)], u.oneCell' = true := by simp [Value.oneCell']

set_option maxRecDepth 20000 in
set_option maxHeartbeats 4000000 in
theorem srising_any (v : Value) (L : List Str) (w : World) (h : Strs w v L) :
    Calls Try.prog 38 #[v] w (RetStrs w (sasc L)) := by
  obtain ⟨b, off, hm, hlen, hidx, hc⟩ := h.facts
  have HWF := Lib.hid h.len
  have hbt := bstr_toList
  clear h
  obtain ⟨i0, hi, hz0, hz1, hz2⟩ := info_parts infoAddr
  have hal := sasc_length L
  go_enter Try.func38, Try.ntmps38
  go_wp2
  go_loopw [3] (fun o wr => ∃ n, n ≤ (sasc L).length ∧ wr.ownsRow w.heap.size 25 1 o ((sasc L).take n).length (((sasc L).take n).map (encStr)) ∧ Below w.heap.size w wr) (fun o _ => L.length + 1 - lenOf o)
  case atStart => exact ⟨0, Nat.zero_le _, by simpa using World.ownsRow_nil _ _ _ _, Below.refl _ _⟩
  case round =>
    obtain ⟨n, hn, hown, hbel⟩ := hrel
    obtain ⟨wo, rfl⟩ : ∃ wo : World, wo = wr := ⟨_, rfl⟩
    have htl : ((sasc L).take n).length = n := by rw [List.length_take]; omega
    obtain ⟨ob, ooff, hom, holen, hoidx, hoc⟩ := (Strs.own hown (by omega) (slen_asc HWF.out n)).facts
    rw [htl] at holen hoidx hoc
    have HO := Lib.hid hown
    clear hown
    have hnl : n ≤ L.length := by omega
    go_wp2
    go_loopw [4, 5] (fun nx i wr => ∃ k : Nat, ∃ x : Int, k ≤ L.length ∧ i = .int .i64 k ∧ nx = .int .i64 x ∧ SFound L n k x ∧ ∃ d, wr = wo.drewN d) (fun _ i _ => L.length - (intOf i).toNat)
    case atStart => exact ⟨0, -1, Nat.zero_le _, rfl, rfl, sfound_start L n, 0, rfl⟩
    case round =>
      obtain ⟨k, x, hk, rfl, rfl, hf, d, rfl⟩ := hrel
      have HF := Lib.hid hf
      by_cases hlt : k < L.length
      · have hp := hidx k hlt
        have hcell := (hbel.cell (p := ⟨b, off + k, none⟩) (hc k hlt).1).trans (hc k hlt).2
        have hcx := sfound_cases hf
        obtain ⟨y, hy⟩ : ∃ y, L[k] = y := ⟨_, rfl⟩
        rw [show L.getD k [] = y from by rw [← hy]; simp [List.getD_eq_getElem?_getD, hlt]] at hcell
        rw [enc_bstr] at hcell
        have HY := Lib.hid hy
        -- does y stand behind?
        have key : ∀ (bh : Bool), (bh = true → y ∉ (sasc L).take n) → (bh = false → y ∈ (sasc L).take n) → ∃ x', (bh = false → x' = x ∧ SFound L n (k + 1) x) ∧ (bh = true → x = -1 → SFound L n (k + 1) k) ∧ (bh = true → ∀ j : Nat, x = j → (y < L.getD j [] → SFound L n (k + 1) k) ∧ (¬ y < L.getD j [] → SFound L n (k + 1) j)) := by
          intro bh hb1 hb2
          refine ⟨x, fun h => ⟨rfl, sfound_seen hf hlt (by rw [hy]; exact hb2 h)⟩, fun h hx => ?_, fun h j hx => ⟨fun hl => ?_, fun hl => ?_⟩⟩
          · subst hx; exact sfound_first hf hlt (by rw [hy]; exact hb1 h)
          · subst hx
            have hj := sfound_lt hf
            exact sfound_less hf hlt hj (by rw [hy]; exact hb1 h) (by rw [hy]; simpa [List.getD_eq_getElem?_getD, hj] using hl)
          · subst hx
            have hj := sfound_lt hf
            exact sfound_more hf hlt hj (by rw [hy]; simpa [List.getD_eq_getElem?_getD, hj] using hl)
        have KEY := Lib.hid key
        clear key hf hy
        by_cases hn0 : n = 0
        · have hz : ((n : Int) == 0) = true := by simp [hn0]
          obtain ⟨_, K0, K1, K2⟩ := KEY.out true (by simp [hn0]) (by simp)
          clear K0 KEY hn0 hoidx hoc
          rcases hcx with rfl | ⟨j, rfl, hj⟩
          · have K := Lib.hid (K1 rfl rfl)
            clear hc K1 K2 hidx
            go_wp2
            go_quiet (fail)
            go_wp2
            go_quiet (fail)
            go_wp2
            go_roundw
            case rel => exact ⟨k + 1, k, by omega, by go_num, rfl, K.out, _, rfl⟩
            case measure => simp [intOf]; omega
          · have hpj := hidx j hj
            have hcj := (hbel.cell (p := ⟨b, off + j, none⟩) (hc j hj).1).trans (hc j hj).2
            obtain ⟨z, hzj⟩ : ∃ z, L.getD j [] = z := ⟨_, rfl⟩
            rw [hzj] at hcj
            rw [enc_bstr] at hcj
            have K := K2 rfl j rfl
            rw [hzj] at K
            have hj0 : ¬ (j : Int) < 0 := by omega
            clear hc K1 K2 hidx hzj
            by_cases hyz : y < z
            · have K' := Lib.hid (K.1 hyz)
              have hdz : Op.bytesLess y z = true := by rw [Go.Proofs.bytesLess_eq]; exact decide_eq_true hyz
              clear hyz
              clear K
              go_wp2
              go_quiet (fail)
              go_wp2
              go_quiet (fail)
              go_wp2
              go_roundw
              case rel => exact ⟨k + 1, k, by omega, by go_num, rfl, K'.out, _, rfl⟩
              case measure => simp [intOf]; omega
            · have K' := Lib.hid (K.2 hyz)
              have hdz : Op.bytesLess y z = false := by rw [Go.Proofs.bytesLess_eq]; exact decide_eq_false hyz
              clear hyz
              clear K
              go_wp2
              go_quiet (fail)
              go_wp2
              go_quiet (fail)
              go_wp2
              go_roundw
              case rel => exact ⟨k + 1, j, by omega, by go_num, rfl, K'.out, _, rfl⟩
              case measure => simp [intOf]; omega
        · have hz : ((n : Int) == 0) = false := by simp [hn0]
          have hpo : ∀ w', (Instr.indexAt 35 u3 (.int .i64 ((n : Int) - 1))).run Try.prog w' = .ok (.pointer (some ⟨ob, ooff + (n - 1), none⟩)) w' := by
            have := hoidx (n - 1) (by omega)
            rwa [show ((n - 1 : Nat) : Int) = (n : Int) - 1 from by omega] at this
          have hco := (hoc (n - 1) (by omega)).2
          obtain ⟨t, ht⟩ : ∃ t, ((sasc L).take n).getD (n - 1) [] = t := ⟨_, rfl⟩
          rw [ht] at hco
          rw [enc_bstr] at hco
          have hB : y ∉ (sasc L).take n ↔ t < y := by
            have hml : n - 1 < (sasc L).length := by omega
            have e : (sasc L)[n - 1] = t := by rw [← ht]; simp [List.getD_eq_getElem?_getD, show n - 1 < n from by omega, hml]
            have := sbehind_iff L (n - 1) hml y (by rw [← HY.out]; exact List.getElem_mem hlt)
            rwa [show n - 1 + 1 = n from by omega, e] at this
          have hn1 : 1 ≤ n := by omega
          clear hoidx hoc hn0 ht
          by_cases hty : t < y
          · obtain ⟨_, K0, K1, K2⟩ := KEY.out true (fun _ => hB.2 hty) (by simp)
            have hd : Op.bytesLess y t = false := by rw [Go.Proofs.bytesLess_eq]; exact decide_eq_false (fun k => slt_asymm hty k)
            have hd' : (y == t) = false := by rw [beq_eq_false_iff_ne]; rintro rfl; exact slt_irrefl _ hty
            clear hty
            clear K0 KEY hB
            rcases hcx with rfl | ⟨j, rfl, hj⟩
            · have K := Lib.hid (K1 rfl rfl)
              clear hc K1 K2 hidx
              go_wp2
              go_quiet (fail)
              go_wp2
              go_quiet (fail)
              go_wp2
              go_roundw
              case rel => exact ⟨k + 1, k, by omega, by go_num, rfl, K.out, _, rfl⟩
              case measure => simp [intOf]; omega
            · have hpj := hidx j hj
              have hcj := (hbel.cell (p := ⟨b, off + j, none⟩) (hc j hj).1).trans (hc j hj).2
              obtain ⟨z, hzj⟩ : ∃ z, L.getD j [] = z := ⟨_, rfl⟩
              rw [hzj] at hcj
              rw [enc_bstr] at hcj
              have K := K2 rfl j rfl
              rw [hzj] at K
              have hj0 : ¬ (j : Int) < 0 := by omega
              clear hc K1 K2 hidx hzj
              by_cases hyz : y < z
              · have K' := Lib.hid (K.1 hyz)
                have hdz : Op.bytesLess y z = true := by rw [Go.Proofs.bytesLess_eq]; exact decide_eq_true hyz
                clear hyz
                clear K
                go_wp2
                go_quiet (fail)
                go_wp2
                go_quiet (fail)
                go_wp2
                go_roundw
                case rel => exact ⟨k + 1, k, by omega, by go_num, rfl, K'.out, _, rfl⟩
                case measure => simp [intOf]; omega
              · have K' := Lib.hid (K.2 hyz)
                have hdz : Op.bytesLess y z = false := by rw [Go.Proofs.bytesLess_eq]; exact decide_eq_false hyz
                clear hyz
                clear K
                go_wp2
                go_quiet (fail)
                go_wp2
                go_quiet (fail)
                go_wp2
                go_roundw
                case rel => exact ⟨k + 1, j, by omega, by go_num, rfl, K'.out, _, rfl⟩
                case measure => simp [intOf]; omega
          · obtain ⟨_, K0, K1, K2⟩ := KEY.out false (by simp) (fun _ => by
              by_cases hm : y ∈ (sasc L).take n
              · exact hm
              · exact absurd (hB.1 hm) hty)
            have K := Lib.hid (K0 rfl).2
            have hd : Op.bytesLess y t = true ∨ (Op.bytesLess y t = false ∧ (y == t) = true) := by
              rcases slt_or y t with h | h | h
              · exact .inl (by rw [Go.Proofs.bytesLess_eq]; exact decide_eq_true h)
              · exact .inr ⟨by rw [Go.Proofs.bytesLess_eq]; subst h; exact decide_eq_false (slt_irrefl _), by simpa using h⟩
              · exact absurd h hty
            clear hty
            clear K0 K1 K2 KEY hB hc hidx hcx
            rcases hd with hd | ⟨hd, hd'⟩
            · go_wp2
              go_quiet (fail)
              go_wp2
              go_quiet (fail)
              go_wp2
              go_roundw
              case rel => exact ⟨k + 1, x, by omega, by go_num, rfl, K.out, _, rfl⟩
              case measure => simp [intOf]; omega
            · go_wp2
              go_quiet (fail)
              go_wp2
              go_quiet (fail)
              go_wp2
              go_roundw
              case rel => exact ⟨k + 1, x, by omega, by go_num, rfl, K.out, _, rfl⟩
              case measure => simp [intOf]; omega
      · obtain rfl : k = L.length := by omega
        have hcx := sfound_cases hf
        clear hlt
        rcases hcx with rfl | ⟨j, rfl, hj⟩
        · have hE := Lib.hid (sfound_none hn hf)
          clear hf HF hidx hc hoidx hoc
          go_wp2
          go_ret
          refine ⟨_, rfl, ?_, ?_, Lies.own HO.out⟩
          · have := HO.out
            rw [hE.out, List.take_length] at this
            exact (Strs.own this (by omega) (fun x hx => HWF.out x ((sasc_mem L x).1 hx))).draws d
          · exact below_draws _ hbel d
        · obtain ⟨hlt, hE⟩ := sfound_next hn hf hj
          have hpj := hidx j hj
          have hcj := (hbel.cell (p := ⟨b, off + j, none⟩) (hc j hj).1).trans (hc j hj).2
          have hj0 : ¬ (j : Int) < 0 := by omega
          obtain ⟨z, hz⟩ : ∃ z, (sasc L)[n] = z := ⟨_, rfl⟩
          have hzj : L.getD j [] = z := by rw [← hz, ← hE]; simp [List.getD_eq_getElem?_getD, hj]
          rw [hzj] at hcj
          rw [enc_bstr] at hcj
          have HS := Lib.hid (show (sasc L).take (n + 1) = (sasc L).take n ++ [z] from by rw [take_snoc _ n hlt, hz])
          have hownD : (wo.drewN d).ownsRow w.heap.size 25 1 u3 ((sasc L).take n).length (((sasc L).take n).map (encStr)) := HO.out
          have hbelD := below_draws _ hbel d
          have hs0 := hbelD.size
          have hL3 : ((sasc L).take n).length + 1 ≤ maxLen := by rw [htl]; unfold maxLen; omega
          have hL4 : (((sasc L).take n).length + 1) * 16 ≤ 140737488355328 := by rw [htl]; omega
          clear hf HF hidx hc hoidx hoc hE hzj hz hom
          go_wp2_with (at_builtin; refine wpList_append_own _ rfl _ _ 35 rfl w.heap.size 25 i0 (.string ⟨#[]⟩) 1 16 Try.underlying35 hi hz0 hz1 hz2 rfl (by decide) u3 _ _ rfl (hownD.alloc _) ⟨(wo.drewN d).heap.size, 0, none⟩ 1 1 [.string (bstr z)] rfl rfl (cell_one_new _ _ _) (ones_str z) hL3 hL4 (by simp at hs0 ⊢; omega) ?_; intro v' w2 hown2 hg2 _)
          go_roundw
          case rel =>
            refine ⟨n + 1, hlt, ?_, below_own ((hbelD.alloc hs0 _)) (hownD.alloc _) (Nat.le_refl _) (by simp at hs0 ⊢; omega) hg2⟩
            rw [HS.out, List.length_append, List.map_append]
            rw [← enc_bstr] at hown2
            exact hown2
          case measure =>
            have e1 := own_len hown2
            have e2 := own_len hownD
            rw [e1, e2, htl]
            omega
end Go.Proofs.Ytkphgonbbhlnfaa
