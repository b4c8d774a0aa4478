/- Texts joined into one file: StrRising, StrRise, Boxes. -/
import Derived.Test.YtfloipdkhmgibaaS02
import Derived.Sort.Walk0
import Derived.LoopN
import Derived.Test.YtfloipdkhmgibaaS01

/- siphonref11.Rising, for every slice of strings: it hands back the rising list of its strings. -/
namespace Go.Proofs.Ytfloipdkhmgibaa
open Go.RowKit Go.Sort
set_option maxRecDepth 20000

def lenOf : Value → Nat
  | .slice _ n _ => n
  | _ => 0

theorem own_len {w : World} {base : Nat} {e : TypeId} {size : Nat} {v : Value} {n : Nat} {xs : List Value} (h : w.ownsRow base e size v n xs) : lenOf v = n := by
  rcases h.2 with ⟨rfl, rfl⟩ | ⟨g, cap, cur, rfl, _⟩ <;> rfl

/-- a call that hands back a slice of the strings L, and writes nothing that was there -/
def RetStrs (w : World) (L : List Str) (e : Ending) (w' : World) : Prop := ∃ v, e = .returned v ∧ Strs w' v L ∧ Below w.heap.size w w' ∧ Lies w.heap.size v

theorem slen_asc {L : List Str} (h : ∀ x ∈ L, x.length ≤ maxLen) (n : Nat) : ∀ x ∈ (sasc L).take n, x.length ≤ maxLen :=
  fun x hx => h x ((sasc_mem L x).1 (List.mem_of_mem_take hx))

theorem infoAddr : (Try.prog.info? 44).map (fun i => (i.zero, i.size, i.bytes)) = some (some (.string ⟨#[]⟩), 1, 16) := by kernel_rfl

theorem ones_str (x : Str) : ∀ u ∈ [Value.string (bstr x)], u.oneCell' = true := by simp [Value.oneCell']

set_option maxRecDepth 20000 in
set_option maxHeartbeats 4000000 in
theorem srising_any (v : Value) (L : List Str) (w : World) (h : Strs w v L) :
    Calls Try.prog 61 #[v] w (RetStrs w (sasc L)) := by
  obtain ⟨b, off, hm, hlen, hidx, hc⟩ := h.facts
  have HWF := Lib.hid h.len
  have hbt := bstr_toList
  clear h
  obtain ⟨i0, hi, hz0, hz1, hz2⟩ := info_parts infoAddr
  have hal := sasc_length L
  go_enter Try.func61, Try.ntmps61
  go_wp2
  go_loopw [3] (fun o wr => ∃ n, n ≤ (sasc L).length ∧ wr.ownsRow w.heap.size 44 1 o ((sasc L).take n).length (((sasc L).take n).map (encStr)) ∧ Below w.heap.size w wr) (fun o _ => L.length + 1 - lenOf o)
  case atStart => exact ⟨0, Nat.zero_le _, by simpa using World.ownsRow_nil _ _ _ _, Below.refl _ _⟩
  case round =>
    obtain ⟨n, hn, hown, hbel⟩ := hrel
    obtain ⟨wo, rfl⟩ : ∃ wo : World, wo = wr := ⟨_, rfl⟩
    have htl : ((sasc L).take n).length = n := by rw [List.length_take]; omega
    obtain ⟨ob, ooff, hom, holen, hoidx, hoc⟩ := (Strs.own hown (by omega) (slen_asc HWF.out n)).facts
    rw [htl] at holen hoidx hoc
    have HO := Lib.hid hown
    clear hown
    have hnl : n ≤ L.length := by omega
    go_wp2
    go_loopw [4, 5] (fun nx i wr => ∃ k : Nat, ∃ x : Int, k ≤ L.length ∧ i = .int .i64 k ∧ nx = .int .i64 x ∧ SFound L n k x ∧ ∃ d, wr = wo.drewN d) (fun _ i _ => L.length - (intOf i).toNat)
    case atStart => exact ⟨0, -1, Nat.zero_le _, rfl, rfl, sfound_start L n, 0, rfl⟩
    case round =>
      obtain ⟨k, x, hk, rfl, rfl, hf, d, rfl⟩ := hrel
      have HF := Lib.hid hf
      by_cases hlt : k < L.length
      · have hp := hidx k hlt
        have hcell := (hbel.cell (p := ⟨b, off + k, none⟩) (hc k hlt).1).trans (hc k hlt).2
        have hcx := sfound_cases hf
        obtain ⟨y, hy⟩ : ∃ y, L[k] = y := ⟨_, rfl⟩
        rw [show L.getD k [] = y from by rw [← hy]; simp [List.getD_eq_getElem?_getD, hlt]] at hcell
        rw [enc_bstr] at hcell
        have HY := Lib.hid hy
        -- does y stand behind?
        have key : ∀ (bh : Bool), (bh = true → y ∉ (sasc L).take n) → (bh = false → y ∈ (sasc L).take n) → ∃ x', (bh = false → x' = x ∧ SFound L n (k + 1) x) ∧ (bh = true → x = -1 → SFound L n (k + 1) k) ∧ (bh = true → ∀ j : Nat, x = j → (y < L.getD j [] → SFound L n (k + 1) k) ∧ (¬ y < L.getD j [] → SFound L n (k + 1) j)) := by
          intro bh hb1 hb2
          refine ⟨x, fun h => ⟨rfl, sfound_seen hf hlt (by rw [hy]; exact hb2 h)⟩, fun h hx => ?_, fun h j hx => ⟨fun hl => ?_, fun hl => ?_⟩⟩
          · subst hx; exact sfound_first hf hlt (by rw [hy]; exact hb1 h)
          · subst hx
            have hj := sfound_lt hf
            exact sfound_less hf hlt hj (by rw [hy]; exact hb1 h) (by rw [hy]; simpa [List.getD_eq_getElem?_getD, hj] using hl)
          · subst hx
            have hj := sfound_lt hf
            exact sfound_more hf hlt hj (by rw [hy]; simpa [List.getD_eq_getElem?_getD, hj] using hl)
        have KEY := Lib.hid key
        clear key hf hy
        by_cases hn0 : n = 0
        · have hz : ((n : Int) == 0) = true := by simp [hn0]
          obtain ⟨_, K0, K1, K2⟩ := KEY.out true (by simp [hn0]) (by simp)
          clear K0 KEY hn0 hoidx hoc
          rcases hcx with rfl | ⟨j, rfl, hj⟩
          · have K := Lib.hid (K1 rfl rfl)
            clear hc K1 K2 hidx
            go_wp2
            go_quiet (fail)
            go_wp2
            go_quiet (fail)
            go_wp2
            go_roundw
            case rel => exact ⟨k + 1, k, by omega, by go_num, rfl, K.out, _, rfl⟩
            case measure => simp [intOf]; omega
          · have hpj := hidx j hj
            have hcj := (hbel.cell (p := ⟨b, off + j, none⟩) (hc j hj).1).trans (hc j hj).2
            obtain ⟨z, hzj⟩ : ∃ z, L.getD j [] = z := ⟨_, rfl⟩
            rw [hzj] at hcj
            rw [enc_bstr] at hcj
            have K := K2 rfl j rfl
            rw [hzj] at K
            have hj0 : ¬ (j : Int) < 0 := by omega
            clear hc K1 K2 hidx hzj
            by_cases hyz : y < z
            · have K' := Lib.hid (K.1 hyz)
              have hdz : Op.bytesLess y z = true := by rw [Go.Proofs.bytesLess_eq]; exact decide_eq_true hyz
              clear hyz
              clear K
              go_wp2
              go_quiet (fail)
              go_wp2
              go_quiet (fail)
              go_wp2
              go_roundw
              case rel => exact ⟨k + 1, k, by omega, by go_num, rfl, K'.out, _, rfl⟩
              case measure => simp [intOf]; omega
            · have K' := Lib.hid (K.2 hyz)
              have hdz : Op.bytesLess y z = false := by rw [Go.Proofs.bytesLess_eq]; exact decide_eq_false hyz
              clear hyz
              clear K
              go_wp2
              go_quiet (fail)
              go_wp2
              go_quiet (fail)
              go_wp2
              go_roundw
              case rel => exact ⟨k + 1, j, by omega, by go_num, rfl, K'.out, _, rfl⟩
              case measure => simp [intOf]; omega
        · have hz : ((n : Int) == 0) = false := by simp [hn0]
          have hpo : ∀ w', (Instr.indexAt 26 u3 (.int .i64 ((n : Int) - 1))).run Try.prog w' = .ok (.pointer (some ⟨ob, ooff + (n - 1), none⟩)) w' := by
            have := hoidx (n - 1) (by omega)
            rwa [show ((n - 1 : Nat) : Int) = (n : Int) - 1 from by omega] at this
          have hco := (hoc (n - 1) (by omega)).2
          obtain ⟨t, ht⟩ : ∃ t, ((sasc L).take n).getD (n - 1) [] = t := ⟨_, rfl⟩
          rw [ht] at hco
          rw [enc_bstr] at hco
          have hB : y ∉ (sasc L).take n ↔ t < y := by
            have hml : n - 1 < (sasc L).length := by omega
            have e : (sasc L)[n - 1] = t := by rw [← ht]; simp [List.getD_eq_getElem?_getD, show n - 1 < n from by omega, hml]
            have := sbehind_iff L (n - 1) hml y (by rw [← HY.out]; exact List.getElem_mem hlt)
            rwa [show n - 1 + 1 = n from by omega, e] at this
          have hn1 : 1 ≤ n := by omega
          clear hoidx hoc hn0 ht
          by_cases hty : t < y
          · obtain ⟨_, K0, K1, K2⟩ := KEY.out true (fun _ => hB.2 hty) (by simp)
            have hd : Op.bytesLess y t = false := by rw [Go.Proofs.bytesLess_eq]; exact decide_eq_false (fun k => slt_asymm hty k)
            have hd' : (y == t) = false := by rw [beq_eq_false_iff_ne]; rintro rfl; exact slt_irrefl _ hty
            clear hty
            clear K0 KEY hB
            rcases hcx with rfl | ⟨j, rfl, hj⟩
            · have K := Lib.hid (K1 rfl rfl)
              clear hc K1 K2 hidx
              go_wp2
              go_quiet (fail)
              go_wp2
              go_quiet (fail)
              go_wp2
              go_roundw
              case rel => exact ⟨k + 1, k, by omega, by go_num, rfl, K.out, _, rfl⟩
              case measure => simp [intOf]; omega
            · have hpj := hidx j hj
              have hcj := (hbel.cell (p := ⟨b, off + j, none⟩) (hc j hj).1).trans (hc j hj).2
              obtain ⟨z, hzj⟩ : ∃ z, L.getD j [] = z := ⟨_, rfl⟩
              rw [hzj] at hcj
              rw [enc_bstr] at hcj
              have K := K2 rfl j rfl
              rw [hzj] at K
              have hj0 : ¬ (j : Int) < 0 := by omega
              clear hc K1 K2 hidx hzj
              by_cases hyz : y < z
              · have K' := Lib.hid (K.1 hyz)
                have hdz : Op.bytesLess y z = true := by rw [Go.Proofs.bytesLess_eq]; exact decide_eq_true hyz
                clear hyz
                clear K
                go_wp2
                go_quiet (fail)
                go_wp2
                go_quiet (fail)
                go_wp2
                go_roundw
                case rel => exact ⟨k + 1, k, by omega, by go_num, rfl, K'.out, _, rfl⟩
                case measure => simp [intOf]; omega
              · have K' := Lib.hid (K.2 hyz)
                have hdz : Op.bytesLess y z = false := by rw [Go.Proofs.bytesLess_eq]; exact decide_eq_false hyz
                clear hyz
                clear K
                go_wp2
                go_quiet (fail)
                go_wp2
                go_quiet (fail)
                go_wp2
                go_roundw
                case rel => exact ⟨k + 1, j, by omega, by go_num, rfl, K'.out, _, rfl⟩
                case measure => simp [intOf]; omega
          · obtain ⟨_, K0, K1, K2⟩ := KEY.out false (by simp) (fun _ => by
              by_cases hm : y ∈ (sasc L).take n
              · exact hm
              · exact absurd (hB.1 hm) hty)
            have K := Lib.hid (K0 rfl).2
            have hd : Op.bytesLess y t = true ∨ (Op.bytesLess y t = false ∧ (y == t) = true) := by
              rcases slt_or y t with h | h | h
              · exact .inl (by rw [Go.Proofs.bytesLess_eq]; exact decide_eq_true h)
              · exact .inr ⟨by rw [Go.Proofs.bytesLess_eq]; subst h; exact decide_eq_false (slt_irrefl _), by simpa using h⟩
              · exact absurd h hty
            clear hty
            clear K0 K1 K2 KEY hB hc hidx hcx
            rcases hd with hd | ⟨hd, hd'⟩
            · go_wp2
              go_quiet (fail)
              go_wp2
              go_quiet (fail)
              go_wp2
              go_roundw
              case rel => exact ⟨k + 1, x, by omega, by go_num, rfl, K.out, _, rfl⟩
              case measure => simp [intOf]; omega
            · go_wp2
              go_quiet (fail)
              go_wp2
              go_quiet (fail)
              go_wp2
              go_roundw
              case rel => exact ⟨k + 1, x, by omega, by go_num, rfl, K.out, _, rfl⟩
              case measure => simp [intOf]; omega
      · obtain rfl : k = L.length := by omega
        have hcx := sfound_cases hf
        clear hlt
        rcases hcx with rfl | ⟨j, rfl, hj⟩
        · have hE := Lib.hid (sfound_none hn hf)
          clear hf HF hidx hc hoidx hoc
          go_wp2
          go_ret
          refine ⟨_, rfl, ?_, ?_, Lies.own HO.out⟩
          · have := HO.out
            rw [hE.out, List.take_length] at this
            exact (Strs.own this (by omega) (fun x hx => HWF.out x ((sasc_mem L x).1 hx))).draws d
          · exact below_draws _ hbel d
        · obtain ⟨hlt, hE⟩ := sfound_next hn hf hj
          have hpj := hidx j hj
          have hcj := (hbel.cell (p := ⟨b, off + j, none⟩) (hc j hj).1).trans (hc j hj).2
          have hj0 : ¬ (j : Int) < 0 := by omega
          obtain ⟨z, hz⟩ : ∃ z, (sasc L)[n] = z := ⟨_, rfl⟩
          have hzj : L.getD j [] = z := by rw [← hz, ← hE]; simp [List.getD_eq_getElem?_getD, hj]
          rw [hzj] at hcj
          rw [enc_bstr] at hcj
          have HS := Lib.hid (show (sasc L).take (n + 1) = (sasc L).take n ++ [z] from by rw [take_snoc _ n hlt, hz])
          have hownD : (wo.drewN d).ownsRow w.heap.size 44 1 u3 ((sasc L).take n).length (((sasc L).take n).map (encStr)) := HO.out
          have hbelD := below_draws _ hbel d
          have hs0 := hbelD.size
          have hL3 : ((sasc L).take n).length + 1 ≤ maxLen := by rw [htl]; unfold maxLen; omega
          have hL4 : (((sasc L).take n).length + 1) * 16 ≤ 140737488355328 := by rw [htl]; omega
          clear hf HF hidx hc hoidx hoc hE hzj hz hom
          go_wp2_with (at_builtin; refine wpList_append_own _ rfl _ _ 26 rfl w.heap.size 44 i0 (.string ⟨#[]⟩) 1 16 Try.underlying26 hi hz0 hz1 hz2 rfl (by decide) u3 _ _ rfl (hownD.alloc _) ⟨(wo.drewN d).heap.size, 0, none⟩ 1 1 [.string (bstr z)] rfl rfl (cell_one_new _ _ _) (ones_str z) hL3 hL4 (by simp at hs0 ⊢; omega) ?_; intro v' w2 hown2 hg2 _)
          go_roundw
          case rel =>
            refine ⟨n + 1, hlt, ?_, below_own ((hbelD.alloc hs0 _)) (hownD.alloc _) (Nat.le_refl _) (by simp at hs0 ⊢; omega) hg2⟩
            rw [HS.out, List.length_append, List.map_append]
            rw [← enc_bstr] at hown2
            exact hown2
          case measure =>
            have e1 := own_len hown2
            have e2 := own_len hownD
            rw [e1, e2, htl]
            omega
end Go.Proofs.Ytfloipdkhmgibaa

/- slices.Concat of two slices of strings, and filter.rising: the rising list of those of both that may stay. -/
namespace Go.Proofs.Ytfloipdkhmgibaa
open Go.RowKit Go.Lib Go.Sort
set_option maxRecDepth 20000

/-- the cells of a new block read as they were laid, in every world that has kept what was there -/
theorem box_cell {w w' : World} {c : Array Value} {t : TypeId} (hb : Below (w.alloc (.cells c t)).heap.size (w.alloc (.cells c t)) w') (j : Nat) (v : Value) (hj : c[j]? = some v) : w'.cell? ⟨w.heap.size, j, none⟩ = some v := by
  rw [hb.cell (p := ⟨w.heap.size, j, none⟩) (by simp)]
  rw [cell_of_row _ w.heap.size j c t (0, 0) (heap_alloc_new w _)]
  exact hj

theorem box_below {w w' : World} {o : Obj} (hb : Below (w.alloc o).heap.size (w.alloc o) w') : Below w.heap.size w w' :=
  ((Below.refl _ _).alloc (Nat.le_refl _) o).trans (hb.mono (by simp))

theorem own_below {w w' : World} {base : Nat} {e : TypeId} {size : Nat} {v : Value} {n : Nat} {xs : List Value} (h : w.ownsRow base e size v n xs) (hb : Below w.heap.size w w') : w'.ownsRow base e size v n xs :=
  h.kept (row := none) ⟨hb.os, hb.tape, hb.output, hb.size, fun k hk _ => hb.block k hk⟩ (by cases v.ownBlock <;> simp)

theorem sgrow_any (n : Nat) (x : Int) (hx : x = n) (w : World) (hn : n ≤ 8796093022208) :
    Calls Try.prog 80 #[.slice none 0 0, .int .i64 x] w fun e w' => ∃ v, e = .returned v ∧ w'.ownsRow w.heap.size 44 1 v 0 [] ∧ Below w.heap.size w w' := by
  subst hx
  by_cases hz : n = 0
  · subst hz
    exact (Try.slices_Grow_addr_none w).mono fun e w' h => ⟨_, h.1, by rw [h.2]; exact World.ownsRow_nil _ _ _ _, by rw [h.2]; exact Below.refl _ _⟩
  · obtain ⟨i0, hi, hz0, hz1, hz2⟩ := info_parts infoAddr
    refine (Try.slices_Grow_addr i0 _ hi hz0 (by rw [hz1]; omega) n w (by omega) (by rw [hz2]; omega) (by omega)).mono fun e w' h => ⟨_, h.1, ?_, ?_⟩
    · rw [h.2]
      have hge := grownCap_ge w n 0 44
      have hle := grownCap_le_maxLen w n 0 44 (by unfold maxLen; omega)
      simp only [Nat.zero_add, Nat.sub_zero]
      refine ⟨by simp, .inr ⟨w.heap.size, _, _, rfl, Nat.le_refl _, heap_alloc_new w.drew _, by omega, hle, ?_, by simp⟩⟩
      have hzc : ∀ k, (Builtin.zeroCells (Value.string ⟨#[]⟩).cells k).size = k := fun k => by simp [Builtin.zeroCells, Value.cells]
      simp only [Array.size_append, hzc]
      simp
      omega
    · rw [h.2]
      exact (Below.refl _ w).drew.alloc (by simp) _

set_option maxHeartbeats 1000000 in
theorem sconcat_any (b : Nat) (v u : Value) (A B : List Str) (w : World) (hv : Strs w v A) (hu : Strs w u B) (hb : b < w.heap.size) (h0 : w.cell? ⟨b, 0, none⟩ = some v) (h1 : w.cell? ⟨b, 1, none⟩ = some u) (hl : A.length + B.length ≤ 8796093022208) :
    Calls Try.prog 68 #[.slice (some ⟨b, 0, none⟩) 2 2] w (RetStrs w (A ++ B)) := by
  obtain ⟨_, _, _, hlenA, _, _⟩ := hv.facts
  obtain ⟨_, _, _, hlenB, _, _⟩ := hu.facts
  obtain ⟨i0, hi, hz0, hz1, hz2⟩ := info_parts infoAddr
  have HA := Lib.hid hv; have HB := Lib.hid hu; clear hv hu
  have HC := Lib.hid (And.intro h0 h1)
  go_enter Try.func68, Try.ntmps68
  go_wp2
  refine wp_loop_rounds 3 ?_
  rw [rounds_succ]
  go_wp2
  rw [rounds_succ]
  go_wp2
  rw [rounds_succ]
  go_wp2_with ((with_reducible refine (sgrow_any (A.length + B.length) _ (by omega) _ hl).mono ?_); rintro e w1 ⟨v0, rfl, hown, hbel⟩)
  have hs1 := hbel.size
  have c0 := (hbel.cell (p := ⟨b, 0, none⟩) hb).trans HC.out.1
  have c1 := (hbel.cell (p := ⟨b, 1, none⟩) hb).trans HC.out.2
  have HA1 := Lib.hid (HA.out.mono hbel); have HB1 := Lib.hid (HB.out.mono hbel)
  have HO := Lib.hid hown; have HBL := Lib.hid hbel
  clear h0 h1 hown hbel
  refine wp_loop_rounds 3 ?_
  rw [rounds_succ]
  go_wp2_with (at_builtin; refine wpList_append_vals _ rfl _ _ 26 rfl w.heap.size 44 i0 (.string ⟨#[]⟩) 1 16 Try.underlying26 hi hz0 hz1 hz2 rfl (by decide) _ _ _ rfl HO.out v A.length (A.map encStr) rfl HA1.out.sliceOf (by unfold maxLen; omega) (by omega) hs1 ?_; intro v1 w2 hown2 hg2 _)
  have hb2 := below_own HBL.out HO.out (Nat.le_refl _) hs1 hg2
  have hs2 := hb2.size
  have d1 := (hb2.cell (p := ⟨b, 1, none⟩) hb).trans HC.out.2
  have HB2 := Lib.hid (HB.out.mono hb2)
  have HO2 := Lib.hid hown2; have HBL2 := Lib.hid hb2
  clear c0 c1 hown2 hg2 hb2
  rw [rounds_succ]
  go_wp2_with (at_builtin; refine wpList_append_vals _ rfl _ _ 26 rfl w.heap.size 44 i0 (.string ⟨#[]⟩) 1 16 Try.underlying26 hi hz0 hz1 hz2 rfl (by decide) _ _ _ rfl HO2.out u B.length (B.map encStr) rfl HB2.out.sliceOf (by unfold maxLen; omega) (by omega) hs2 ?_; intro v2 w3 hown3 hg3 _)
  have HB3 := Lib.hid (below_own HBL2.out HO2.out (Nat.le_refl _) hs2 hg3)
  have HO3 := Lib.hid hown3
  clear d1 hown3 hg3
  rw [rounds_succ]
  go_wp2
  go_ret
  refine ⟨_, rfl, Strs.own (base := w.heap.size) (e := 44) ?_ (by simp; omega) ?_, HB3.out, Lies.own HO3.out⟩
  · have := HO3.out
    simpa using this
  · intro x hx
    rcases List.mem_append.1 hx with hx | hx
    · exact HA.out.len x hx
    · exact HB.out.len x hx

set_option maxHeartbeats 2000000 in
theorem srise_any (v u : Value) (A B : List Str) (f : Nat) (lb : Array Value) (p : Str → Bool) (w : World) (hv : Strs w v A) (hu : Strs w u B) (hl : A.length + B.length ≤ 8796093022200) (hcf : ∀ args w', (callFunc f args).run Try.prog w' = .ok (.enter f args) w')
    (hf : ∀ x W, Below w.heap.size w W → Calls Try.prog f (#[.string (bstr x)] ++ lb) W fun e W' => e = .returned (.bool (p x)) ∧ Below W.heap.size W W') :
    Calls Try.prog 46 #[v, u, .func (.func f) #[] lb] w (RetStrs w (sasc ((A ++ B).filter p))) := by
  obtain ⟨ao, cap, rfl⟩ := hv.shape
  obtain ⟨bo, bcap, rfl⟩ := hu.shape
  have hba : Below w.heap.size w (w.alloc (.cells #[.slice ao A.length cap, .slice bo B.length bcap] 26)) := (Below.refl _ _).alloc (Nat.le_refl _) _
  have HC := Lib.hid (sconcat_any w.heap.size _ _ A B _ (hv.mono hba) (hu.mono hba) (by simp) (cell_of_row _ w.heap.size 0 _ _ (0, 0) (heap_alloc_new w _)) (cell_of_row _ w.heap.size 1 _ _ (0, 0) (heap_alloc_new w _)) (by omega))
  have HW := Lib.hid (show ∀ x ∈ A ++ B, x.length ≤ maxLen from fun x hx => (List.mem_append.1 hx).elim (hv.len x) (hu.len x))
  have HF := Lib.hid hf
  have HBA := Lib.hid hba
  obtain ⟨i0, hi, hz0, hz1, hz2⟩ := info_parts infoAddr
  clear hv hu hf hba
  generalize A ++ B = C at *
  go_enter Try.func46, Try.ntmps46
  go_wp2_with ((with_reducible refine HC.out.mono ?_); rintro e w1 ⟨o, rfl, hC, hb1, _⟩; obtain ⟨bb, off, hm, hlen, hidx, hcell⟩ := hC.facts)
  have HB1 := Lib.hid (box_below hb1)
  clear hb1 hC HC HBA
  go_loopw [7, 15] (fun l i wr => ∃ k : Nat, k ≤ C.length ∧ i = .int .i64 k ∧ wr.ownsRow w1.heap.size 44 1 l ((C.take k).filter p).length (((C.take k).filter p).map encStr) ∧ Below w1.heap.size w1 wr) (fun _ i _ => C.length - (intOf i).toNat)
  case atStart => exact ⟨0, Nat.zero_le _, rfl, World.ownsRow_nil _ _ _ _, Below.refl _ _⟩
  case round =>
    obtain ⟨k, hk, rfl, hown, hbel⟩ := hrel
    by_cases hlt : k < C.length
    · have hp := hidx k hlt
      have hce := (hbel.cell (p := ⟨bb, off + k, none⟩) (hcell k hlt).1).trans (hcell k hlt).2
      obtain ⟨x, hx⟩ : ∃ x, x = C.getD k [] := ⟨_, rfl⟩
      rw [← hx, enc_bstr] at hce
      have hxk : C[k] = x := by rw [hx]; simp [List.getD_eq_getElem?_getD, hlt]
      have HT := Lib.hid (show (C.take (k + 1)).filter p = (C.take k).filter p ++ (if p x then [x] else []) by
        rw [take_snoc C k hlt, hxk, List.filter_append, List.filter_cons, List.filter_nil])
      have hfl : ((C.take k).filter p).length ≤ k := Nat.le_trans (List.length_filter_le _ _) (by simp; omega)
      have HX := Lib.hid (HF.out x wr (HB1.out.trans (hbel.mono HB1.out.size)))
      clear hidx hcell hx hxk
      cases hpx : p x
      · rw [hpx] at HX HT
        have HE := Lib.hid (show (C.take (k + 1)).filter p = (C.take k).filter p by rw [HT.out]; simp)
        clear hpx HT
        go_wp2_with ((with_reducible refine HX.out.mono ?_); rintro e w2 ⟨rfl, hb2⟩)
        go_roundw
        case rel => exact ⟨k + 1, by omega, by go_num, by rw [HE.out]; exact own_below hown hb2, hbel.trans (hb2.mono hbel.size)⟩
        case measure => simp [intOf]; omega
      · rw [hpx] at HX HT
        have HE := Lib.hid (show (C.take (k + 1)).filter p = (C.take k).filter p ++ [x] by rw [HT.out]; simp)
        clear hpx HT
        have hc3 : ((C.take k).filter p).length + 1 ≤ maxLen := by unfold maxLen; omega
        have hc4 : (((C.take k).filter p).length + 1) * 16 ≤ 140737488355328 := by omega
        have HO := Lib.hid hown
        clear hown hfl
        go_wp2_with (first | (at_builtin; refine wpList_append_own _ rfl _ _ 26 rfl w1.heap.size 44 i0 (.string ⟨#[]⟩) 1 16 Try.underlying26 hi hz0 hz1 hz2 rfl (by decide) _ _ _ rfl ((own_below HO.out hb2).alloc _) ⟨w2.heap.size, 0, none⟩ 1 1 [.string (bstr x)] rfl rfl (cell_one_new _ _ _) (ones_str x) hc3 hc4 (by have h1 := hbel.size; have h2 := hb2.size; simp; omega) ?_; intro v' w3 hown3 hg3 _) | ((with_reducible refine HX.out.mono ?_); rintro e w2 ⟨rfl, hb2⟩))
        go_roundw
        case rel =>
          have hb12 := hbel.trans (hb2.mono hbel.size)
          have ho2 := own_below HO.out hb2
          refine ⟨k + 1, by omega, by go_num, ?_, below_own (hb12.alloc hb12.size _) (ho2.alloc _) (Nat.le_refl _) (by have := hb12.size; simp; omega) hg3⟩
          rw [HE.out, List.length_append, List.map_append]
          rw [← enc_bstr] at hown3
          exact hown3
        case measure => simp [intOf]; omega
    · have HL := Lib.hid (show C.take k = C from List.take_of_length_le (by omega))
      rw [HL.out] at hown
      have hfl : (C.filter p).length ≤ C.length := List.length_filter_le _ _
      have HS := Lib.hid (ssorted_compact hown (by omega) (fun x hx => HW.out x (List.mem_filter.1 hx).1))
      have HO := Lib.hid hown
      clear hidx hcell hown HL
      go_wp2_with (first | ((with_reducible refine HS.out.mono ?_); rintro e w2 ⟨rfl, hc2⟩; have HC2 := Lib.hid hc2; clear hc2) | ((with_reducible refine HC2.out.mono ?_); rintro e w3 ⟨o3, rfl, hs3, hg3, ho3⟩))
      go_ret
      exact ⟨_, rfl, hs3, HB1.out.trans ((below_own hbel HO.out (Nat.le_refl _) hbel.size hg3).mono HB1.out.size), fun b hb => Nat.le_trans HB1.out.size ((Lies.own HO.out) b (ho3 ▸ hb))⟩
end Go.Proofs.Ytfloipdkhmgibaa

/- Blocks of cells, whole ('CBox'): what keeps them, what turns them. -/
namespace Go.Proofs.Ytfloipdkhmgibaa
open Go.RowKit
set_option maxRecDepth 20000

/-- block b is cells of type T that read as cs -/
def CBox (w : World) (b : Nat) (T : TypeId) (cs : Array Value) : Prop := w.heap[b]? = some (.cells cs T (0, 0))
section
variable {w w' : World} {b B : Nat} {T : TypeId} {cs : Array Value}
theorem CBox.lt (h : CBox w b T cs) : b < w.heap.size := (Array.getElem?_eq_some_iff.1 h).1
theorem CBox.at_ (h : CBox w b T cs) (i : Nat) (v : Value) (hi : cs[i]? = some v) : w.cell? ⟨b, i, none⟩ = some v ∧ w.frozen? ⟨b, i, none⟩ = false := by
  have h' : w.heap[b]? = some (.cells cs T (0, 0)) := h
  exact ⟨by simp [World.cell?, h', hi], by simp [World.frozen?, h']⟩
theorem CBox.below (h : CBox w b T cs) (hb : Below B w w') (hB : b < B) : CBox w' b T cs := (hb.block b hB).trans h
theorem CBox.grown {row : Option Nat} (h : CBox w b T cs) (hg : w.grownBy w' row) (hne : some b ≠ row) : CBox w' b T cs := (hg.block b h.lt hne).trans h
theorem CBox.set (h : CBox w b T cs) (i : Nat) (u : Value) : CBox (w.setCell ⟨b, i, none⟩ u) b T (cs.setIfInBounds i u) := by
  have h' : w.heap[b]? = some (.cells cs T (0, 0)) := h
  unfold CBox
  simp [World.setCell, Array.getElem?_modify, h']
theorem CBox.far (h : CBox w b T cs) {p : Addr} (hp : b ≠ p.block) (u : Value) : CBox (w.setCell p u) b T cs := (Below.heap_setCell w p u b hp).trans h
theorem CBox.new (cs : Array Value) (hb : b = w.heap.size) : CBox (w.alloc (.cells cs T)) b T cs := by subst hb; exact heap_alloc_new w _
theorem CBox.old (h : CBox w b T cs) (o : Obj) : CBox (w.alloc o) b T cs := h.below ((Below.refl _ w).alloc (Nat.le_refl _) o) h.lt
theorem CBox.draws (h : CBox w b T cs) (n : Nat) : CBox (w.drewN n) b T cs := h.below (below_draws _ (Below.refl _ _) n) h.lt
end

theorem own_form {w : World} {base : Nat} {e : TypeId} {size : Nat} {v : Value} {n : Nat} {xs : List Value} (h : w.ownsRow base e size v n xs) : ∃ ao c, v = .slice ao n c := by
  rcases h.2 with ⟨rfl, rfl⟩ | ⟨g, cap, cur, rfl, _⟩
  · exact ⟨_, _, rfl⟩
  · exact ⟨_, _, rfl⟩

theorem grown_below {w1 wr w2 : World} {row : Option Nat} (hg : w1.grownBy wr row) (hb : Below wr.heap.size wr w2) : w1.grownBy w2 row :=
  ⟨hb.os.trans hg.os, hb.tape.trans hg.tape, hb.output.trans hg.output, Nat.le_trans hg.size hb.size, fun k hk hne => (hb.block k (Nat.lt_of_lt_of_le hk hg.size)).trans (hg.block k hk hne)⟩

theorem heap_new (w : World) (o : Obj) (b : Nat) (h : b = w.heap.size) : (w.alloc o).heap[b]? = some o := by subst h; exact heap_alloc_new w o

/-- a row of the call's own is no block of another type -/
theorem own_box {w : World} {base : Nat} {e : TypeId} {size : Nat} {v : Value} {n : Nat} {xs : List Value} {b : Nat} {T : TypeId} {cs : Array Value} (h : w.ownsRow base e size v n xs) (hd : CBox w b T cs) (hne : e ≠ T) : v.ownBlock ≠ some b := by
  rcases h.2 with ⟨rfl, _⟩ | ⟨g, cap, cur, rfl, _, hg, _⟩
  · simp [Value.ownBlock]
  · intro e'
    have : g = b := by simpa [Value.ownBlock] using e'
    subst this
    have hd' : w.heap[g]? = some (.cells cs T (0, 0)) := hd
    rw [hg] at hd'
    simp at hd'
    exact hne hd'.2
end Go.Proofs.Ytfloipdkhmgibaa
