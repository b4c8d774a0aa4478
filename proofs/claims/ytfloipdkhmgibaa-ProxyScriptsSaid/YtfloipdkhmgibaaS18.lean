/- Texts joined into one file: PKey, PFil, Sts. -/
import Derived.Test.YtfloipdkhmgibaaS17
import Derived.Test.YtfloipdkhmgibaaS08
import Derived.DeepKeys4

/- The keys of a proxy's map: a VLAN and a group. -/
namespace Go.Proofs.Ytfloipdkhmgibaa
open Go.RowKit Go.Lib Go.Maps

theorem pk_wide : (match Try.prog.underlying 78 with | some (.array _ _) | some (.struct _) => true | _ => false) = true := by kernel_rfl
theorem pk_laid : laidOutB Try.prog = true := by kernel_rfl
theorem pk_row : 78 < Try.prog.types.size := of_decide_eq_true (by kernel_rfl)
set_option maxRecDepth 100000 in
theorem pk_law : Keyed Try.prog 78 := Keyed.of_law (deep_law_laid pk_laid (m := 9) (by decide) pk_row (by kernel_rfl) pk_wide)
theorem pk_is : Try.prog.keyType 78 = true := by kernel_rfl
theorem pk_cells : Try.prog.cellsOf 78 = 2 := by kernel_rfl
theorem pk_ci : Try.prog.cellsOf 3 = 1 := by kernel_rfl
theorem pk_ca : Try.prog.cellsOf 44 = 1 := by kernel_rfl
theorem pk_size : ∃ n, Try.prog.types.size = n + 1 := ⟨Try.prog.types.size - 1, by kernel_rfl⟩

def encK (x : Int × Str) : Value := .agg #[.int .i64 x.1, .string (bstr x.2)]
def okK (x : Int × Str) : Prop := (Lit.int .i64 x.1).wf = true ∧ x.2.length ≤ maxLen
def litK (x : Int × Str) : Lit := .string (keyBytes [.int .i64 x.1, .string x.2])

set_option maxRecDepth 100000 in
theorem pk_reads (x : Int × Str) (h : okK x) : keyOf Try.prog 78 (encK x) = some (litK x) := by
  obtain ⟨n, hn⟩ := pk_size
  have hs : (bstr x.2).size ≤ maxLen := by rw [bstr_size]; exact h.2
  have hd : (bstr x.2).data.toList = x.2 := bstr_data x.2
  unfold keyOf encK litK
  rw [Try.underlying78]
  simp only [pk_is, Bool.true_and]
  have hf : Value.formed Try.prog 78 (.agg #[.int .i64 x.1, .string (bstr x.2)]) = true := by
    simp [Value.formed, Try.underlying78, pk_cells]
  rw [if_pos hf, hn]
  simp [Program.keyLits, Value.cells, Try.underlying78, pk_cells, pk_ci, pk_ca, Try.underlying3, Try.underlying44, h.1, hs, hd]

set_option maxRecDepth 100000 in
theorem pk_all (v : Value) (l : Lit) (h : keyOf Try.prog 78 v = some l) : ∃ x, okK x ∧ v = encK x := by
  obtain ⟨n, hn⟩ := pk_size
  unfold keyOf at h
  rw [Try.underlying78] at h
  simp only [pk_is, Bool.true_and] at h
  split at h
  · rename_i hf
    cases v <;> simp [Value.formed, Try.underlying78, pk_cells] at hf
    rename_i cs
    obtain ⟨a, b, rfl⟩ : ∃ a b, cs = #[a, b] := by
      obtain ⟨l⟩ := cs
      match l, hf with
      | [a, b], _ => exact ⟨a, b, rfl⟩
    rw [hn] at h
    simp [Program.keyLits, Value.cells, Try.underlying78, pk_cells, pk_ci, pk_ca, Try.underlying3, Try.underlying44] at h
    cases a <;> simp at h
    rename_i q z
    by_cases hq : q = .i64 ∧ (Lit.int .i64 z).wf = true
    · rw [if_pos hq] at h
      obtain ⟨rfl, hz⟩ := hq
      cases b <;> simp at h
      rename_i t
      by_cases ht : t.size ≤ maxLen
      · exact ⟨(z, t.data.toList), ⟨hz, by simpa using ht⟩, by simp [encK, bstr]⟩
      · rw [if_neg ht] at h; simp at h
    · rw [if_neg hq] at h; simp at h
  · cases h

theorem pk_inj (x y : Int × Str) (h : encK x = encK y) : x = y := by
  obtain ⟨a, b⟩ := x
  obtain ⟨c, d⟩ := y
  simp only [encK] at h
  have h1 : a = c := by injection h with h; simp at h; exact h.1
  have h2 : bstr b = bstr d := by injection h with h; simp at h; exact h.2
  rw [h1, bstr_inj h2]

/-- a VLAN and a group as a key -/
def KP : KeyEnc Try.prog 78 (Int × Str) := ⟨encK, okK, litK, pk_reads, pk_all, pk_inj, pk_law⟩
end Go.Proofs.Ytfloipdkhmgibaa

/- proxy.Filter, siphonref21.Filter: what a state lets through. -/
namespace Go.Proofs.Ytfloipdkhmgibaa
open Go.RowKit Go.Lib Go.Maps Go.Sort
set_option maxRecDepth 20000
set_option maxRecDepth 20000

theorem CBox.inv {w : World} {b : Nat} {T : TypeId} {cs : Array Value} (h : CBox w b T cs) {i : Nat} {u : Value} (hc : w.cell? ⟨b, i, none⟩ = some u) : cs[i]? = some u := by
  have h' : w.heap[b]? = some (.cells cs T (0, 0)) := h
  simpa [World.cell?, h'] using hc
theorem Tms.ne_box {w : World} {v : Value} {L : List Tmd} {b : Nat} {T : TypeId} {cs : Array Value} (h : Tms w v L) (hb : CBox w b T cs) (hs : ∀ (i : Nat) (s : ByteArray), cs[i]? ≠ some (Value.string s)) : L ≠ [] → ∀ c, v.ownBlock = some c → c ≠ b := by
  intro hL c e he
  subst he
  obtain ⟨ao, cap, d, off, rfl, h0, h1, h2, h3⟩ := h
  rcases h0 with h0 | rfl
  · exact absurd h0 hL
  · obtain ⟨_, q, _⟩ := h3 0 (List.length_pos_iff.2 hL)
    simp [Value.ownBlock] at e
    subst e
    exact hs _ _ (hb.inv q)
theorem Strs.ne_box {w : World} {v : Value} {L : List Str} {b : Nat} {T : TypeId} {cs : Array Value} (h : Strs w v L) (hb : CBox w b T cs) (hs : ∀ (i : Nat) (s : ByteArray), cs[i]? ≠ some (Value.string s)) : L ≠ [] → ∀ c, v.ownBlock = some c → c ≠ b := by
  intro hL c e he
  subst he
  obtain ⟨ao, cap, d, off, rfl, h0, h1, h2, h3⟩ := h
  rcases h0 with h0 | rfl
  · exact absurd h0 hL
  · obtain ⟨_, q⟩ := h3 0 (List.length_pos_iff.2 hL)
    simp [Value.ownBlock] at e
    subst e
    exact hs _ _ (hb.inv q)
theorem ns3 (a : Bool) (z : Int) (o : Option Addr) (n c : Nat) : ∀ (i : Nat) (s : ByteArray), (#[.bool a, .int .i64 z, .slice o n c] : Array Value)[i]? ≠ some (Value.string s) := by
  intro i s
  match i with
  | 0 => simp
  | 1 => simp
  | 2 => simp
  | _ + 3 => simp
theorem ns2 (a : Bool) (o : Option Addr) (n c : Nat) : ∀ (i : Nat) (s : ByteArray), (#[.bool a, .slice o n c] : Array Value)[i]? ≠ some (Value.string s) := by
  intro i s
  match i with
  | 0 => simp
  | 1 => simp
  | _ + 2 => simp

/-- what a state lets through by a time -/
def pfil (ex : Bool) (at' : Int) (L : List Tmd) (now : Int) : Bool × List Str :=
  if pcheck ex at' L then (ex && decide (now < at'), nmL (exL (ex && decide (now < at')) now L) (ex && decide (now < at'))) else (false, [])

/-- what Expire hands back, as Filter reads it -/
def RetEx (w : World) (f : Bool × List Str) (e : Ending) (w' : World) : Prop :=
  ∃ E a2 v L is, e = .returned (.tuple #[.agg #[.bool E, .int .i64 a2, v], .bool is]) ∧ Tms w' v L ∧ (E = true → is = true) ∧ (is = false → L = []) ∧ f = (E, nmL L E) ∧ Below w.heap.size w w'
theorem RetExp.ex {w : World} {ex : Bool} {at' : Int} {L : List Tmd} {now : Int} {e : Ending} {w' : World} (h : RetExp w ex at' L now (ex && decide (now < at')) e w') : RetEx w (pfil ex at' L now) e w' := by
  rcases h with ⟨hp, rfl, hb⟩ | ⟨hp, v, L', rfl, hT, hA, _, _, hb⟩
  · exact ⟨false, 0, _, [], false, rfl, Tms.nil _, by simp, by simp, by unfold pfil; rw [hp]; rfl, hb⟩
  · have hL : L' = exL (ex && decide (now < at')) now L := asc_unique hA (asc_ex _ _ (pcheck_asc hp))
    refine ⟨_, _, v, L', _, rfl, hT, fun h => by rw [h]; rfl, fun h => ?_, by unfold pfil; rw [hp, if_pos rfl, ← hL], hb⟩
    rw [Bool.or_eq_false_iff] at h
    simpa using h.2
theorem expire_ex (ex : Bool) (at' : Int) (v : Value) (L : List Tmd) (now : Int) (w : World) (h : Tms w v L) :
    Calls Try.prog 29 #[.agg #[.bool ex, .int .i64 at', v], .int .i64 now] w (RetEx w (pfil ex at' L now)) := (expire_any ex at' v L now w h).mono fun _ _ h => h.ex
theorem rexpire_ex (ex : Bool) (at' : Int) (v : Value) (L : List Tmd) (now : Int) (w : World) (h : Tms w v L) :
    Calls Try.prog 30 #[.agg #[.bool ex, .int .i64 at', v], .int .i64 now] w (RetEx w (pfil ex at' L now)) := (rexpire_any ex at' v L now w h).mono fun _ _ h => h.ex

set_option maxHeartbeats 4000000 in
theorem filter_any (ex : Bool) (at' : Int) (v : Value) (L : List Tmd) (now : Int) (w : World) (h : Tms w v L) :
    Calls Try.prog 12 #[.agg #[.bool ex, .int .i64 at', v], .int .i64 now] w (RetFil w (pfil ex at' L now).1 (pfil ex at' L now).2) := by
  obtain ⟨vo, vc, rfl⟩ := h.shape
  obtain ⟨i0, hi, hz0, hz1, hz2⟩ := info_parts infoAddr
  obtain ⟨W0, hW0⟩ : ∃ W0, W0 = (w.alloc (.cells #[.bool ex, .int .i64 at', .slice vo L.length vc] 32)).alloc (.cells #[.bool false, .slice none 0 0] 28) := ⟨_, rfl⟩
  have hb0 : Below w.heap.size w W0 := by rw [hW0]; exact ((Below.refl _ _).alloc (Nat.le_refl _) _).alloc (by simp) _
  have hs0 : W0.heap.size = w.heap.size + 1 + 1 := by rw [hW0]; simp
  have s1 : CBox W0 w.heap.size 32 #[.bool ex, .int .i64 at', .slice vo L.length vc] := by rw [hW0]; exact (CBox.new _ rfl).old _
  have s2 : CBox W0 (w.heap.size + 1) 28 #[.bool false, .slice none 0 0] := by rw [hW0]; exact CBox.new _ (by simp)
  have HX := Lib.hid (expire_ex ex at' _ L now W0 (h.mono hb0))
  generalize pfil ex at' L now = f at *
  obtain ⟨x0, _⟩ := s1.at_ 0 _ rfl
  obtain ⟨x1, _⟩ := s1.at_ 1 _ rfl
  obtain ⟨x2, _⟩ := s1.at_ 2 _ rfl
  have S2 := Lib.hid s2; have HB0 := Lib.hid hb0; have HS0 := Lib.hid hs0; have HW0 := Lib.hid hW0
  clear s1 s2 hb0 hs0 h hW0
  go_enter Try.func12, Try.ntmps12
  go_wp2_with fail
  rw [← HW0.out]
  clear HW0
  go_upto_region 2 with ((with_reducible refine HX.out.mono ?_); rintro e w1 ⟨E, a2, v1, L1, is, rfl, hT, he, hn, rfl, hb1⟩; obtain ⟨v1o, v1c, rfl⟩ := hT.shape)
  obtain ⟨W2, hW2⟩ : ∃ W2, W2 = (w1.alloc (.cells #[.bool E, .int .i64 a2, .slice v1o L1.length v1c] 32)).alloc (.cells #[.bool E, .slice none 0 0] 28) := ⟨_, rfl⟩
  have hb2 : Below w1.heap.size w1 W2 := by rw [hW2]; exact ((Below.refl _ _).alloc (Nat.le_refl _) _).alloc (by simp) _
  have hs2 : W2.heap.size = w1.heap.size + 1 + 1 := by rw [hW2]; simp
  have t1 : CBox W2 w1.heap.size 32 #[.bool E, .int .i64 a2, .slice v1o L1.length v1c] := by rw [hW2]; exact (CBox.new _ rfl).old _
  have t2 : CBox W2 (w1.heap.size + 1) 28 #[.bool E, .slice none 0 0] := by rw [hW2]; exact CBox.new _ (by simp)
  have HV := Lib.hid hW2
  have HW1 := Lib.hid (show w.heap.size + 1 + 1 ≤ w1.heap.size from by have h1 := hb1.size; have h2 := HS0.out; omega)
  have HBW := Lib.hid ((HB0.out.trans (hb1.mono HB0.out.size)).trans (hb2.mono (by have := HB0.out.size; have := hb1.size; omega)))
  have S2' := Lib.hid ((S2.out.below hb1 S2.out.lt).below hb2 (by have := (S2.out.below hb1 S2.out.lt).lt; omega))
  have T1 := Lib.hid t1; have T2 := Lib.hid t2; have HT := Lib.hid (hT.mono hb2); have HS2 := Lib.hid hs2
  have HE := Lib.hid (And.intro he hn)
  clear hW2 hb2 hs2 t1 t2 hT he hn hb1 HX S2 HB0 x0 x1 x2
  go_cut [7] (fun s7 w' => s7 = .pointer (some ⟨w1.heap.size + 1, 0, none⟩) ∧ W2 = w')
  case first =>
    obtain ⟨he, hn⟩ := HE.out
    have V := HV.out
    clear HE HV HW1 HBW S2' T1 T2 HT HS2
    cases E
    · cases is
      all_goals
        have HV := Lib.hid V
        clear V he hn
        go_wp2
        go_meet
        case rel => exact ⟨rfl, HV.out⟩
    · obtain rfl := he rfl
      have HV := Lib.hid V
      clear V hn
      go_wp2
      go_meet
      case rel => exact ⟨rfl, HV.out⟩
  case rest =>
    obtain ⟨rfl, rfl⟩ := hcut
    clear HV HE
    obtain ⟨b, off, hm, hlen, hidx, hc⟩ := HT.out.facts
    have hwf := HT.out.wfs
    have hbF : ∀ k, k < L1.length → b ≠ w1.heap.size + 1 := fun k hk e => by
      have := (hc k hk).2.1
      rw [e] at this
      exact ns2 _ _ _ _ _ _ (T2.out.inv this)
    obtain ⟨y2, _⟩ := T1.out.at_ 2 _ rfl
    go_wp2_with fail
    clear y2
    go_loopw [25] (fun i wr => ∃ k v', k ≤ L1.length ∧ i = .int .i64 (k : Nat) ∧ (∀ j, j < W2.heap.size → j ≠ w1.heap.size + 1 → wr.heap[j]? = W2.heap[j]?) ∧ CBox wr (w1.heap.size + 1) 28 #[.bool E, v'] ∧ wr.ownsRow W2.heap.size 44 1 v' (nmL (L1.take k) E).length ((nmL (L1.take k) E).map encStr) ∧ Below w.heap.size w wr ∧ W2.heap.size ≤ wr.heap.size) (fun i _ => L1.length - (intOf i).toNat)
    case atStart => exact ⟨0, _, Nat.zero_le _, rfl, fun _ _ _ => rfl, T2.out, World.ownsRow_nil _ _ _ _, HBW.out, Nat.le_refl _⟩
    case round =>
      obtain ⟨k, v', hk, rfl, hsame, hs3, hown, hbel, hsz⟩ := hrel
      obtain ⟨fo, fc, rfl⟩ := own_form hown
      have hs2 := HS2.out
      have hw1 := HW1.out
      have tR : CBox wr (w.heap.size + 1) 28 #[.bool false, .slice none 0 0] := (hsame _ S2'.out.lt (by omega)).trans S2'.out
      have TR := Lib.hid tR; have T3 := Lib.hid hs3; have HO := Lib.hid hown; have HB := Lib.hid hbel; have HSM := Lib.hid hsame; have HSZ := Lib.hid hsz
      obtain ⟨z0, _⟩ := hs3.at_ 0 _ rfl
      obtain ⟨z1, _⟩ := hs3.at_ 1 _ rfl
      have hl3 := hs3.lt
      have hfl : (nmL (L1.take k) E).length ≤ k := Nat.le_trans (nmL_len _ _) (by simp; omega)
      by_cases hlt : k < L1.length
      · obtain ⟨⟨s, n⟩, hs⟩ : ∃ t : Tmd, t = L1.getD k default := ⟨_, rfl⟩
        obtain ⟨hlb, c0, c1⟩ := hc k hlt
        rw [← hs] at c0 c1
        have d0 : wr.cell? ⟨b, off + k * 2, none⟩ = some (.string (bstr s)) := (cell_same (hsame b hlb (hbF k hlt)) _).trans c0
        have d1 : wr.cell? ⟨b, off + k * 2 + 1, none⟩ = some (.int .i64 n) := (cell_same (hsame b hlb (hbF k hlt)) _).trans c1
        have hp := hidx k hlt
        have hL : L1[k] = (s, n) := by rw [hs]; simp [List.getD_eq_getElem?_getD, hlt]
        have HT' := Lib.hid (show nmL (L1.take (k + 1)) E = nmL (L1.take k) E ++ (if (n == 0) == E then [s] else []) from by rw [nmL_snoc L1 E k hlt, hL])
        clear hidx hc c0 c1 hs hL hsame hs3 hown hbel hwf hbF tR
        cases hb : ((n == 0) == E)
        · have HE := Lib.hid (show nmL (L1.take (k + 1)) E = nmL (L1.take k) E from by rw [HT'.out, hb]; simp)
          clear HT'
          go_wp2_with fail
          go_roundw
          case rel => exact ⟨k + 1, _, by omega, by go_num, fun j hj hne => (Below.heap_alloc _ _ j (by omega)).trans (HSM.out j hj hne), T3.out.old _, by rw [HE.out]; exact HO.out.alloc _, HB.out.alloc HB.out.size _, by simp; omega⟩
          case measure => simp [intOf]; omega
        · have HE := Lib.hid (show nmL (L1.take (k + 1)) E = nmL (L1.take k) E ++ [s] from by rw [HT'.out, hb]; simp)
          have h1 : (nmL (L1.take k) E).length + 1 ≤ maxLen := by unfold maxLen; omega
          have h2 : ((nmL (L1.take k) E).length + 1) * 16 ≤ 140737488355328 := by omega
          clear HT' hfl
          go_wp2_with (at_builtin; refine wpList_append_vals _ rfl _ _ 26 rfl W2.heap.size 44 i0 (.string ⟨#[]⟩) 1 16 Try.underlying26 hi hz0 hz1 hz2 rfl (by decide) (.slice fo (nmL (L1.take k) E).length fc) _ _ rfl ((HO.out.alloc _).alloc _) _ 1 [.string (bstr s)] rfl (sliceOf_block (heap_new _ _ _ (by simp)) rfl (by simp [Value.oneCell'])) h1 h2 (by have := HSZ.out; simp; omega) ?_; intro v2 w3 hown3 hg3 _; obtain ⟨o2, c2, rfl⟩ := own_form hown3; have U3 := Lib.hid (((T3.out.old _).old _).grown hg3 (fun e => by have := (HO.out.lt _ e.symm).1; have := HS2.out; omega)); obtain ⟨u1, uf1⟩ := U3.out.at_ 1 _ rfl; have HO3 := Lib.hid hown3; have HG3 := Lib.hid hg3; clear hown3 hg3)
          go_roundw
          case rel =>
            have g1 := HG3.out.size
            have q1 := HSZ.out
            have q2 := HS2.out
            have g2 := (HB.out.alloc HB.out.size (.cells #[.string (bstr s), .int .i64 n] 65)).alloc (by have := HB.out.size; simp; omega) (.cells #[.string (bstr s)] 44)
            have g3 := g2.grown HG3.out g2.size (fun j e => Nat.le_trans (by omega) (HO.out.lt j e).1)
            refine ⟨k + 1, _, by omega, by go_num, fun j hj hne => ?_, U3.out.set 1 _, ?_, g3.setCell (by simp; omega) _, by simp; simp at g1; omega⟩
            · rw [Below.heap_setCell _ _ _ j (by simpa using hne), HG3.out.block j (by simp; omega) (fun e => by have := (HO.out.lt _ e.symm).1; omega), Below.heap_alloc _ _ j (by simp; omega), Below.heap_alloc _ _ j (by omega)]
              exact HSM.out j hj hne
            · rw [HE.out, List.length_append, List.map_append]
              refine ownsRow_setCell_below ?_ (by simp; omega) _
              simpa [enc_bstr] using HO3.out
          case measure => simp [intOf]; omega
      · have HL := Lib.hid (show L1.take k = L1 from List.take_of_length_le (by omega))
        obtain ⟨r0, _⟩ := tR.at_ 0 _ rfl
        obtain ⟨r1, _⟩ := tR.at_ 1 _ rfl
        have HWF := Lib.hid hwf
        have HLN := Lib.hid (nmL_len L1 E)
        have HLM := Lib.hid hm
        rw [HL.out] at HO z1
        clear hidx hc hs3 hown hbel hsame hwf hbF tR hfl
        go_wp2
        have R := fun u1 u2 => ((TR.out.set 0 u1).set 1 u2)
        have r0 := fun u1 u2 => ((R u1 u2).at_ 0 _ rfl).1
        have r1 := fun u1 u2 => ((R u1 u2).at_ 1 _ rfl).1
        have hS : Strs wr (.slice fo (nmL L1 E).length fc) (nmL L1 E) := Strs.own HO.out (by have := HLM.out; have := HLN.out; omega) (fun x hx => by obtain ⟨t, ht, rfl⟩ := List.mem_map.1 hx; exact (HWF.out t (List.mem_filter.1 ht).1).1)
        have hLi : Lies W2.heap.size (.slice fo (nmL L1 E).length fc) := Lies.own HO.out
        refine bodyPost_ret (v := .agg #[.bool E, .slice fo (nmL L1 E).length fc]) (by simp [results, Try.results12, go_sem, r0, r1]) rfl ⟨_, rfl, ?_, (HB.out.setCell (by simp) _).setCell (by simp) _, hLi.mono (by omega)⟩
        exact (hS.far hLi (p := ⟨w.heap.size + 1, 0, none⟩) (by simp; omega) _).far hLi (p := ⟨w.heap.size + 1, 1, none⟩) (by simp; omega) _

set_option maxHeartbeats 4000000 in
theorem rfilter_any (ex : Bool) (at' : Int) (v : Value) (L : List Tmd) (now : Int) (w : World) (h : Tms w v L) :
    Calls Try.prog 13 #[.agg #[.bool ex, .int .i64 at', v], .int .i64 now] w (RetFil w (pfil ex at' L now).1 (pfil ex at' L now).2) := by
  obtain ⟨vo, vc, rfl⟩ := h.shape
  obtain ⟨W0, hW0⟩ : ∃ W0, W0 = (w.alloc (.cells #[.bool ex, .int .i64 at', .slice vo L.length vc] 32)).alloc (.cells #[.bool false, .slice none 0 0] 28) := ⟨_, rfl⟩
  have hb0 : Below w.heap.size w W0 := by rw [hW0]; exact ((Below.refl _ _).alloc (Nat.le_refl _) _).alloc (by simp) _
  have hs0 : W0.heap.size = w.heap.size + 1 + 1 := by rw [hW0]; simp
  have s1 : CBox W0 w.heap.size 32 #[.bool ex, .int .i64 at', .slice vo L.length vc] := by rw [hW0]; exact (CBox.new _ rfl).old _
  have s2 : CBox W0 (w.heap.size + 1) 28 #[.bool false, .slice none 0 0] := by rw [hW0]; exact CBox.new _ (by simp)
  have HX := Lib.hid (rexpire_ex ex at' _ L now W0 (h.mono hb0))
  generalize pfil ex at' L now = f at *
  obtain ⟨x0, _⟩ := s1.at_ 0 _ rfl
  obtain ⟨x1, _⟩ := s1.at_ 1 _ rfl
  obtain ⟨x2, _⟩ := s1.at_ 2 _ rfl
  have S2 := Lib.hid s2; have HB0 := Lib.hid hb0; have HS0 := Lib.hid hs0; have HW0 := Lib.hid hW0
  clear s1 s2 hb0 hs0 h hW0
  go_enter Try.func13, Try.ntmps13
  go_wp2_with fail
  rw [← HW0.out]
  clear HW0
  go_upto_region 2 with ((with_reducible refine HX.out.mono ?_); rintro e w1 ⟨E, a2, v1, L1, is, rfl, hT, he, hn, rfl, hb1⟩; obtain ⟨v1o, v1c, rfl⟩ := hT.shape)
  obtain ⟨W2, hW2⟩ : ∃ W2, W2 = w1.alloc (.cells #[.bool E, .int .i64 a2, .slice v1o L1.length v1c] 32) := ⟨_, rfl⟩
  have hb2 : Below w1.heap.size w1 W2 := by rw [hW2]; exact (Below.refl _ _).alloc (Nat.le_refl _) _
  have t1 : CBox W2 w1.heap.size 32 #[.bool E, .int .i64 a2, .slice v1o L1.length v1c] := by rw [hW2]; exact CBox.new _ rfl
  rw [← hW2]
  have HW1 := Lib.hid (show w.heap.size + 1 + 1 ≤ w1.heap.size from by have h1 := hb1.size; have h2 := HS0.out; omega)
  have HBW := Lib.hid ((HB0.out.trans (hb1.mono HB0.out.size)).trans (hb2.mono (by have := HB0.out.size; have := hb1.size; omega)))
  have S2' := Lib.hid ((S2.out.below hb1 S2.out.lt).below hb2 (by have := (S2.out.below hb1 S2.out.lt).lt; omega))
  have T1 := Lib.hid t1; have HT := Lib.hid (hT.mono hb2)
  have HN := Lib.hid (fun W (hW : Below W2.heap.size W2 W) => rnames_any E a2 _ L1 E W (HT.out.mono hW))
  obtain ⟨r0, rf0⟩ := S2'.out.at_ 0 _ rfl
  obtain ⟨r1, rf1⟩ := S2'.out.at_ 1 _ rfl
  have HZ := Lib.hid (And.intro he hn)
  clear hW2 hb2 hT he hn hb1 HX S2 HB0 x0 x1 x2
  cases is
  · have HL := Lib.hid (HZ.out.2 rfl)
    have HE := Lib.hid (show E = false from by cases E; rfl; exact absurd (HZ.out.1 rfl) (by simp))
    clear HZ t1 HN
    go_wp2
    have R := fun u1 u2 => ((S2'.out.set 0 u1).set 1 u2)
    have r0 := fun u1 u2 => ((R u1 u2).at_ 0 _ rfl).1
    have r1 := fun u1 u2 => ((R u1 u2).at_ 1 _ rfl).1
    refine bodyPost_ret (v := .agg #[.bool false, .slice none 0 0]) (by simp [results, Try.results13, go_sem, r0, r1]) rfl ⟨.slice none 0 0, by rw [HE.out], ?_, (HBW.out.setCell (by simp) _).setCell (by simp) _, fun b hb => by simp [Value.ownBlock] at hb⟩
    rw [HL.out]
    exact Strs.nil _
  · obtain ⟨y0, _⟩ := t1.at_ 0 _ rfl
    obtain ⟨y1, _⟩ := t1.at_ 1 _ rfl
    obtain ⟨y2, _⟩ := t1.at_ 2 _ rfl
    clear t1 HZ
    go_wp2_with fail
    go_region_with ((go_at_call 31; refine (HN.out _ (by first | exact Below.refl _ _ | exact Below.drew (Below.refl _ _))).mono ?_; rintro e w3 ⟨v3, rfl, hS, hb3', hl3'⟩; have hb3 : Below W2.heap.size W2 w3 := (by first | exact hb3' | exact (Below.drew (Below.refl _ _)).trans hb3'); have hl3 : Lies W2.heap.size v3 := hl3'; obtain ⟨o3, c3, rfl⟩ := hS.shape; have S3 := Lib.hid (S2'.out.below hb3 S2'.out.lt); have T3 := Lib.hid (T1.out.below hb3 T1.out.lt); obtain ⟨q0, qf0⟩ := S3.out.at_ 0 _ rfl; obtain ⟨q1, qf1⟩ := S3.out.at_ 1 _ rfl; obtain ⟨p0, _⟩ := T3.out.at_ 0 _ rfl; obtain ⟨p1, _⟩ := T3.out.at_ 1 _ rfl; obtain ⟨p2, _⟩ := T3.out.at_ 2 _ rfl; have HSS := Lib.hid hS; have HB3 := Lib.hid hb3; have HL3 := Lib.hid hl3; clear hS hb3 hb3' hl3 hl3'))
    all_goals
      go_wp2_with fail
      have hw2 := HW1.out
      have hw3 := T1.out.lt
      have R := fun u1 u2 => ((S3.out.set 0 u1).set 1 u2)
      have r0 := fun u1 u2 => ((R u1 u2).at_ 0 _ rfl).1
      have r1 := fun u1 u2 => ((R u1 u2).at_ 1 _ rfl).1
      have hBB : Below w.heap.size w ((w3.setCell ⟨w.heap.size + 1, 0, none⟩ (.bool E)).setCell ⟨w.heap.size + 1, 1, none⟩ (.slice o3 (nmL L1 E).length c3)) := ((HBW.out.trans (HB3.out.mono HBW.out.size)).setCell (by simp) _).setCell (by simp) _
      have hSS : Strs ((w3.setCell ⟨w.heap.size + 1, 0, none⟩ (.bool E)).setCell ⟨w.heap.size + 1, 1, none⟩ (.slice o3 (nmL L1 E).length c3)) (.slice o3 (nmL L1 E).length c3) (nmL L1 E) := (HSS.out.far HL3.out (by simp; omega) _).far HL3.out (by simp; omega) _
      refine bodyPost_ret (v := .agg #[.bool E, .slice o3 (nmL L1 E).length c3]) (by simp [results, Try.results13, go_sem, r0, r1]) rfl ⟨_, rfl, ?_, ?_, HL3.out.mono (by omega)⟩
      · first | with_reducible exact hSS | with_reducible exact hSS.mono (Below.drew (Below.refl _ _))
      · first | with_reducible exact hBB | with_reducible exact hBB.drew
end Go.Proofs.Ytfloipdkhmgibaa

/- Slices of states in memory ('Sts'); what states let through together. -/
namespace Go.Proofs.Ytfloipdkhmgibaa
open Go.RowKit Go.Lib Go.Sort
set_option maxRecDepth 20000
set_option maxRecDepth 20000

/-- a state: Except, At, its sources -/
abbrev Stt := Bool × Int × List Tmd

/-- v is a slice of states that read as R -/
def Sts (w : World) (v : Value) (R : List Stt) : Prop :=
  ∃ ao cap b off, ∃ src : Nat → Value, v = .slice ao R.length cap ∧ (R = [] ∨ ao = some ⟨b, off, none⟩) ∧ R.length ≤ 3518437208883 ∧
    (∀ k, k < R.length → b < w.heap.size ∧ w.cell? ⟨b, off + k * 3, none⟩ = some (.bool (R.getD k default).1) ∧ w.cell? ⟨b, off + k * 3 + 1, none⟩ = some (.int .i64 (R.getD k default).2.1) ∧ w.cell? ⟨b, off + k * 3 + 2, none⟩ = some (src k) ∧
      Tms w (src k) (R.getD k default).2.2 ∧ (Lit.int .i64 (R.getD k default).2.1).wf = true)

theorem Sts.mono {w w' : World} {v : Value} {R : List Stt} (h : Sts w v R) (hb : Below w.heap.size w w') : Sts w' v R := by
  obtain ⟨ao, cap, b, off, src, rfl, h0, h1, h2⟩ := h
  refine ⟨ao, cap, b, off, src, rfl, h0, h1, fun k hk => ?_⟩
  obtain ⟨hlt, c0, c1, c2, hs, hm⟩ := h2 k hk
  exact ⟨Nat.lt_of_lt_of_le hlt hb.size, (hb.cell (p := ⟨b, off + k * 3, none⟩) hlt).trans c0, (hb.cell (p := ⟨b, off + k * 3 + 1, none⟩) hlt).trans c1, (hb.cell (p := ⟨b, off + k * 3 + 2, none⟩) hlt).trans c2, hs.mono hb, hm⟩
theorem Sts.nil (w : World) : Sts w (.slice none 0 0) [] := ⟨none, 0, 0, 0, fun _ => undef, rfl, .inl rfl, by simp, by simp⟩
theorem Sts.shape {w : World} {v : Value} {R : List Stt} (h : Sts w v R) : ∃ ao cap, v = .slice ao R.length cap := by
  obtain ⟨ao, cap, _, _, _, h, _⟩ := h
  exact ⟨ao, cap, h⟩
theorem Sts.facts {w : World} {v : Value} {R : List Stt} (h : Sts w v R) :
    ∃ b off, ∃ src : Nat → Value, R.length ≤ 3518437208883 ∧ (∀ ty w', (Builtin.len_ #[22] ty #[v]).run Try.prog w' = .ok (.int .i64 R.length) w') ∧
      (∀ k, k < R.length → ∀ w', (Instr.indexAt 22 v (.int .i64 k)).run Try.prog w' = .ok (.pointer (some ⟨b, off + k * 3, none⟩)) w') ∧
      (∀ k, k < R.length → b < w.heap.size ∧ w.cell? ⟨b, off + k * 3, none⟩ = some (.bool (R.getD k default).1) ∧ w.cell? ⟨b, off + k * 3 + 1, none⟩ = some (.int .i64 (R.getD k default).2.1) ∧ w.cell? ⟨b, off + k * 3 + 2, none⟩ = some (src k) ∧
        Tms w (src k) (R.getD k default).2.2 ∧ (Lit.int .i64 (R.getD k default).2.1).wf = true) := by
  obtain ⟨ao, cap, b, off, src, rfl, h0, h1, h2⟩ := h
  refine ⟨b, off, src, h1, fun ty w' => run_len_any Try.underlying22 ao R.length cap ty w', fun k hk w' => ?_, h2⟩
  rcases h0 with h0 | rfl
  · subst h0; exact absurd hk (by simp)
  · exact run_index_any (P := Try.prog) (s := 3) Try.underlying22 (fun w => by kernel_rfl) b off R.length cap k hk w'

/-- two filters, or -/
def pOrF (f g : Bool × List Str) : Bool × List Str := (f.1 || g.1, sasc ((f.2 ++ g.2).filter (pMade (pOr f.1 f.2 g.1 g.2) (f.1 || g.1))))
/-- what states let through together -/
def pmerge (now : Int) (R : List Stt) : Bool × List Str := R.foldl (fun f s => pOrF f (pfil s.1 s.2.1 s.2.2 now)) (false, [])
theorem pmerge_snoc (now : Int) (R : List Stt) (k : Nat) (h : k < R.length) : pmerge now (R.take (k + 1)) = pOrF (pmerge now (R.take k)) (pfil (R.getD k default).1 (R.getD k default).2.1 (R.getD k default).2.2 now) := by
  unfold pmerge
  rw [take_snoc R k h, List.foldl_append]
  simp [List.getD_eq_getElem?_getD, h]
theorem pOrF_len (f g : Bool × List Str) : (pOrF f g).2.length ≤ f.2.length + g.2.length := by
  have := sasc_flen (f.2 ++ g.2) (pMade (pOr f.1 f.2 g.1 g.2) (f.1 || g.1))
  rw [List.length_append] at this
  exact this
theorem pfil_len (ex : Bool) (at' : Int) (L : List Tmd) (now : Int) : (pfil ex at' L now).2.length ≤ L.length := by
  unfold pfil
  split
  · exact Nat.le_trans (nmL_len _ _) (exL_len _ _ _)
  · simp
theorem pmerge_len (now : Int) (R : List Stt) (h : ∀ s ∈ R, s.2.2.length ≤ 60) (k : Nat) (hk : k ≤ R.length) : (pmerge now (R.take k)).2.length ≤ 60 * k := by
  induction k with
  | zero => simp [pmerge]
  | succ k ih =>
    rw [pmerge_snoc now R k hk]
    have h1 := pOrF_len (pmerge now (R.take k)) (pfil (R.getD k default).1 (R.getD k default).2.1 (R.getD k default).2.2 now)
    have h2 := pfil_len (R.getD k default).1 (R.getD k default).2.1 (R.getD k default).2.2 now
    have h3 := h (R.getD k default) (by simp [List.getD_eq_getElem?_getD, show k < R.length from hk])
    have := ih (by omega)
    omega
theorem orF (f g : Bool × List Str) (v u : Value) (w : World) (hv : Strs w v f.2) (hu : Strs w u g.2) (hl : f.2.length + g.2.length ≤ 1000000) :
    Calls Try.prog 32 #[.agg #[.bool f.1, v], .agg #[.bool g.1, u]] w (RetFil w (pOrF f g).1 (pOrF f g).2) := or_any f.1 g.1 v u f.2 g.2 w hv hu (by omega)
theorem rorF (f g : Bool × List Str) (v u : Value) (w : World) (hv : Strs w v f.2) (hu : Strs w u g.2) (hl : f.2.length + g.2.length ≤ 1000000) :
    Calls Try.prog 33 #[.agg #[.bool f.1, v], .agg #[.bool g.1, u]] w (RetFil w (pOrF f g).1 (pOrF f g).2) := by
  have := ror_any f.1 g.1 v u f.2 g.2 w hv hu (by omega)
  rwa [sasc_filter] at this
end Go.Proofs.Ytfloipdkhmgibaa
