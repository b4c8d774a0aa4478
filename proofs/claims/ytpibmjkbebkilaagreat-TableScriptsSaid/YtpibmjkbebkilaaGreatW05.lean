/- Texts joined into one file: Tms, GCop, GChk. -/
import Derived.Test.YtpibmjkbebkilaaGreatW04

namespace Go.Proofs.YtpibmjkbebkilaaGreat
open Go.RowKit Go.Lib Go.Sort
set_option maxRecDepth 20000

abbrev Tmd := Str × Int

def tcells (t : Tmd) : List Value := [.string (bstr t.1), .int .i64 t.2]

theorem tflat_get (L : List Tmd) (k : Nat) (hk : k < L.length) (d : Tmd) : (L.flatMap tcells)[k * 2]? = some (.string (bstr (L.getD k d).1)) ∧ (L.flatMap tcells)[k * 2 + 1]? = some (.int .i64 (L.getD k d).2) := by
 induction L generalizing k with
 | nil => simp at hk
 | cons t L ih =>
   cases k with
   | zero => simp [tcells]
   | succ k =>
     obtain ⟨h1, h2⟩ := ih k (by simpa using hk)
     rw [show (k + 1) * 2 = k * 2 + 1 + 1 from by omega]
     simp only [List.flatMap_cons, tcells, List.cons_append, List.nil_append, List.getElem?_cons_succ, List.getD_cons_succ]
     exact ⟨h1, h2⟩

def Tms (w : World) (v : Value) (L : List Tmd) : Prop :=
 ∃ ao cap b off, v = .slice ao L.length cap ∧ (L = [] ∨ ao = some ⟨b, off, none⟩) ∧ L.length ≤ 5864062014634 ∧ (∀ t ∈ L, t.1.length ≤ maxLen ∧ (Lit.int .i64 t.2).wf = true) ∧
   (∀ k, k < L.length → b < w.heap.size ∧ w.cell? ⟨b, off + k * 2, none⟩ = some (.string (bstr (L.getD k default).1)) ∧ w.cell? ⟨b, off + k * 2 + 1, none⟩ = some (.int .i64 (L.getD k default).2))

theorem Tms.mono {w w' : World} {v : Value} {L : List Tmd} (h : Tms w v L) (hb : Below w.heap.size w w') : Tms w' v L := by
 obtain ⟨ao, cap, b, off, rfl, h0, h1, h2, h3⟩ := h
 refine ⟨ao, cap, b, off, rfl, h0, h1, h2, fun k hk => ?_⟩
 obtain ⟨hlt, c0, c1⟩ := h3 k hk
 exact ⟨Nat.lt_of_lt_of_le hlt hb.size, (hb.cell (p := ⟨b, off + k * 2, none⟩) hlt).trans c0, (hb.cell (p := ⟨b, off + k * 2 + 1, none⟩) hlt).trans c1⟩

theorem Tms.draws {w : World} {v : Value} {L : List Tmd} (h : Tms w v L) (n : Nat) : Tms (w.drewN n) v L := h.mono (below_draws _ (Below.refl _ _) n)
theorem Tms.nil (w : World) : Tms w (.slice none 0 0) [] := ⟨none, 0, 0, 0, rfl, .inl rfl, by simp, by simp, by simp⟩
theorem Tms.wfs {w : World} {v : Value} {L : List Tmd} (h : Tms w v L) : ∀ t ∈ L, t.1.length ≤ maxLen ∧ (Lit.int .i64 t.2).wf = true := by
 obtain ⟨_, _, _, _, _, _, _, h, _⟩ := h
 exact h
theorem Tms.few {w : World} {v : Value} {L : List Tmd} (h : Tms w v L) : L.length ≤ 5864062014634 := by
 obtain ⟨_, _, _, _, _, _, h, _⟩ := h
 exact h
theorem Tms.shape {w : World} {v : Value} {L : List Tmd} (h : Tms w v L) : ∃ ao cap, v = .slice ao L.length cap := by
 obtain ⟨ao, cap, _, _, h, _⟩ := h
 exact ⟨ao, cap, h⟩

theorem Tms.own {w : World} {base : Nat} {v : Value} {L : List Tmd} (h : w.ownsRow base 103 2 v L.length (L.flatMap tcells)) (hl : L.length ≤ 5864062014634) (hw : ∀ t ∈ L, t.1.length ≤ maxLen ∧ (Lit.int .i64 t.2).wf = true) : Tms w v L := by
 rcases h.2 with ⟨rfl, h0⟩ | ⟨g, cap, cur, rfl, hb, hg, hn, hm, hs, ht⟩
 · rw [List.length_eq_zero_iff] at h0
   subst h0
   exact Tms.nil w
 · refine ⟨_, cap, g, 0, rfl, .inr rfl, hl, hw, fun k hk => ?_⟩
   obtain ⟨x0, x1⟩ := tflat_get L k hk default
   have c0 := h.cells (g := g) rfl _ _ x0
   have c1 := h.cells (g := g) rfl _ _ x1
   rw [add_lit] at c0 c1
   exact ⟨(Array.getElem?_eq_some_iff.1 hg).1, c0, by rw [show 0 + k * 2 + 1 = 0 + (k * 2 + 1) from by omega]; exact c1⟩

theorem tcells_one (L : List Tmd) : ∀ u ∈ L.flatMap tcells, u.oneCell' = true := by
 intro u hu
 obtain ⟨t, _, ht⟩ := List.mem_flatMap.1 hu
 simp only [tcells, List.mem_cons, List.not_mem_nil, or_false] at ht
 rcases ht with rfl | rfl <;> rfl

theorem tflat_len (L : List Tmd) : (L.flatMap tcells).length = L.length * 2 := by
 induction L with
 | nil => rfl
 | cons t L ih => simp [List.flatMap_cons, tcells, ih]; omega

theorem Tms.sliceOf {w : World} {v : Value} {L : List Tmd} (h : Tms w v L) : SliceOf w 2 v L.length (L.flatMap tcells) := by
 obtain ⟨ao, cap, b, off, rfl, h0, h1, h2, h3⟩ := h
 refine ⟨ao, cap, rfl, tflat_len L, tcells_one L, ?_⟩
 by_cases hz : L.length = 0
 · exact .inl hz
 · refine .inr ⟨⟨b, off, none⟩, ?_, fun j x hj => ?_⟩
   · rcases h0 with rfl | h0
     · simp at hz
     · exact h0
   · obtain ⟨hlt, _⟩ := List.getElem?_eq_some_iff.1 hj
     rw [tflat_len] at hlt
     rw [add_lit]
     obtain ⟨k, hk⟩ : ∃ k, k = j / 2 := ⟨_, rfl⟩
     obtain ⟨_, c0, c1⟩ := h3 k (by omega)
     obtain ⟨x0, x1⟩ := tflat_get L k (by omega) default
     rcases (show j = k * 2 ∨ j = k * 2 + 1 by omega) with e | e
     · rw [e, x0] at hj
       rw [e, c0]
       exact hj
     · rw [e, x1] at hj
       rw [e, ← Nat.add_assoc, c1]
       exact hj

theorem Tms.far {w : World} {v : Value} {L : List Tmd} {lo : Nat} (h : Tms w v L) (hl : Lies lo v) {p : Addr} (hp : p.block < lo) (u : Value) : Tms (w.setCell p u) v L := by
 obtain ⟨ao, cap, b, off, rfl, h0, h1, h2, h3⟩ := h
 refine ⟨ao, cap, b, off, rfl, h0, h1, h2, fun k hk => ?_⟩
 obtain ⟨hlt, c0, c1⟩ := h3 k hk
 have hb : lo ≤ b := by
  rcases h0 with rfl | rfl
  · simp at hk
  · exact hl b rfl
 refine ⟨by simpa using hlt, ?_, ?_⟩
 · rw [World.cell?_setCell_other w p _ u (fun e => by subst e; simp at hp; omega)]
   exact c0
 · rw [World.cell?_setCell_other w p _ u (fun e => by subst e; simp at hp; omega)]
   exact c1

theorem Tms.facts {w : World} {v : Value} {L : List Tmd} (h : Tms w v L) :
 ∃ b off, L.length ≤ 5864062014634 ∧ (∀ ty w', (Builtin.len_ #[69] ty #[v]).run Tryz.prog w' = .ok (.int .i64 L.length) w') ∧
   (∀ k, k < L.length → ∀ w', (Instr.indexAt 69 v (.int .i64 k)).run Tryz.prog w' = .ok (.pointer (some ⟨b, off + k * 2, none⟩)) w') ∧
   (∀ k, k < L.length → b < w.heap.size ∧ w.cell? ⟨b, off + k * 2, none⟩ = some (.string (bstr (L.getD k default).1)) ∧ w.cell? ⟨b, off + k * 2 + 1, none⟩ = some (.int .i64 (L.getD k default).2)) := by
 obtain ⟨ao, cap, b, off, rfl, h0, h1, h2, h3⟩ := h
 refine ⟨b, off, h1, fun ty w' => run_len_any Tryz.underlying69 ao L.length cap ty w', fun k hk w' => ?_, h3⟩
 rcases h0 with h0 | rfl
 · subst h0; exact absurd hk (by simp)
 · exact run_index_any (P := Tryz.prog) (s := 2) Tryz.underlying69 (fun w => by kernel_rfl) b off L.length cap k hk w'

theorem take_eq_snocT (A B : List Tmd) (k : Nat) (ha : k < A.length) (hb : k < B.length) (h : A.take k = B.take k) : (A.take (k + 1) = B.take (k + 1)) ↔ A.getD k default = B.getD k default := by
 rw [take_snoc A k ha, take_snoc B k hb, h, List.append_cancel_left_eq]
 simp [List.getD_eq_getElem?_getD, ha, hb]

set_option maxHeartbeats 4000000 in
theorem tsame_any (e1 e2 : Bool) (a1 a2 : Int) (v u : Value) (A B : List Tmd) (w : World) (h : Tms w v A) (h' : Tms w u B) :
 Calls Tryz.prog 28 #[.agg #[.bool e1, .int .i64 a1, v], .agg #[.bool e2, .int .i64 a2, u]] w fun e w' => e = .returned (.bool (decide (e1 = e2 ∧ a1 = a2 ∧ A = B))) ∧ Below w.heap.size w w' := by
 obtain ⟨ao, cap, rfl⟩ := h.shape
 obtain ⟨bo, bcap, rfl⟩ := h'.shape
 obtain ⟨W0, hW0⟩ : ∃ W0, W0 = (w.alloc (.cells #[.bool e1, .int .i64 a1, .slice ao A.length cap] 71)).alloc (.cells #[.bool e2, .int .i64 a2, .slice bo B.length bcap] 71) := ⟨_, rfl⟩
 have hba : Below w.heap.size w W0 := by rw [hW0]; exact ((Below.refl _ _).alloc (Nat.le_refl _) _).alloc (by simp) _
 have HBA := Lib.hid hba
 have s1 : CBox W0 w.heap.size 71 #[.bool e1, .int .i64 a1, .slice ao A.length cap] := by rw [hW0]; exact (CBox.new _ rfl).old _
 have s2 : CBox W0 (w.heap.size + 1) 71 #[.bool e2, .int .i64 a2, .slice bo B.length bcap] := by rw [hW0]; exact CBox.new _ (by simp)
 obtain ⟨b, off, hm, hlen, hidx, hc⟩ := (h.mono hba).facts
 obtain ⟨b', off', hm', hlen', hidx', hc'⟩ := (h'.mono hba).facts
 clear h h' hba
 obtain ⟨x0, _⟩ := s1.at_ 0 _ rfl
 obtain ⟨x1, _⟩ := s1.at_ 1 _ rfl
 obtain ⟨x2, _⟩ := s1.at_ 2 _ rfl
 obtain ⟨y0, _⟩ := s2.at_ 0 _ rfl
 obtain ⟨y1, _⟩ := s2.at_ 1 _ rfl
 obtain ⟨y2, _⟩ := s2.at_ 2 _ rfl
 clear s1 s2
 have hbt := bstr_toList
 go_enter Tryz.func28, Tryz.ntmps28
 by_cases he : e1 = e2 ∧ a1 = a2 ∧ A.length = B.length
 · obtain ⟨rfl, rfl, hl⟩ := he
   have HL := Lib.hid hl
   have hle : A.length ≤ B.length := by omega
   have hle' : B.length ≤ A.length := by omega
   have hne : ((A.length : Int) != (B.length : Int)) = false := by rw [hl]; simp
   clear hl
   go_wp2_with fail
   rw [← hW0]
   clear hW0
   go_wp2
   go_loopw [5] (fun i wr => ∃ k : Nat, k ≤ A.length ∧ i = .int .i64 k ∧ A.take k = B.take k ∧ ∃ n, wr = W0.drewN n) (fun i _ => A.length - (intOf i).toNat)
   case atStart => exact ⟨0, Nat.zero_le _, rfl, by simp, 0, rfl⟩
   case round =>
    obtain ⟨k, hk, rfl, hn, n, rfl⟩ := hrel
    have HN := Lib.hid hn
    by_cases hlt : k < A.length
    · have hlt' : k < B.length := by omega
      have HS := Lib.hid (take_eq_snocT A B k hlt hlt' hn)
      obtain ⟨⟨s, n1⟩, hs⟩ : ∃ s, A.getD k default = s := ⟨_, rfl⟩
      obtain ⟨⟨t, n2⟩, ht⟩ : ∃ t, B.getD k default = t := ⟨_, rfl⟩
      rw [hs, ht] at HS
      obtain ⟨_, c0, c1⟩ := hc k hlt
      obtain ⟨_, d0, d1⟩ := hc' k hlt'
      rw [hs] at c0 c1
      rw [ht] at d0 d1
      have hp := hidx k hlt
      have hp' := hidx' k hlt'
      clear hidx hc hidx' hc' hn hs ht
      cases hst : (s == t)
      · go_wp2
        go_quiet (fail)
        go_wp2
        go_ret
        refine ⟨ret_bool ?_, below_draws _ HBA.out _⟩
        symm
        refine decide_eq_false fun e => ?_
        have := HS.out.1 (by first | rw [e.2.2] | rw [e])
        simp at this
        simp [this.1] at hst
      · have es : s = t := by simpa using hst
        cases hnn : (n1 == n2)
        · go_wp2
          go_quiet (fail)
          go_wp2
          go_ret
          refine ⟨ret_bool ?_, below_draws _ HBA.out _⟩
          symm
          refine decide_eq_false fun e => ?_
          have := HS.out.1 (by first | rw [e.2.2] | rw [e])
          simp at this
          simp [this.2] at hnn
        · have en : n1 = n2 := by simpa using hnn
          go_wp2
          go_quiet (fail)
          go_wp2
          go_roundw
          case rel => exact ⟨k + 1, by omega, by go_num, HS.out.2 (by rw [es, en]), _, rfl⟩
          case measure => simp [intOf]; omega
    · have HE : Hid (A = B) := by
       rw [List.take_of_length_le (by omega), List.take_of_length_le (by omega)] at hn
       exact hn
      clear hidx hc hidx' hc' hn
      go_wp2
      go_ret
      exact ⟨ret_bool (by simp [HE.out]), below_draws _ HBA.out _⟩
 · have HF := Lib.hid (show decide (e1 = e2 ∧ a1 = a2 ∧ A = B) = false from decide_eq_false fun h => he ⟨h.1, h.2.1, by rw [h.2.2]⟩)
   subst hW0
   clear x0 x1 x2 y0 y1 y2
   by_cases h1 : e1 = e2
   · subst h1
     cases h2 : (a1 != a2)
     · obtain rfl : a1 = a2 := by simpa using h2
       have h3 : ((A.length : Int) != (B.length : Int)) = true := by
        rw [bne_iff_ne]
        intro e
        exact he ⟨rfl, rfl, by omega⟩
       clear he
       go_wp2
       go_ret
       exact ⟨ret_bool (by symm; simpa using HF.out), HBA.out⟩
     · clear he
       go_wp2
       go_ret
       exact ⟨ret_bool (by symm; simpa using HF.out), HBA.out⟩
   · clear he
     cases e1 <;> cases e2 <;> first
      | exact absurd rfl h1
      | (clear h1
         go_wp2
         go_ret
         exact ⟨ret_bool (by simp), HBA.out⟩)

theorem infoTmd : (Tryz.prog.info? 103).map (fun i => (i.zero, i.size, i.bytes)) = some (some (.agg #[.string ⟨#[]⟩, .int .i64 0]), 2, 24) := by kernel_rfl


def okAt (ex : Bool) (L : List Tmd) (k : Nat) : Bool :=
 decide (0 ≤ (L.getD k default).2) && (ex || decide ((L.getD k default).2 ≠ 0)) && (k == 0 || decide ((L.getD (k - 1) default).1 < (L.getD k default).1))

def pcheck (ex : Bool) (at' : Int) (L : List Tmd) : Bool :=
 decide (L.length ≤ 60) && decide (0 ≤ at') && (ex == decide (0 < at')) && (List.range L.length).all (okAt ex L)

theorem all_not {ex : Bool} {L : List Tmd} {k : Nat} (hk : k < L.length) (h : okAt ex L k = false) : (List.range L.length).all (okAt ex L) = false := by
 rw [List.all_eq_false]
 exact ⟨k, by simpa using hk, by simp [h]⟩

theorem all_up {g : Nat → Bool} {k : Nat} (h : ∀ j, j < k → g j = true) (h' : g k = true) : ∀ j, j < k + 1 → g j = true := by
 intro j hj
 rcases Nat.lt_succ_iff_lt_or_eq.1 hj with hj | rfl
 · exact h j hj
 · exact h'

theorem ret_code {a b : Int} (h : a = b) : Ending.returned (.int .i64 a) = .returned (.int .i64 b) := by rw [h]

set_option maxRecDepth 20000 in
set_option maxHeartbeats 1000000 in
theorem check_any (ex : Bool) (at' : Int) (v : Value) (L : List Tmd) (w : World) (h : Tms w v L) :
 Calls Tryz.prog 47 #[.agg #[.bool ex, .int .i64 at', v]] w fun e w' => e = .returned (.int .i64 (if pcheck ex at' L then 0 else 3)) ∧ Below w.heap.size w w' := by
 obtain ⟨ao, cap, rfl⟩ := h.shape
 obtain ⟨W0, hW0⟩ : ∃ W0, W0 = w.alloc (.cells #[.bool ex, .int .i64 at', .slice ao L.length cap] 71) := ⟨_, rfl⟩
 have hba : Below w.heap.size w W0 := by rw [hW0]; exact (Below.refl _ _).alloc (Nat.le_refl _) _
 have s1 : CBox W0 w.heap.size 71 #[.bool ex, .int .i64 at', .slice ao L.length cap] := by rw [hW0]; exact CBox.new _ rfl
 have hs0 : W0.heap.size = w.heap.size + 1 := by rw [hW0]; simp
 obtain ⟨b, off, hm, hlen, hidx, hc⟩ := (h.mono hba).facts
 have HBA := Lib.hid hba
 have HS1 := Lib.hid s1
 clear h hba
 obtain ⟨x0, _⟩ := s1.at_ 0 _ rfl
 obtain ⟨x1, _⟩ := s1.at_ 1 _ rfl
 obtain ⟨x2, _⟩ := s1.at_ 2 _ rfl
 clear s1
 have hbt := bstr_toList
 obtain ⟨cd, hcd⟩ : ∃ cd : Int, cd = (if pcheck ex at' L then 0 else 3) := ⟨_, rfl⟩
 rw [← hcd]
 have HCD := Lib.hid hcd
 clear hcd
 by_cases he : L.length ≤ 60 ∧ 0 ≤ at' ∧ ex = decide (0 < at')
 · obtain ⟨h1, h2, h3⟩ := he
   have HE := Lib.hid (show cd = if (List.range L.length).all (okAt ex L) then 0 else 3 from by rw [HCD.out]; unfold pcheck; simp [h1, h2, ← h3])
   clear HCD
   obtain ⟨g, hg⟩ : ∃ g, g = okAt ex L := ⟨_, rfl⟩
   have HG := Lib.hid hg
   clear hg
   cases ex
   · simp at h3
     go_enter Tryz.func47, Tryz.ntmps47
     go_wp2_with fail
     rw [← hW0]
     clear hW0
     go_loopw [25] (fun i wr => ∃ k : Nat, k ≤ L.length ∧ i = .int .i64 k ∧ (∀ j, j < k → g j = true) ∧ Below W0.heap.size W0 wr) (fun i _ => L.length - (intOf i).toNat)
     case atStart => exact ⟨0, Nat.zero_le _, rfl, by simp, Below.refl _ _⟩
     case round =>
      obtain ⟨k, hk, rfl, hn, hbr⟩ := hrel
      have HN := Lib.hid hn
      have HBR := Lib.hid hbr
      have S := Lib.hid (HS1.out.below hbr (by omega))
      have hsz : w.heap.size < wr.heap.size := S.out.lt
      obtain ⟨z0, _⟩ := S.out.at_ 0 _ rfl
      obtain ⟨z1, _⟩ := S.out.at_ 1 _ rfl
      obtain ⟨z2, _⟩ := S.out.at_ 2 _ rfl
      have hcs : ∀ k, k < L.length → wr.cell? ⟨b, off + k * 2, none⟩ = some (.string (bstr (L.getD k default).1)) ∧ wr.cell? ⟨b, off + k * 2 + 1, none⟩ = some (.int .i64 (L.getD k default).2) := fun k hk => ⟨(hbr.cell (p := ⟨b, off + k * 2, none⟩) (hc k hk).1).trans (hc k hk).2.1, (hbr.cell (p := ⟨b, off + k * 2 + 1, none⟩) (hc k hk).1).trans (hc k hk).2.2⟩
      have hbb : ∀ k, k < L.length → b < W0.heap.size := fun k hk => (hc k hk).1
      clear x0 x1 x2 hc hn hbr
      by_cases hlt : k < L.length
      · obtain ⟨⟨s, n⟩, hs⟩ : ∃ s, L.getD k default = s := ⟨_, rfl⟩
        obtain ⟨c0, c1⟩ := hcs k hlt
        rw [hs] at c0 c1
        have hp := hidx k hlt
        cases q1 : decide (n < 0)
        rotate_left
        · have r1 : n < 0 := by simpa using q1
          have HF := Lib.hid (show g k = false from by rw [HG.out]; unfold okAt; rw [hs]; simp [show ¬ 0 ≤ n by omega])
          clear hs hidx hcs hbb
          go_wp2
          go_quiet (fail)
          go_wp2
          go_ret
          exact ⟨ret_code (by rw [HE.out, all_not hlt (HG.out ▸ HF.out)]; rfl), below_draws _ (HBA.out.trans ((HBR.out.mono (by omega)).alloc (by have := HBR.out.size; omega) _)) _⟩
        · have r1 : ¬ n < 0 := by simpa using q1
          have R1 := Lib.hid (show 0 ≤ n by omega)
          clear r1
          cases q2 : (n == 0)
          rotate_left
          · have r2 : n = 0 := by simpa using q2
            have HF := Lib.hid (show g k = false from by rw [HG.out]; unfold okAt; rw [hs]; simp [r2])
            clear hs hidx hcs hbb r2
            go_wp2
            go_quiet (fail)
            go_wp2
            go_ret
            exact ⟨ret_code (by rw [HE.out, all_not hlt (HG.out ▸ HF.out)]; rfl), below_draws _ (HBA.out.trans ((HBR.out.mono (by omega)).alloc (by have := HBR.out.size; omega) _)) _⟩
          · have R2 := Lib.hid (show n ≠ 0 by simpa using q2)
            cases q3 : decide (0 < k)
            · have R3 := Lib.hid (show k = 0 by simpa using q3)
              have HF := Lib.hid (show g k = true from by rw [HG.out]; unfold okAt; rw [hs]; simp [R1.out, R3.out, R2.out])
              clear hs hidx hcs hbb
              go_wp2
              go_quiet (fail)
              go_wp2
              go_roundw
              case rel => exact ⟨k + 1, by omega, by go_num, all_up HN.out HF.out, below_draws _ (HBR.out.alloc HBR.out.size _) _⟩
              case measure => simp [intOf]; omega
            · have R3 := Lib.hid (show k ≠ 0 by have := of_decide_eq_true q3; omega)
              obtain ⟨m, hmk⟩ : ∃ m, m = k - 1 := ⟨_, rfl⟩
              have hm1 : m + 1 = k := by have := R3.out; omega
              obtain ⟨⟨s', n'⟩, hs'⟩ : ∃ s', L.getD m default = s' := ⟨_, rfl⟩
              obtain ⟨d0, d1⟩ := hcs m (by omega)
              rw [hs'] at d0 d1
              have hp' : ∀ w', (Instr.indexAt 69 (.slice ao L.length cap) (.int .i64 ((k : Int) - 1))).run Tryz.prog w' = .ok (.pointer (some ⟨b, off + m * 2, none⟩)) w' := by
               have := hidx m (by omega)
               rwa [show (m : Int) = (k : Int) - 1 from by omega] at this
              have hbl : b < wr.heap.size := Nat.lt_of_lt_of_le (hbb m (by omega)) HBR.out.size
              have hk1 : 0 < k := by omega
              cases q4 : Op.bytesLess s' s
              · have R4 := Lib.hid ((Go.Proofs.bytesLess_eq s' s).symm.trans q4)
                have HF := Lib.hid (show g k = false from by rw [HG.out]; unfold okAt; rw [← hmk, hs, hs']; rw [R4.out]; simp [R3.out])
                clear hs hidx hcs hbb hs' hmk hm1
                go_wp2
                go_quiet (fail)
                go_wp2
                go_ret
                exact ⟨ret_code (by rw [HE.out, all_not hlt (HG.out ▸ HF.out)]; rfl), below_draws _ (HBA.out.trans ((HBR.out.mono (by omega)).alloc (by have := HBR.out.size; omega) _)) _⟩
              · have R4 := Lib.hid ((Go.Proofs.bytesLess_eq s' s).symm.trans q4)
                have HF := Lib.hid (show g k = true from by rw [HG.out]; unfold okAt; rw [← hmk, hs, hs', R4.out]; simp [R1.out, R2.out])
                clear hs hidx hcs hbb hs' hmk hm1
                go_wp2
                go_quiet (fail)
                go_wp2
                go_roundw
                case rel => exact ⟨k + 1, by omega, by go_num, all_up HN.out HF.out, below_draws _ (HBR.out.alloc HBR.out.size _) _⟩
                case measure => simp [intOf]; omega
      · have HT := Lib.hid (show (List.range L.length).all g = true from by rw [List.all_eq_true]; intro j hj; exact HN.out j (by simp at hj; omega))
        clear hidx hcs
        go_wp2
        go_ret
        exact ⟨ret_code (by rw [HE.out, ← HG.out, HT.out]; rfl), HBA.out.trans (HBR.out.mono (by omega))⟩
   · simp at h3
     go_enter Tryz.func47, Tryz.ntmps47
     go_wp2_with fail
     rw [← hW0]
     clear hW0
     go_loopw [25] (fun i wr => ∃ k : Nat, k ≤ L.length ∧ i = .int .i64 k ∧ (∀ j, j < k → g j = true) ∧ Below W0.heap.size W0 wr) (fun i _ => L.length - (intOf i).toNat)
     case atStart => exact ⟨0, Nat.zero_le _, rfl, by simp, Below.refl _ _⟩
     case round =>
      obtain ⟨k, hk, rfl, hn, hbr⟩ := hrel
      have HN := Lib.hid hn
      have HBR := Lib.hid hbr
      have S := Lib.hid (HS1.out.below hbr (by omega))
      have hsz : w.heap.size < wr.heap.size := S.out.lt
      obtain ⟨z0, _⟩ := S.out.at_ 0 _ rfl
      obtain ⟨z1, _⟩ := S.out.at_ 1 _ rfl
      obtain ⟨z2, _⟩ := S.out.at_ 2 _ rfl
      have hcs : ∀ k, k < L.length → wr.cell? ⟨b, off + k * 2, none⟩ = some (.string (bstr (L.getD k default).1)) ∧ wr.cell? ⟨b, off + k * 2 + 1, none⟩ = some (.int .i64 (L.getD k default).2) := fun k hk => ⟨(hbr.cell (p := ⟨b, off + k * 2, none⟩) (hc k hk).1).trans (hc k hk).2.1, (hbr.cell (p := ⟨b, off + k * 2 + 1, none⟩) (hc k hk).1).trans (hc k hk).2.2⟩
      have hbb : ∀ k, k < L.length → b < W0.heap.size := fun k hk => (hc k hk).1
      clear x0 x1 x2 hc hn hbr
      by_cases hlt : k < L.length
      · obtain ⟨⟨s, n⟩, hs⟩ : ∃ s, L.getD k default = s := ⟨_, rfl⟩
        obtain ⟨c0, c1⟩ := hcs k hlt
        rw [hs] at c0 c1
        have hp := hidx k hlt
        cases q1 : decide (n < 0)
        rotate_left
        · have r1 : n < 0 := by simpa using q1
          have HF := Lib.hid (show g k = false from by rw [HG.out]; unfold okAt; rw [hs]; simp [show ¬ 0 ≤ n by omega])
          clear hs hidx hcs hbb
          go_wp2
          go_quiet (fail)
          go_wp2
          go_ret
          exact ⟨ret_code (by rw [HE.out, all_not hlt (HG.out ▸ HF.out)]; rfl), below_draws _ (HBA.out.trans ((HBR.out.mono (by omega)).alloc (by have := HBR.out.size; omega) _)) _⟩
        · have r1 : ¬ n < 0 := by simpa using q1
          have R1 := Lib.hid (show 0 ≤ n by omega)
          clear r1
          cases q3 : decide (0 < k)
          · have R3 := Lib.hid (show k = 0 by simpa using q3)
            have HF := Lib.hid (show g k = true from by rw [HG.out]; unfold okAt; rw [hs]; simp [R1.out, R3.out])
            clear hs hidx hcs hbb
            go_wp2
            go_quiet (fail)
            go_wp2
            go_roundw
            case rel => exact ⟨k + 1, by omega, by go_num, all_up HN.out HF.out, below_draws _ (HBR.out.alloc HBR.out.size _) _⟩
            case measure => simp [intOf]; omega
          · have R3 := Lib.hid (show k ≠ 0 by have := of_decide_eq_true q3; omega)
            obtain ⟨m, hmk⟩ : ∃ m, m = k - 1 := ⟨_, rfl⟩
            have hm1 : m + 1 = k := by have := R3.out; omega
            obtain ⟨⟨s', n'⟩, hs'⟩ : ∃ s', L.getD m default = s' := ⟨_, rfl⟩
            obtain ⟨d0, d1⟩ := hcs m (by omega)
            rw [hs'] at d0 d1
            have hp' : ∀ w', (Instr.indexAt 69 (.slice ao L.length cap) (.int .i64 ((k : Int) - 1))).run Tryz.prog w' = .ok (.pointer (some ⟨b, off + m * 2, none⟩)) w' := by
             have := hidx m (by omega)
             rwa [show (m : Int) = (k : Int) - 1 from by omega] at this
            have hbl : b < wr.heap.size := Nat.lt_of_lt_of_le (hbb m (by omega)) HBR.out.size
            have hk1 : 0 < k := by omega
            cases q4 : Op.bytesLess s' s
            · have R4 := Lib.hid ((Go.Proofs.bytesLess_eq s' s).symm.trans q4)
              have HF := Lib.hid (show g k = false from by rw [HG.out]; unfold okAt; rw [← hmk, hs, hs']; rw [R4.out]; simp [R3.out])
              clear hs hidx hcs hbb hs' hmk hm1
              go_wp2
              go_quiet (fail)
              go_wp2
              go_ret
              exact ⟨ret_code (by rw [HE.out, all_not hlt (HG.out ▸ HF.out)]; rfl), below_draws _ (HBA.out.trans ((HBR.out.mono (by omega)).alloc (by have := HBR.out.size; omega) _)) _⟩
            · have R4 := Lib.hid ((Go.Proofs.bytesLess_eq s' s).symm.trans q4)
              have HF := Lib.hid (show g k = true from by rw [HG.out]; unfold okAt; rw [← hmk, hs, hs', R4.out]; simp [R1.out])
              clear hs hidx hcs hbb hs' hmk hm1
              go_wp2
              go_quiet (fail)
              go_wp2
              go_roundw
              case rel => exact ⟨k + 1, by omega, by go_num, all_up HN.out HF.out, below_draws _ (HBR.out.alloc HBR.out.size _) _⟩
              case measure => simp [intOf]; omega
      · have HT := Lib.hid (show (List.range L.length).all g = true from by rw [List.all_eq_true]; intro j hj; exact HN.out j (by simp at hj; omega))
        clear hidx hcs
        go_wp2
        go_ret
        exact ⟨ret_code (by rw [HE.out, ← HG.out, HT.out]; rfl), HBA.out.trans (HBR.out.mono (by omega))⟩
 · have HE := Lib.hid (show 3 = cd from by
    rw [HCD.out, if_neg]
    intro h
    unfold pcheck at h
    simp only [Bool.and_eq_true, decide_eq_true_eq, beq_iff_eq] at h
    exact he ⟨h.1.1.1, h.1.1.2, h.1.2⟩)
   subst hW0
   clear x0 x1 x2 hidx hc HCD HS1
   by_cases p1 : L.length ≤ 60
   · by_cases p2 : 0 ≤ at'
     · cases ex
       · have p3 : 0 < at' := by
          rcases Int.lt_or_le 0 at' with h | h
          · exact h
          · exact absurd ⟨p1, p2, by simp; omega⟩ he
         clear he
         go_enter Tryz.func47, Tryz.ntmps47
         go_wp2
         go_ret
         exact ⟨ret_code HE.out, HBA.out⟩
       · have p3 : at' ≤ 0 := by
          rcases Int.lt_or_le 0 at' with h | h
          · exact absurd ⟨p1, p2, by simp; omega⟩ he
          · exact h
         have p3' : at' = 0 := by omega
         subst p3'
         clear he
         go_enter Tryz.func47, Tryz.ntmps47
         go_wp2
         go_ret
         exact ⟨ret_code HE.out, HBA.out⟩
     · clear he
       have p2' : at' < 0 := by omega
       go_enter Tryz.func47, Tryz.ntmps47
       go_wp2
       go_ret
       exact ⟨ret_code HE.out, HBA.out⟩
   · clear he
     have p1' : 60 < (L.length : Int) := by omega
     go_enter Tryz.func47, Tryz.ntmps47
     go_wp2
     go_ret
     exact ⟨ret_code HE.out, HBA.out⟩
end Go.Proofs.YtpibmjkbebkilaaGreat
