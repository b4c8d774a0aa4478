/- Texts joined into one file: GCop, GChk, GRchk, GMap. -/
import Derived.Test.YthcdppppppgckaaGreatDoorC11
import Derived.Maps.OwnSet
import Derived.Maps.OwnOps
import Derived.Maps.RangeWalk
import Derived.Sort.KeysCollected

namespace Go.Proofs.YthcdppppppgckaaGreatDoor
open Go.RowKit Go.Lib Go.Sort
set_option maxRecDepth 20000

theorem infoTmd : (Tryz.prog.info? 333).map (fun i => (i.zero, i.size, i.bytes)) = some (some (.agg #[.string ⟨#[]⟩, .int .i64 0]), 2, 24) := by kernel_rfl


def okAt (ex : Bool) (L : List Tmd) (k : Nat) : Bool :=
 decide (0 ≤ (L.getD k default).2) && (ex || decide ((L.getD k default).2 ≠ 0)) && (k == 0 || decide ((L.getD (k - 1) default).1 < (L.getD k default).1))

def pcheck (ex : Bool) (at' : Int) (L : List Tmd) : Bool :=
 decide (L.length ≤ 60) && decide (0 ≤ at') && (ex == decide (0 < at')) && (List.range L.length).all (okAt ex L)

theorem all_not {ex : Bool} {L : List Tmd} {k : Nat} (hk : k < L.length) (h : okAt ex L k = false) : (List.range L.length).all (okAt ex L) = false := by
 rw [List.all_eq_false]
 exact ⟨k, by simpa using hk, by simp [h]⟩

theorem all_up {g : Nat → Bool} {k : Nat} (h : ∀ j, j < k → g j = true) (h' : g k = true) : ∀ j, j < k + 1 → g j = true := by
 intro j hj
 rcases Nat.lt_succ_iff_lt_or_eq.1 hj with hj | rfl
 · exact h j hj
 · exact h'

theorem ret_code {a b : Int} (h : a = b) : Ending.returned (.int .i64 a) = .returned (.int .i64 b) := by rw [h]

set_option maxRecDepth 20000 in
set_option maxHeartbeats 1000000 in
theorem check_any (ex : Bool) (at' : Int) (v : Value) (L : List Tmd) (w : World) (h : Tms w v L) :
 Calls Tryz.prog 193 #[.agg #[.bool ex, .int .i64 at', v]] w fun e w' => e = .returned (.int .i64 (if pcheck ex at' L then 0 else 3)) ∧ Below w.heap.size w w' := by
 obtain ⟨ao, cap, rfl⟩ := h.shape
 obtain ⟨W0, hW0⟩ : ∃ W0, W0 = w.alloc (.cells #[.bool ex, .int .i64 at', .slice ao L.length cap] 181) := ⟨_, rfl⟩
 have hba : Below w.heap.size w W0 := by rw [hW0]; exact (Below.refl _ _).alloc (Nat.le_refl _) _
 have s1 : CBox W0 w.heap.size 181 #[.bool ex, .int .i64 at', .slice ao L.length cap] := by rw [hW0]; exact CBox.new _ rfl
 have hs0 : W0.heap.size = w.heap.size + 1 := by rw [hW0]; simp
 obtain ⟨b, off, hm, hlen, hidx, hc⟩ := (h.mono hba).facts
 have HBA := Lib.hid hba
 have HS1 := Lib.hid s1
 clear h hba
 obtain ⟨x0, _⟩ := s1.at_ 0 _ rfl
 obtain ⟨x1, _⟩ := s1.at_ 1 _ rfl
 obtain ⟨x2, _⟩ := s1.at_ 2 _ rfl
 clear s1
 have hbt := bstr_toList
 obtain ⟨cd, hcd⟩ : ∃ cd : Int, cd = (if pcheck ex at' L then 0 else 3) := ⟨_, rfl⟩
 rw [← hcd]
 have HCD := Lib.hid hcd
 clear hcd
 by_cases he : L.length ≤ 60 ∧ 0 ≤ at' ∧ ex = decide (0 < at')
 · obtain ⟨h1, h2, h3⟩ := he
   have HE := Lib.hid (show cd = if (List.range L.length).all (okAt ex L) then 0 else 3 from by rw [HCD.out]; unfold pcheck; simp [h1, h2, ← h3])
   clear HCD
   obtain ⟨g, hg⟩ : ∃ g, g = okAt ex L := ⟨_, rfl⟩
   have HG := Lib.hid hg
   clear hg
   cases ex
   · simp at h3
     go_enter Tryz.func193, Tryz.ntmps193
     go_wp2_with fail
     rw [← hW0]
     clear hW0
     go_loopw [25] (fun i wr => ∃ k : Nat, k ≤ L.length ∧ i = .int .i64 k ∧ (∀ j, j < k → g j = true) ∧ Below W0.heap.size W0 wr) (fun i _ => L.length - (intOf i).toNat)
     case atStart => exact ⟨0, Nat.zero_le _, rfl, by simp, Below.refl _ _⟩
     case round =>
      obtain ⟨k, hk, rfl, hn, hbr⟩ := hrel
      have HN := Lib.hid hn
      have HBR := Lib.hid hbr
      have S := Lib.hid (HS1.out.below hbr (by omega))
      have hsz : w.heap.size < wr.heap.size := S.out.lt
      obtain ⟨z0, _⟩ := S.out.at_ 0 _ rfl
      obtain ⟨z1, _⟩ := S.out.at_ 1 _ rfl
      obtain ⟨z2, _⟩ := S.out.at_ 2 _ rfl
      have hcs : ∀ k, k < L.length → wr.cell? ⟨b, off + k * 2, none⟩ = some (.string (bstr (L.getD k default).1)) ∧ wr.cell? ⟨b, off + k * 2 + 1, none⟩ = some (.int .i64 (L.getD k default).2) := fun k hk => ⟨(hbr.cell (p := ⟨b, off + k * 2, none⟩) (hc k hk).1).trans (hc k hk).2.1, (hbr.cell (p := ⟨b, off + k * 2 + 1, none⟩) (hc k hk).1).trans (hc k hk).2.2⟩
      have hbb : ∀ k, k < L.length → b < W0.heap.size := fun k hk => (hc k hk).1
      clear x0 x1 x2 hc hn hbr
      by_cases hlt : k < L.length
      · obtain ⟨⟨s, n⟩, hs⟩ : ∃ s, L.getD k default = s := ⟨_, rfl⟩
        obtain ⟨c0, c1⟩ := hcs k hlt
        rw [hs] at c0 c1
        have hp := hidx k hlt
        cases q1 : decide (n < 0)
        rotate_left
        · have r1 : n < 0 := by simpa using q1
          have HF := Lib.hid (show g k = false from by rw [HG.out]; unfold okAt; rw [hs]; simp [show ¬ 0 ≤ n by omega])
          clear hs hidx hcs hbb
          go_wp2
          go_quiet (fail)
          go_wp2
          go_ret
          exact ⟨ret_code (by rw [HE.out, all_not hlt (HG.out ▸ HF.out)]; rfl), below_draws _ (HBA.out.trans ((HBR.out.mono (by omega)).alloc (by have := HBR.out.size; omega) _)) _⟩
        · have r1 : ¬ n < 0 := by simpa using q1
          have R1 := Lib.hid (show 0 ≤ n by omega)
          clear r1
          cases q2 : (n == 0)
          rotate_left
          · have r2 : n = 0 := by simpa using q2
            have HF := Lib.hid (show g k = false from by rw [HG.out]; unfold okAt; rw [hs]; simp [r2])
            clear hs hidx hcs hbb r2
            go_wp2
            go_quiet (fail)
            go_wp2
            go_ret
            exact ⟨ret_code (by rw [HE.out, all_not hlt (HG.out ▸ HF.out)]; rfl), below_draws _ (HBA.out.trans ((HBR.out.mono (by omega)).alloc (by have := HBR.out.size; omega) _)) _⟩
          · have R2 := Lib.hid (show n ≠ 0 by simpa using q2)
            cases q3 : decide (0 < k)
            · have R3 := Lib.hid (show k = 0 by simpa using q3)
              have HF := Lib.hid (show g k = true from by rw [HG.out]; unfold okAt; rw [hs]; simp [R1.out, R3.out, R2.out])
              clear hs hidx hcs hbb
              go_wp2
              go_quiet (fail)
              go_wp2
              go_roundw
              case rel => exact ⟨k + 1, by omega, by go_num, all_up HN.out HF.out, below_draws _ (HBR.out.alloc HBR.out.size _) _⟩
              case measure => simp [intOf]; omega
            · have R3 := Lib.hid (show k ≠ 0 by have := of_decide_eq_true q3; omega)
              obtain ⟨m, hmk⟩ : ∃ m, m = k - 1 := ⟨_, rfl⟩
              have hm1 : m + 1 = k := by have := R3.out; omega
              obtain ⟨⟨s', n'⟩, hs'⟩ : ∃ s', L.getD m default = s' := ⟨_, rfl⟩
              obtain ⟨d0, d1⟩ := hcs m (by omega)
              rw [hs'] at d0 d1
              have hp' : ∀ w', (Instr.indexAt 179 (.slice ao L.length cap) (.int .i64 ((k : Int) - 1))).run Tryz.prog w' = .ok (.pointer (some ⟨b, off + m * 2, none⟩)) w' := by
               have := hidx m (by omega)
               rwa [show (m : Int) = (k : Int) - 1 from by omega] at this
              have hbl : b < wr.heap.size := Nat.lt_of_lt_of_le (hbb m (by omega)) HBR.out.size
              have hk1 : 0 < k := by omega
              cases q4 : Op.bytesLess s' s
              · have R4 := Lib.hid ((Go.Proofs.bytesLess_eq s' s).symm.trans q4)
                have HF := Lib.hid (show g k = false from by rw [HG.out]; unfold okAt; rw [← hmk, hs, hs']; rw [R4.out]; simp [R3.out])
                clear hs hidx hcs hbb hs' hmk hm1
                go_wp2
                go_quiet (fail)
                go_wp2
                go_ret
                exact ⟨ret_code (by rw [HE.out, all_not hlt (HG.out ▸ HF.out)]; rfl), below_draws _ (HBA.out.trans ((HBR.out.mono (by omega)).alloc (by have := HBR.out.size; omega) _)) _⟩
              · have R4 := Lib.hid ((Go.Proofs.bytesLess_eq s' s).symm.trans q4)
                have HF := Lib.hid (show g k = true from by rw [HG.out]; unfold okAt; rw [← hmk, hs, hs', R4.out]; simp [R1.out, R2.out])
                clear hs hidx hcs hbb hs' hmk hm1
                go_wp2
                go_quiet (fail)
                go_wp2
                go_roundw
                case rel => exact ⟨k + 1, by omega, by go_num, all_up HN.out HF.out, below_draws _ (HBR.out.alloc HBR.out.size _) _⟩
                case measure => simp [intOf]; omega
      · have HT := Lib.hid (show (List.range L.length).all g = true from by rw [List.all_eq_true]; intro j hj; exact HN.out j (by simp at hj; omega))
        clear hidx hcs
        go_wp2
        go_ret
        exact ⟨ret_code (by rw [HE.out, ← HG.out, HT.out]; rfl), HBA.out.trans (HBR.out.mono (by omega))⟩
   · simp at h3
     go_enter Tryz.func193, Tryz.ntmps193
     go_wp2_with fail
     rw [← hW0]
     clear hW0
     go_loopw [25] (fun i wr => ∃ k : Nat, k ≤ L.length ∧ i = .int .i64 k ∧ (∀ j, j < k → g j = true) ∧ Below W0.heap.size W0 wr) (fun i _ => L.length - (intOf i).toNat)
     case atStart => exact ⟨0, Nat.zero_le _, rfl, by simp, Below.refl _ _⟩
     case round =>
      obtain ⟨k, hk, rfl, hn, hbr⟩ := hrel
      have HN := Lib.hid hn
      have HBR := Lib.hid hbr
      have S := Lib.hid (HS1.out.below hbr (by omega))
      have hsz : w.heap.size < wr.heap.size := S.out.lt
      obtain ⟨z0, _⟩ := S.out.at_ 0 _ rfl
      obtain ⟨z1, _⟩ := S.out.at_ 1 _ rfl
      obtain ⟨z2, _⟩ := S.out.at_ 2 _ rfl
      have hcs : ∀ k, k < L.length → wr.cell? ⟨b, off + k * 2, none⟩ = some (.string (bstr (L.getD k default).1)) ∧ wr.cell? ⟨b, off + k * 2 + 1, none⟩ = some (.int .i64 (L.getD k default).2) := fun k hk => ⟨(hbr.cell (p := ⟨b, off + k * 2, none⟩) (hc k hk).1).trans (hc k hk).2.1, (hbr.cell (p := ⟨b, off + k * 2 + 1, none⟩) (hc k hk).1).trans (hc k hk).2.2⟩
      have hbb : ∀ k, k < L.length → b < W0.heap.size := fun k hk => (hc k hk).1
      clear x0 x1 x2 hc hn hbr
      by_cases hlt : k < L.length
      · obtain ⟨⟨s, n⟩, hs⟩ : ∃ s, L.getD k default = s := ⟨_, rfl⟩
        obtain ⟨c0, c1⟩ := hcs k hlt
        rw [hs] at c0 c1
        have hp := hidx k hlt
        cases q1 : decide (n < 0)
        rotate_left
        · have r1 : n < 0 := by simpa using q1
          have HF := Lib.hid (show g k = false from by rw [HG.out]; unfold okAt; rw [hs]; simp [show ¬ 0 ≤ n by omega])
          clear hs hidx hcs hbb
          go_wp2
          go_quiet (fail)
          go_wp2
          go_ret
          exact ⟨ret_code (by rw [HE.out, all_not hlt (HG.out ▸ HF.out)]; rfl), below_draws _ (HBA.out.trans ((HBR.out.mono (by omega)).alloc (by have := HBR.out.size; omega) _)) _⟩
        · have r1 : ¬ n < 0 := by simpa using q1
          have R1 := Lib.hid (show 0 ≤ n by omega)
          clear r1
          cases q3 : decide (0 < k)
          · have R3 := Lib.hid (show k = 0 by simpa using q3)
            have HF := Lib.hid (show g k = true from by rw [HG.out]; unfold okAt; rw [hs]; simp [R1.out, R3.out])
            clear hs hidx hcs hbb
            go_wp2
            go_quiet (fail)
            go_wp2
            go_roundw
            case rel => exact ⟨k + 1, by omega, by go_num, all_up HN.out HF.out, below_draws _ (HBR.out.alloc HBR.out.size _) _⟩
            case measure => simp [intOf]; omega
          · have R3 := Lib.hid (show k ≠ 0 by have := of_decide_eq_true q3; omega)
            obtain ⟨m, hmk⟩ : ∃ m, m = k - 1 := ⟨_, rfl⟩
            have hm1 : m + 1 = k := by have := R3.out; omega
            obtain ⟨⟨s', n'⟩, hs'⟩ : ∃ s', L.getD m default = s' := ⟨_, rfl⟩
            obtain ⟨d0, d1⟩ := hcs m (by omega)
            rw [hs'] at d0 d1
            have hp' : ∀ w', (Instr.indexAt 179 (.slice ao L.length cap) (.int .i64 ((k : Int) - 1))).run Tryz.prog w' = .ok (.pointer (some ⟨b, off + m * 2, none⟩)) w' := by
             have := hidx m (by omega)
             rwa [show (m : Int) = (k : Int) - 1 from by omega] at this
            have hbl : b < wr.heap.size := Nat.lt_of_lt_of_le (hbb m (by omega)) HBR.out.size
            have hk1 : 0 < k := by omega
            cases q4 : Op.bytesLess s' s
            · have R4 := Lib.hid ((Go.Proofs.bytesLess_eq s' s).symm.trans q4)
              have HF := Lib.hid (show g k = false from by rw [HG.out]; unfold okAt; rw [← hmk, hs, hs']; rw [R4.out]; simp [R3.out])
              clear hs hidx hcs hbb hs' hmk hm1
              go_wp2
              go_quiet (fail)
              go_wp2
              go_ret
              exact ⟨ret_code (by rw [HE.out, all_not hlt (HG.out ▸ HF.out)]; rfl), below_draws _ (HBA.out.trans ((HBR.out.mono (by omega)).alloc (by have := HBR.out.size; omega) _)) _⟩
            · have R4 := Lib.hid ((Go.Proofs.bytesLess_eq s' s).symm.trans q4)
              have HF := Lib.hid (show g k = true from by rw [HG.out]; unfold okAt; rw [← hmk, hs, hs', R4.out]; simp [R1.out])
              clear hs hidx hcs hbb hs' hmk hm1
              go_wp2
              go_quiet (fail)
              go_wp2
              go_roundw
              case rel => exact ⟨k + 1, by omega, by go_num, all_up HN.out HF.out, below_draws _ (HBR.out.alloc HBR.out.size _) _⟩
              case measure => simp [intOf]; omega
      · have HT := Lib.hid (show (List.range L.length).all g = true from by rw [List.all_eq_true]; intro j hj; exact HN.out j (by simp at hj; omega))
        clear hidx hcs
        go_wp2
        go_ret
        exact ⟨ret_code (by rw [HE.out, ← HG.out, HT.out]; rfl), HBA.out.trans (HBR.out.mono (by omega))⟩
 · have HE := Lib.hid (show 3 = cd from by
    rw [HCD.out, if_neg]
    intro h
    unfold pcheck at h
    simp only [Bool.and_eq_true, decide_eq_true_eq, beq_iff_eq] at h
    exact he ⟨h.1.1.1, h.1.1.2, h.1.2⟩)
   subst hW0
   clear x0 x1 x2 hidx hc HCD HS1
   by_cases p1 : L.length ≤ 60
   · by_cases p2 : 0 ≤ at'
     · cases ex
       · have p3 : 0 < at' := by
          rcases Int.lt_or_le 0 at' with h | h
          · exact h
          · exact absurd ⟨p1, p2, by simp; omega⟩ he
         clear he
         go_enter Tryz.func193, Tryz.ntmps193
         go_wp2
         go_ret
         exact ⟨ret_code HE.out, HBA.out⟩
       · have p3 : at' ≤ 0 := by
          rcases Int.lt_or_le 0 at' with h | h
          · exact absurd ⟨p1, p2, by simp; omega⟩ he
          · exact h
         have p3' : at' = 0 := by omega
         subst p3'
         clear he
         go_enter Tryz.func193, Tryz.ntmps193
         go_wp2
         go_ret
         exact ⟨ret_code HE.out, HBA.out⟩
     · clear he
       have p2' : at' < 0 := by omega
       go_enter Tryz.func193, Tryz.ntmps193
       go_wp2
       go_ret
       exact ⟨ret_code HE.out, HBA.out⟩
   · clear he
     have p1' : 60 < (L.length : Int) := by omega
     go_enter Tryz.func193, Tryz.ntmps193
     go_wp2
     go_ret
     exact ⟨ret_code HE.out, HBA.out⟩

end Go.Proofs.YthcdppppppgckaaGreatDoor

namespace Go.Proofs.YthcdppppppgckaaGreatDoor
open Go.RowKit Go.Maps Go.Lib Go.Sort
set_option maxRecDepth 20000

noncomputable abbrev mpT : Value → Option (DataW Unit × List MemPlace) := plainElem Tryz.prog 3
theorem lawS : Keyed Tryz.prog 25 := string_keyed Tryz.underlying25

def look (D : DataW Unit) (a : Str) : Option Int :=
 if has D (.string a) then (match D.atKey (.string a) (.lit (.int .i64 0)) with | .lit (.int .i64 z) => some z | _ => none) else none

def Mp (w : World) (b n : Nat) (F : Str → Option Int) : Prop :=
 ∃ D : DataW Unit, w.ownsMap Tryz.prog 25 mpT b n D ∧ ∀ a, look D a = F a

def upd (F : Str → Option Int) (a : Str) (z : Int) : Str → Option Int := fun x => if x = a then some z else F x
def del (F : Str → Option Int) (a : Str) : Str → Option Int := fun x => if x = a then none else F x

theorem keyOf_bstr {a : Str} (h : a.length ≤ maxLen) : keyOf Tryz.prog 25 (.string (bstr a)) = some (.string a) := by
 simp [keyOf, Tryz.underlying25, mapKey, bstr_size, h]
 exact bstr_data a

theorem isKey_str (a : Str) : WideAt.IsKeyLit (.string a) := trivial

theorem look_put {D : DataW Unit} (hD : IsMap D) (a : Str) (z : Int) (x : Str) : look (D.put (.string a) (.lit (.int .i64 z))) x = upd (look D) a z x := by
 unfold look upd
 by_cases e : x = a
 · subst e
   rw [has_put_same hD (isKey_str x), atKey_put_same hD (isKey_str x)]
   simp
 · have hne : Lit.string x ≠ Lit.string a := fun h => e (by injection h)
   rw [has_put_other hne, atKey_put_other hne, if_neg e]

theorem look_del {D : DataW Unit} (a : Str) (x : Str) : look (D.del (.string a)) x = del (look D) a x := by
 unfold look del
 by_cases e : x = a
 · subst e
   rw [has_del_same]
   simp
 · have hne : Lit.string x ≠ Lit.string a := fun h => e (by injection h)
   rw [if_neg e]
   simp only [has_del_other hne, atKey_del_other hne]

theorem Mp.lt {w : World} {b n : Nat} {F : Str → Option Int} (h : Mp w b n F) : b < w.heap.size := by
 obtain ⟨D, h, _⟩ := h
 exact h.lt
theorem Mp.kept {w w' : World} {b n : Nat} {F : Str → Option Int} {row : Option Nat} (h : Mp w b n F) (hg : w.grownBy w' row) (hne : some b ≠ row) : Mp w' b n F := by
 obtain ⟨D, h, e⟩ := h
 exact ⟨D, h.kept hg hne, e⟩
theorem Mp.below {w w' : World} {b n B : Nat} {F : Str → Option Int} (h : Mp w b n F) (hb : Below B w w') (hlt : b < B) : Mp w' b n F := by
 obtain ⟨D, ⟨es, clock, h1, h2⟩, e⟩ := h
 exact ⟨D, ⟨es, clock, (hb.block b hlt).trans h1, h2⟩, e⟩
theorem Mp.set {w : World} {b n : Nat} {F : Str → Option Int} (h : Mp w b n F) {p : Addr} (hp : b ≠ p.block) (u : Value) : Mp (w.setCell p u) b n F := by
 obtain ⟨D, h, e⟩ := h
 exact ⟨D, h.setCell hp u, e⟩
theorem Mp.made (w : World) : Mp (w.alloc (.map #[] 0)) w.heap.size 0 (fun _ => none) :=
 ⟨.map [], World.ownsMap_made w _ _ _, fun a => by simp [look, has]⟩
theorem Mp.up {w : World} {b n m : Nat} {F : Str → Option Int} (h : Mp w b n F) (hm : n ≤ m) : Mp w b m F := by
 obtain ⟨D, h, e⟩ := h
 exact ⟨D, h.mono hm, e⟩
theorem Mp.wf {w : World} {b n : Nat} {F : Str → Option Int} (h : Mp w b n F) (a : Str) (ha : a.length ≤ maxLen) (z : Int) (hz : F a = some z) : (Lit.int .i64 z).wf = true := by
 obtain ⟨D, h, e⟩ := h
 obtain ⟨c, _, hat, hw⟩ := h.lookup_int lawS Tryz.underlying260 Tryz.underlying3 (Tryz.zeroValue3 w) (keyOf_bstr ha)
 rw [← e a] at hz
 unfold look at hz
 rw [hat] at hz
 split at hz
 · simp at hz; subst hz; exact hw
 · cases hz

theorem Mp.get {w : World} {b n : Nat} {F : Str → Option Int} (h : Mp w b n F) (a : Str) (ha : a.length ≤ maxLen) :
 (Instr.lookup 260 (.map (some b)) (.string (bstr a)) false).run Tryz.prog w = .ok (.int .i64 ((F a).getD 0)) w := by
 obtain ⟨D, h, e⟩ := h
 obtain ⟨c, hr, hat, hw⟩ := h.lookup_int lawS Tryz.underlying260 Tryz.underlying3 (Tryz.zeroValue3 w) (keyOf_bstr ha)
 rw [hr, ← e a]
 unfold look
 rw [hat]
 by_cases hh : has D (.string a) = true
 · simp [hh]
 · have := atKey_of_not_has (by simpa using hh) (.lit (.int .i64 0) : DataW Unit) (D := D) (k := .string a)
   rw [hat] at this
   simp only [DataW.lit.injEq, Lit.int.injEq, true_and] at this
   simp [hh, this]

theorem Mp.getOk {w : World} {b n : Nat} {F : Str → Option Int} (h : Mp w b n F) (a : Str) (ha : a.length ≤ maxLen) :
 (Instr.lookup 260 (.map (some b)) (.string (bstr a)) true).run Tryz.prog w = .ok (.tuple #[.int .i64 ((F a).getD 0), .bool (F a).isSome]) w := by
 have hg := h.get a ha
 obtain ⟨D, h, e⟩ := h
 obtain ⟨v, ps, hr, hv⟩ := h.look_ok lawS Tryz.underlying260 (Tryz.zeroValue3 w) (plainElem_int Tryz.underlying3 (by decide)) (keyOf_bstr ha)
 obtain ⟨c, rfl, hc, hw⟩ := plainElem_int_inv Tryz.underlying3 hv
 simp only [Prod.mk.injEq] at hc
 rw [hr, ← e a]
 unfold look
 rw [hc.1]
 by_cases hh : has D (.string a) = true
 · simp [hh]
 · have := atKey_of_not_has (by simpa using hh) (.lit (.int .i64 0) : DataW Unit) (D := D) (k := .string a)
   rw [hc.1] at this
   simp only [DataW.lit.injEq, Lit.int.injEq, true_and] at this
   simp [hh, this]

theorem Mp.put {w : World} {b n : Nat} {F : Str → Option Int} (h : Mp w b n F) (a : Str) (ha : a.length ≤ maxLen) (z : Int) (hz : (Lit.int .i64 z).wf = true) (hn : n < maxLen) :
 ∃ w', (Instr.mapUpdate 260 (.map (some b)) (.string (bstr a)) (.int .i64 z)).run Tryz.prog w = .ok () w' ∧ Mp w' b (n + 1) (upd F a z) ∧ w.grownBy w' (some b) := by
 obtain ⟨D, h, e⟩ := h
 obtain ⟨w', hr, h', hg⟩ := h.update lawS Tryz.underlying260 hn (keyOf_bstr ha) (plainElem_int Tryz.underlying3 hz)
 exact ⟨w', hr, ⟨_, h', fun x => by rw [look_put h.isMap]; unfold upd; rw [e x]⟩, hg⟩
end Go.Proofs.YthcdppppppgckaaGreatDoor
