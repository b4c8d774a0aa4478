/- ForwardWithin's body, walked. -/
import Derived.Test.YtmjpjpdgejpeeaaLaws
import Derived.Deep.DeepCutAuto
namespace Go.Proofs.Ytmjpjpdgejpeeaa
open Go.RowKit Go.Sort

def mayB (port : Int) (M O : List Int) (x : Int) : Bool := ((x != port) && O.contains x) && M.contains x
def mustB (R W : List Int) (lo ov re kn fl : Bool) (x : Int) : Bool := (((R.contains x || (kn && W.contains x)) || lo) || ov) || re || (!kn && fl)

/-- where it goes, number by number -/
theorem decide_contains (port : Int) (M O R W : List Int) (lo ov re kn fl : Bool) (x : Int) : (lDecide port M O R W lo ov re kn fl).contains x = (mayB port M O x && mustB R W lo ov re kn fl x) := by
  have hf : x ∈ lFlood port M O ↔ mayB port M O x = true := by
    rw [lFlood, canon_mem]
    simp only [pFlood, mayB, Bool.and_eq_true, List.contains_iff_mem]
    constructor
    · rintro ⟨a, b, c⟩; exact ⟨⟨b, a⟩, c⟩
    · rintro ⟨⟨b, a⟩, c⟩; exact ⟨a, b, c⟩
  rw [Bool.eq_iff_iff, List.contains_iff_mem, Bool.and_eq_true]
  by_cases hall : (lo || ov || re || (!kn && fl)) = true
  · have hm : mustB R W lo ov re kn fl x = true := by
      unfold mustB
      generalize (R.contains x || (kn && W.contains x)) = z
      revert hall
      cases z <;> cases lo <;> cases ov <;> cases re <;> cases kn <;> cases fl <;> simp
    rw [lDecide, if_pos hall, hf]
    simp [hm]
  · have hm : mustB R W lo ov re kn fl x = pDecide R W kn x := by
      unfold mustB pDecide
      generalize (R.contains x || (kn && W.contains x)) = z
      revert hall
      cases z <;> cases lo <;> cases ov <;> cases re <;> cases kn <;> cases fl <;> simp
    rw [lDecide, if_neg hall, canon_mem, hf, hm]

theorem St.cells {w w' : World} {port : Int} {vm vo vr vw : Value} {lo ov re kn fl : Bool} {M O R W : List Int} {xs : List (Value × List Int)}
    (h : St w w' #[.int .i64 port, vm, vo, vr, vw, .bool lo, .bool ov, .bool re, .bool kn, .bool fl] vm vo vr vw M O R W xs) :
    w'.cell? ⟨w.heap.size, 0, none⟩ = some (.int .i64 port) ∧ w'.cell? ⟨w.heap.size, 1, none⟩ = some vm ∧ w'.cell? ⟨w.heap.size, 2, none⟩ = some vo ∧ w'.cell? ⟨w.heap.size, 3, none⟩ = some vr ∧ w'.cell? ⟨w.heap.size, 4, none⟩ = some vw ∧
    w'.cell? ⟨w.heap.size, 5, none⟩ = some (.bool lo) ∧ w'.cell? ⟨w.heap.size, 6, none⟩ = some (.bool ov) ∧ w'.cell? ⟨w.heap.size, 7, none⟩ = some (.bool re) ∧ w'.cell? ⟨w.heap.size, 8, none⟩ = some (.bool kn) ∧ w'.cell? ⟨w.heap.size, 9, none⟩ = some (.bool fl) := by
  have hg := h.box
  refine ⟨?_, ?_, ?_, ?_, ?_, ?_, ?_, ?_, ?_, ?_⟩ <;> exact cell_of_row _ _ _ _ _ _ hg

set_option maxRecDepth 100000 in
set_option maxHeartbeats 4000000 in
theorem law_within (port : Int) (vm vo vr vw : Value) (lo ov re kn fl : Bool) (M O R W : List Int) (x : Int) (w : World) (h : CaseIn w vm vo vr vw M O R W) :
    Calls Try.prog 5 #[.agg #[.int .i64 port, vm, vo, vr, vw, .bool lo, .bool ov, .bool re, .bool kn, .bool fl], .int .i64 x] w (RetV w (.bool true)) := by
  have H1 := Lib.hid (St.start (cs := #[.int .i64 port, vm, vo, vr, vw, .bool lo, .bool ov, .bool re, .bool kn, .bool fl]) h)
  have hg1 := H1.out.box
  clear h
  cases hf : fewB M O R W
  · go_enter Try.func5, Try.ntmps5
    go_wp2_with ((with_reducible show wpList _ _ _ _ _ _); refine wpList_wanted rfl (wp_load_row 24 _ rfl w.heap.size rfl 24 _ (0, 0) _ (by assumption) Try.underlying24 rfl (by exact infoC) ?_))
    refine (few_any port vm vo vr vw lo ov re kn fl M O R W _ H1.out.inn).mono ?_
    rintro e w2 ⟨rfl, hb2⟩
    have H2 := Lib.hid (H1.out.step hb2)
    have hg2 := H2.out.box
    clear hb2 hg1
    go_wp2_with ((with_reducible show wpList _ _ _ _ _ _); refine wpList_wanted rfl (wp_load_row 24 _ rfl w.heap.size rfl 24 _ (0, 0) _ (by assumption) Try.underlying24 rfl (by exact infoC) ?_))
    refine (live_any _).mono ?_
    rintro e w3 ⟨rfl, hb3⟩
    have H3 := Lib.hid (H2.out.step hb3)
    clear hb3 hg2
    go_wp2
    go_ret
    exact ⟨rfl, H3.out.bel⟩
  · go_enter Try.func5, Try.ntmps5
    go_wp2_with ((with_reducible show wpList _ _ _ _ _ _); refine wpList_wanted rfl (wp_load_row 24 _ rfl w.heap.size rfl 24 _ (0, 0) _ (by assumption) Try.underlying24 rfl (by exact infoC) ?_))
    refine (few_any port vm vo vr vw lo ov re kn fl M O R W _ H1.out.inn).mono ?_
    rintro e w2 ⟨rfl, hb2⟩
    have H2 := Lib.hid (H1.out.step hb2)
    have hg2 := H2.out.box
    clear hb2 hg1
    go_wp2_with ((with_reducible show wpList _ _ _ _ _ _); refine wpList_wanted rfl (wp_load_row 24 _ rfl w.heap.size rfl 24 _ (0, 0) _ (by assumption) Try.underlying24 rfl (by exact infoC) ?_))
    refine (told_any port vm vo vr vw lo ov re kn fl M O R W _ H2.out.inn).mono ?_
    rintro e w3 ⟨rfl, hb3⟩
    have H3 := Lib.hid (H2.out.step hb3)
    have hg3 := H3.out.box
    clear hb3 hg2
    go_wp2_with ((with_reducible show wpList _ _ _ _ _ _); refine wpList_wanted rfl (wp_load_row 24 _ rfl w.heap.size rfl 24 _ (0, 0) _ (by assumption) Try.underlying24 rfl (by exact infoC) ?_))
    refine (decide_any port vm vo vr vw lo ov re kn fl M O R W _ H3.out.inn).mono ?_
    rintro e w4 ⟨va, rfl, hi4, hb4⟩
    have H4 := Lib.hid ((H3.out.step hb4).add hi4)
    have hg4 := H4.out.box
    clear hb4 hg3 hi4
    go_wp2_with fail
    refine (has_any va _ x _ (H4.out.ex (va, lDecide port M O R W lo ov re kn fl) (by simp))).mono ?_
    rintro e w' ⟨rfl, rfl⟩
    have HG := Lib.hid (decide_contains port M O R W lo ov re kn fl x)
    obtain ⟨g, hg⟩ : ∃ g, (lDecide port M O R W lo ov re kn fl).contains x = g := ⟨_, rfl⟩
    rw [hg]
    obtain ⟨mb, hmb⟩ : ∃ mb, mayB port M O x = mb := ⟨_, rfl⟩
    obtain ⟨ub, hub⟩ : ∃ ub, mustB R W lo ov re kn fl x = ub := ⟨_, rfl⟩
    have HGE := Lib.hid (show g = (mb && ub) from by rw [← hg, HG.out, hmb, hub])
    have HMB := Lib.hid hmb
    have HUB := Lib.hid hub
    have HO := Lib.hid (has_any vo O x _ H4.out.inn.o)
    have HM := Lib.hid (has_any vm M x _ H4.out.inn.m)
    have HR := Lib.hid (has_any vr R x _ H4.out.inn.r)
    have HW := Lib.hid (has_any vw W x _ H4.out.inn.w)
    obtain ⟨c0, c1, c2, c3, c4, c5, c6, c7, c8, c9⟩ := H4.out.cells
    clear hg hmb hub hg4 HG
    go_upto_region 4 with fail
    go_cut [6] (fun s6 w' => s6 = .bool mb ∧ w4 = w')
    case first =>
      have hmay := HMB.out
      unfold mayB at hmay
      have A1 := HO.out
      have A2 := HM.out
      have HX := Lib.hid (show True from trivial)
      clear c3 c4 c5 c6 c7 c8 c9
      by_cases hne : (x != port) = true
      · cases ho : O.contains x
        · rw [ho] at A1
          rw [hne, ho] at hmay
          have HV := Lib.hid (show false = mb from hmay)
          have B1 := Lib.hid A1
          clear A1 A2 hmay ho
          go_wp2_with ((with_reducible refine B1.out.mono ?_); rintro e w' ⟨rfl, rfl⟩)
          go_meet
          case rel => exact ⟨congrArg Value.bool HV.out, rfl⟩
        · cases hm : M.contains x
          all_goals
            rw [ho] at A1
            rw [hm] at A2
            rw [hne, ho, hm] at hmay
            have HV := Lib.hid (show _ = mb from hmay)
            have B1 := Lib.hid A1
            have B2 := Lib.hid A2
            clear A1 A2 hmay ho hm
            go_wp2_with (first | ((with_reducible refine B1.out.mono ?_); rintro e w' ⟨rfl, rfl⟩) | ((with_reducible refine B2.out.mono ?_); rintro e w' ⟨rfl, rfl⟩))
            go_meet
            case rel => exact ⟨congrArg Value.bool HV.out, rfl⟩
      · have hne' : (x != port) = false := by simpa using hne
        rw [hne'] at hmay
        have HV := Lib.hid (show false = mb from hmay)
        clear A1 A2 hmay hne
        go_wp2
        go_meet
        case rel => exact ⟨congrArg Value.bool HV.out, rfl⟩
    case rest =>
      obtain ⟨rfl, rfl⟩ := hcut
      go_step
      go_step
      go_cut [] (fun w' => w4 = w')
      case first =>
        have hge := HGE.out
        clear c0 c1 c2 c3 c4 c5 c6 c7 c8 c9
        cases g
        · clear hge
          go_wp2
          go_meet
          case rel => rfl
        · obtain rfl : mb = true := by cases mb; simp at hge; rfl
          clear hge
          go_wp2
          go_meet
          case rel => rfl
      case rest =>
        subst hcut
        go_upto_region 7 with fail
        go_cut [7] (fun s7 w' => s7 = .bool ub ∧ w4 = w')
        case first =>
          have hmust := HUB.out
          unfold mustB at hmust
          have A1 := HR.out
          have A2 := HW.out
          clear c0 c1 c2 HMB HUB HGE HO HM
          cases hr : R.contains x
          · rw [hr] at A1 hmust
            cases kn
            · skip
              cases lo
              · skip
                cases ov
                · skip
                  cases re
                  · skip
                    cases fl
                    · skip
                      have HV := Lib.hid (show false = ub from hmust)
                      have B1 := Lib.hid A1
                      clear A1 A2 hmust HR HW
                      go_wp2_with (((with_reducible refine B1.out.mono ?_); rintro e w' ⟨rfl, rfl⟩))
                      go_meet
                      case rel => exact ⟨congrArg Value.bool HV.out, rfl⟩
                    · skip
                      have HV := Lib.hid (show true = ub from hmust)
                      have B1 := Lib.hid A1
                      clear A1 A2 hmust HR HW
                      go_wp2_with (((with_reducible refine B1.out.mono ?_); rintro e w' ⟨rfl, rfl⟩))
                      go_meet
                      case rel => exact ⟨congrArg Value.bool HV.out, rfl⟩
                  · skip
                    have HV := Lib.hid (show true = ub from hmust)
                    have B1 := Lib.hid A1
                    clear A1 A2 hmust HR HW
                    go_wp2_with (((with_reducible refine B1.out.mono ?_); rintro e w' ⟨rfl, rfl⟩))
                    go_meet
                    case rel => exact ⟨congrArg Value.bool HV.out, rfl⟩
                · skip
                  have HV := Lib.hid (show true = ub from hmust)
                  have B1 := Lib.hid A1
                  clear A1 A2 hmust HR HW
                  go_wp2_with (((with_reducible refine B1.out.mono ?_); rintro e w' ⟨rfl, rfl⟩))
                  go_meet
                  case rel => exact ⟨congrArg Value.bool HV.out, rfl⟩
              · skip
                have HV := Lib.hid (show true = ub from hmust)
                have B1 := Lib.hid A1
                clear A1 A2 hmust HR HW
                go_wp2_with (((with_reducible refine B1.out.mono ?_); rintro e w' ⟨rfl, rfl⟩))
                go_meet
                case rel => exact ⟨congrArg Value.bool HV.out, rfl⟩
            · cases hw : W.contains x
              · rw [hw] at A2 hmust
                cases lo
                · skip
                  cases ov
                  · skip
                    cases re
                    · skip
                      have HV := Lib.hid (show false = ub from hmust)
                      have B1 := Lib.hid A1
                      have B2 := Lib.hid A2
                      clear A1 A2 hmust HR HW
                      go_wp2_with (first | ((with_reducible refine B1.out.mono ?_); rintro e w' ⟨rfl, rfl⟩) | ((with_reducible refine B2.out.mono ?_); rintro e w' ⟨rfl, rfl⟩))
                      go_meet
                      case rel => exact ⟨congrArg Value.bool HV.out, rfl⟩
                    · skip
                      have HV := Lib.hid (show true = ub from hmust)
                      have B1 := Lib.hid A1
                      have B2 := Lib.hid A2
                      clear A1 A2 hmust HR HW
                      go_wp2_with (first | ((with_reducible refine B1.out.mono ?_); rintro e w' ⟨rfl, rfl⟩) | ((with_reducible refine B2.out.mono ?_); rintro e w' ⟨rfl, rfl⟩))
                      go_meet
                      case rel => exact ⟨congrArg Value.bool HV.out, rfl⟩
                  · skip
                    have HV := Lib.hid (show true = ub from hmust)
                    have B1 := Lib.hid A1
                    have B2 := Lib.hid A2
                    clear A1 A2 hmust HR HW
                    go_wp2_with (first | ((with_reducible refine B1.out.mono ?_); rintro e w' ⟨rfl, rfl⟩) | ((with_reducible refine B2.out.mono ?_); rintro e w' ⟨rfl, rfl⟩))
                    go_meet
                    case rel => exact ⟨congrArg Value.bool HV.out, rfl⟩
                · skip
                  have HV := Lib.hid (show true = ub from hmust)
                  have B1 := Lib.hid A1
                  have B2 := Lib.hid A2
                  clear A1 A2 hmust HR HW
                  go_wp2_with (first | ((with_reducible refine B1.out.mono ?_); rintro e w' ⟨rfl, rfl⟩) | ((with_reducible refine B2.out.mono ?_); rintro e w' ⟨rfl, rfl⟩))
                  go_meet
                  case rel => exact ⟨congrArg Value.bool HV.out, rfl⟩
              · rw [hw] at A2 hmust
                have HV := Lib.hid (show true = ub from hmust)
                have B1 := Lib.hid A1
                have B2 := Lib.hid A2
                clear A1 A2 hmust HR HW
                go_wp2_with (first | ((with_reducible refine B1.out.mono ?_); rintro e w' ⟨rfl, rfl⟩) | ((with_reducible refine B2.out.mono ?_); rintro e w' ⟨rfl, rfl⟩))
                go_meet
                case rel => exact ⟨congrArg Value.bool HV.out, rfl⟩
          · rw [hr] at A1 hmust
            have HV := Lib.hid (show true = ub from hmust)
            have B1 := Lib.hid A1
            clear A1 A2 hmust HR HW
            go_wp2_with (((with_reducible refine B1.out.mono ?_); rintro e w' ⟨rfl, rfl⟩))
            go_meet
            case rel => exact ⟨congrArg Value.bool HV.out, rfl⟩
        case rest =>
          obtain ⟨rfl, rfl⟩ := hcut
          have HL := Lib.hid (live_any w4)
          have H5 := Lib.hid (fun w5 (hb : Below w4.heap.size w4 w5) => (H4.out.step hb).bel)
          have hge := HGE.out
          clear c0 c1 c2 c3 c4 c5 c6 c7 c8 c9 HMB HUB HGE HO HM HR HW
          cases mb
          · obtain rfl : g = false := by simpa using hge
            clear hge
            go_wp2_with ((with_reducible refine HL.out.mono ?_); rintro e w5 ⟨rfl, hb5⟩; have HB := Lib.hid hb5; clear hb5)
            go_ret
            exact ⟨rfl, H5.out _ HB.out⟩
          · obtain rfl : g = ub := by simpa using hge
            clear hge
            go_wp2_with ((with_reducible refine HL.out.mono ?_); rintro e w5 ⟨rfl, hb5⟩; have HB := Lib.hid hb5; clear hb5)
            go_ret
            exact ⟨rfl, H5.out _ HB.out⟩
end Go.Proofs.Ytmjpjpdgejpeeaa
