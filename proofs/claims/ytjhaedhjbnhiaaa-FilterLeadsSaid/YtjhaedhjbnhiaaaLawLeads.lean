/- The walk of FilterLeads. -/
import Derived.Test.YtjhaedhjbnhiaaaFilAfter
namespace Go.Proofs.Ytjhaedhjbnhiaaa
open Go.RowKit Go.Lib Go.Sort
attribute [local go_sem ↓] Go.wp_at_zero Go.wp_at_succ

theorem FBox.set2 {w : World} {b : Nat} {ex : Bool} {v : Value} (h : FBox w b ex v) (e : Bool) (u : Value) : FBox ((w.setCell ⟨b, 0, none⟩ (.bool e)).setCell ⟨b, 1, none⟩ u) b e u := by
  have h' : w.heap[b]? = some (.cells #[.bool ex, v] 24 (0, 0)) := h
  unfold FBox
  simp [World.setCell, Array.getElem?_modify, h']

theorem aft_len {e E' : Bool} {L L' S : List Str} {k : Int} (hk : kindOk k) (hp : L'.Pairwise (· < ·)) (hE : E' = aftE k e) (hx : ∀ x, adm E' L' x = aftB k (adm e L x) (S.contains x)) : L'.length ≤ L.length + S.length := by
  have key : L' = (sasc (L ++ S)).filter (fun x => L'.contains x) := by
    refine srising_ext hp ((sasc_rising _).filter _) (fun x => ?_)
    rw [List.mem_filter, sasc_mem, List.contains_iff_mem]
    refine ⟨fun h => ⟨?_, h⟩, fun h => h.2⟩
    by_cases hm : x ∈ L ++ S
    · exact hm
    · exfalso
      rw [List.mem_append] at hm
      have h1 := hx x
      have hc : S.contains x = false := by
        cases hh : S.contains x
        · rfl
        · exact absurd (List.contains_iff_mem.1 hh) (fun k => hm (.inr k))
      rw [adm_mem h, adm_not (fun k => hm (.inl k)), hc, hE] at h1
      rcases hk with rfl | rfl | rfl | rfl <;> cases e <;> simp [aftE, aftB] at h1
  rw [key, ← List.length_append]
  exact Nat.le_trans (List.length_filter_le _ _) (sasc_length _)

theorem pdiff_len (g : Str) (e : Bool) (A : List Str) (d : Bool) (B : List Str) : ∀ r ∈ pdiff g e A d B, r.2.2.length ≤ A.length + B.length := by
  intro r hr
  have h1 : ∀ k p, ∀ r ∈ rec1 k g (sasc ((A ++ B).filter p)), r.2.2.length ≤ A.length + B.length := by
    intro k p r hr
    unfold rec1 at hr
    split at hr
    · simp at hr
    · rw [List.mem_singleton] at hr; subst hr
      rw [← List.length_append]; exact sasc_flen _ _
  unfold pdiff at hr
  split at hr
  · rcases List.mem_append.1 hr with hr | hr
    · exact h1 _ _ r hr
    · exact h1 _ _ r hr
  · rw [List.mem_singleton] at hr; subst hr
    have := sasc_length B
    show (sasc B).length ≤ _
    omega

theorem foldE_snoc (e : Bool) (R : List Rec) (k : Nat) (hk : k < R.length) : foldE e (R.take (k + 1)) = aftE (R.getD k default).1 (foldE e (R.take k)) := by
  rw [take_snoc R k hk, foldE_append]
  simp [foldE, List.getD_eq_getElem?_getD, hk]
theorem foldB_snoc (x : Str) (a : Bool) (R : List Rec) (k : Nat) (hk : k < R.length) : foldB x a (R.take (k + 1)) = aftB (R.getD k default).1 (foldB x a (R.take k)) ((R.getD k default).2.2.contains x) := by
  rw [take_snoc R k hk, foldB_append]
  simp [foldB, List.getD_eq_getElem?_getD, hk]

set_option maxHeartbeats 16000000 in
theorem law_leads (e : Bool) (v : Value) (A : List Str) (d : Bool) (u : Value) (B : List Str) (W : World) (hv : Strs W v A) (hu : Strs W u B) : Calls Try.prog 8 #[.agg #[.bool e, v], .agg #[.bool d, u]] W fun en W' => en = .returned (.bool true) ∧ Below W.heap.size W W' := by
  obtain ⟨ao, cap, rfl⟩ := hv.shape
  obtain ⟨bo, bcap, rfl⟩ := hu.shape
  have hv0 := Lib.hid hv
  have hu0 := Lib.hid (hu.mono ((Below.refl W.heap.size W).alloc (Nat.le_refl _) (.cells #[.bool e, .slice ao A.length cap] 24)))
  clear hv hu
  have HB := Lib.hid (Below.refl W.heap.size W)
  have hba : Below W.heap.size W (W.alloc (.cells #[.bool e, (.slice ao A.length cap)] 24)) := (Below.refl _ _).alloc (Nat.le_refl _) _
  have Xf := Lib.hid (FBox.new (w := W) (b := W.heap.size) e (.slice ao A.length cap) (by first | rfl | simp))
  have Sf := Lib.hid (hv0.out.mono hba)
  replace HB := Lib.hid (HB.out.trans (hba.mono HB.out.size))
  clear hba
  have hba : Below (W.alloc (.cells #[.bool e, (.slice ao A.length cap)] 24)).heap.size (W.alloc (.cells #[.bool e, (.slice ao A.length cap)] 24)) ((W.alloc (.cells #[.bool e, (.slice ao A.length cap)] 24)).alloc (.cells #[.bool d, (.slice bo B.length bcap)] 24)) := (Below.refl _ _).alloc (Nat.le_refl _) _
  have Xg := Lib.hid (FBox.new (w := (W.alloc (.cells #[.bool e, (.slice ao A.length cap)] 24))) (b := W.heap.size + 1) d (.slice bo B.length bcap) (by first | rfl | simp))
  have Sg := Lib.hid (hu0.out.mono hba)
  replace Xf := Lib.hid (Xf.out.below hba Xf.out.lt)
  replace Sf := Lib.hid (Sf.out.mono hba)
  replace HB := Lib.hid (HB.out.trans (hba.mono HB.out.size))
  clear hba
  by_cases hf : A.length ≤ 100 ∧ B.length ≤ 100
  · obtain ⟨ha, hb⟩ := hf
    obtain ⟨hr2, hrk, hrE, hrB⟩ := leads_plain [103] e A d B
    have hrl := pdiff_len [103] e A d B
    obtain ⟨R, hR⟩ : ∃ R, R = pdiff [103] e A d B := ⟨_, rfl⟩
    have HD : Hid (∀ v u w, Strs w v A → Strs w u B → Calls Try.prog 19 #[.string ⟨#[103]⟩, .agg #[.bool e, v], .agg #[.bool d, u]] w (RetRecs w R)) := by
      rw [hR]; intro v u w h h'
      have := diff_any [103] e d v u A B w (by unfold maxLen; simp) h h' (by omega)
      rwa [bstr_lit] at this
    rw [← hR] at hr2 hrk hrE hrB hrl
    have HR := Lib.hid (And.intro hrk (And.intro hrE (And.intro hrB hrl)))
    have hd2 : decide ((2 : Int) < (R.length : Int)) = false := decide_eq_false (by omega)
    clear hR hrk hrE hrB hrl
    go_enter Try.func8, Try.ntmps8
    go_wp2_with fail
    refine (few_yes e d _ _ A B _ Sf.out Sg.out ha hb).mono ?_
    rintro e w1 ⟨rfl, hb⟩
    replace Xf := Lib.hid (Xf.out.below hb Xf.out.lt)
    replace Sf := Lib.hid (Sf.out.mono hb)
    replace Xg := Lib.hid (Xg.out.below hb Xg.out.lt)
    replace Sg := Lib.hid (Sg.out.mono hb)
    replace HB := Lib.hid (HB.out.trans (hb.mono HB.out.size))
    clear hb
    obtain ⟨x1a, x1b, _, _⟩ := Xf.out.facts
    obtain ⟨x2a, x2b, _, _⟩ := Xg.out.facts
    go_wp2_with fail
    refine (HD.out _ _ _ Sf.out Sg.out).mono ?_
    clear x1a x1b x2a x2b
    rintro e w2 ⟨o, rfl, ho, hb⟩
    obtain ⟨ol, cl, rfl⟩ := ho.shape
    replace Xf := Lib.hid (Xf.out.below hb Xf.out.lt)
    replace Sf := Lib.hid (Sf.out.mono hb)
    replace Xg := Lib.hid (Xg.out.below hb Xg.out.lt)
    replace Sg := Lib.hid (Sg.out.mono hb)
    replace HB := Lib.hid (HB.out.trans (hb.mono HB.out.size))
    have Ql := Lib.hid ho
    clear hb ho
    obtain ⟨x3a, x3b, _, _⟩ := Xf.out.facts
    go_wp2_with fail
    refine (norm_any e _ A _ Sf.out (by omega)).mono ?_
    clear x3a x3b
    rintro e w3 ⟨o, rfl, ho, hb, _⟩
    obtain ⟨oh, ch, rfl⟩ := ho.shape
    have S_h := Lib.hid ho
    clear ho
    replace Xf := Lib.hid (Xf.out.below hb Xf.out.lt)
    replace Sf := Lib.hid (Sf.out.mono hb)
    replace Xg := Lib.hid (Xg.out.below hb Xg.out.lt)
    replace Sg := Lib.hid (Sg.out.mono hb)
    replace Ql := Lib.hid (Ql.out.mono hb)
    replace HB := Lib.hid (HB.out.trans (hb.mono HB.out.size))
    clear hb
    obtain ⟨bl, off, src, _, hlen, hidx, hcell⟩ := Ql.out.facts
    have hba : Below w3.heap.size w3 (w3.alloc (.cells #[.bool e, .slice oh (sasc A).length ch] 24)) := (Below.refl _ _).alloc (Nat.le_refl _) _
    have hal := sasc_length A
    have HST := Lib.hid (And.intro (FBox.new (w := w3) e (.slice oh (sasc A).length ch) rfl) (And.intro (S_h.out.mono hba) hba))
    clear hba
    go_wp2_with fail
    go_loopw [7] (fun i wr => ∃ k : Nat, ∃ E v L, k ≤ R.length ∧ i = .int .i64 k ∧ FBox wr w3.heap.size E v ∧ Strs wr v L ∧ L.Pairwise (· < ·) ∧ L.length ≤ 100 + k * 200 ∧ E = foldE e (R.take k) ∧ (∀ x, adm E L x = foldB x (adm e A x) (R.take k)) ∧ Below w3.heap.size w3 wr) (fun i _ => R.length - (intOf i).toNat)
    case atStart => exact ⟨0, e, _, sasc A, Nat.zero_le _, rfl, HST.out.1, HST.out.2.1, sasc_rising A, by omega, rfl, fun x => adm_sasc e A x, HST.out.2.2⟩
    case round =>
      obtain ⟨k, E, v, L, hk, rfl, hbox, hst, hpw, hll, hE, hx, hbel⟩ := hrel
      obtain ⟨vo, vc, rfl⟩ := hst.shape
      have HX := Lib.hid (And.intro hE hx)
      have HBX := Lib.hid hbox; have HSV := Lib.hid hst; have HBL := Lib.hid hbel; have HPW := Lib.hid hpw
      obtain ⟨c0, c1, _, _⟩ := hbox.facts
      have hlt3 := hbox.lt
      clear hE hx hbox hst hpw
      by_cases hlt : k < R.length
      · obtain ⟨hbw, d0, d1, d2, hsr, _⟩ := hcell k hlt
        have hp := hidx k hlt
        have hmem : R.getD k default ∈ R := by rw [List.getD_eq_getElem?_getD, List.getElem?_eq_getElem hlt]; exact List.getElem_mem hlt
        have hkk := HR.out.1 _ hmem
        have hsl := HR.out.2.2.2 _ hmem
        have HF := Lib.hid (And.intro (foldE_snoc e R k hlt) (fun x => foldB_snoc x (adm e A x) R k hlt))
        obtain ⟨⟨kk, gg, S⟩, hr⟩ : ∃ r, R.getD k default = r := ⟨_, rfl⟩
        rw [hr] at d0 d1 hsr hkk hsl HF
        simp only at d0 d1 hsr hkk hsl HF
        obtain ⟨sv, hsv⟩ : ∃ s, src k = s := ⟨_, rfl⟩
        rw [hsv] at d2 hsr
        obtain ⟨so, sc, rfl⟩ := hsr.shape
        have e0 := (hbel.cell (p := ⟨bl, off + k * 3, none⟩) hbw).trans d0
        have e1 := (hbel.cell (p := ⟨bl, off + k * 3 + 1, none⟩) hbw).trans d1
        have e2 := (hbel.cell (p := ⟨bl, off + k * 3 + 2, none⟩) hbw).trans d2
        have HA := Lib.hid (fun W' (hb : Below wr.heap.size wr W') => after_any E (.slice vo L.length vc) L kk gg (.slice so S.length sc) S W' (HSV.out.mono hb) ((hsr.mono hbel).mono hb) hkk (by omega))
        have HKK := Lib.hid (And.intro hkk hsl)
        clear hidx hcell d0 d1 d2 hmem hr hsv hsr hbel hkk hsl
        go_wp2
        go_region_with ((with_reducible refine (HA.out _ (Below.drew (Below.refl _ _))).mono ?_); rintro en w9 ⟨E', L', ⟨o, rfl, ho, hb, hlo⟩, hp', hE', hx'⟩; obtain ⟨oo, oc, rfl⟩ := ho.shape; have hb9 := Lib.hid ((Below.drew (Below.refl wr.heap.size wr)).trans (hb.mono (by simp))); have X9 := HBX.out.below hb9.out HBX.out.lt; obtain ⟨z0, z1, z2, z3⟩ := X9.facts; have HN := Lib.hid (And.intro ho (And.intro (hlo.mono (lo' := wr.heap.size) (by simp)) (And.intro hp' (And.intro hE' hx')))); have HX9 := Lib.hid X9; clear ho hb hlo hp' hE' hx' X9)
        all_goals
          go_wp2
          go_roundw
          case rel =>
            obtain ⟨n1, n2, n3, n4, n5⟩ := HN.out
            refine ⟨k + 1, E', _, L', by omega, by go_num, HX9.out.set2 _ _, (n1.far n2 hlt3 _).far n2 hlt3 _, n3, ?_, ?_, fun x => ?_, (((HBL.out.trans (hb9.out.mono HBL.out.size)).setCell (Nat.le_refl _) _).setCell (Nat.le_refl _) _)⟩
            · have := aft_len HKK.out.1 n3 n4 n5
              have := HKK.out.2
              omega
            · rw [HF.out.1, ← HX.out.1]; exact n4
            · rw [HF.out.2, ← HX.out.2]; exact n5 x
          case measure => simp [intOf]; omega
      · obtain rfl : k = R.length := by omega
        have EQ := Lib.hid (show E = d ∧ L = sasc B from by
          have h1 := HX.out.1
          rw [List.take_of_length_le (Nat.le_refl _), HR.out.2.1] at h1
          refine fil_same h1 HPW.out (sasc_rising B) (fun x => ?_)
          rw [HX.out.2 x, List.take_of_length_le (Nat.le_refl _), HR.out.2.2.1 x, adm_sasc])
        have Xh := HBX; have Sh := HSV
        replace Xg := Lib.hid (Xg.out.below hbel Xg.out.lt)
        replace Sg := Lib.hid (Sg.out.mono hbel)
        replace HB := Lib.hid (HB.out.trans (hbel.mono HB.out.size))
        clear hidx hcell hbel c0 c1 HST
        obtain ⟨q1, q2, _, _⟩ := Xg.out.facts
        have HK := Lib.hid (show ∀ w', Below wr.heap.size wr w' → w'.cell? ⟨w3.heap.size, 0, none⟩ = some (.bool E) ∧ w'.cell? ⟨w3.heap.size, 1, none⟩ = some (.slice vo L.length vc) ∧ w'.cell? ⟨W.heap.size + 1, 0, none⟩ = some (.bool d) ∧ w'.cell? ⟨W.heap.size + 1, 1, none⟩ = some (.slice bo B.length bcap) from fun w' hb => ⟨(Xh.out.below hb Xh.out.lt).facts.1, (Xh.out.below hb Xh.out.lt).facts.2.1, (Xg.out.below hb Xg.out.lt).facts.1, (Xg.out.below hb Xg.out.lt).facts.2.1⟩)
        have R0 := Lib.hid (Below.drew (Below.refl wr.heap.size wr))
        go_wp2_with fail
        go_region_held3 (fun w' => w'.cell? ⟨w3.heap.size, 0, none⟩ = some (.bool E) ∧ w'.cell? ⟨w3.heap.size, 1, none⟩ = some (.slice vo L.length vc) ∧ w'.cell? ⟨W.heap.size + 1, 0, none⟩ = some (.bool d) ∧ w'.cell? ⟨W.heap.size + 1, 1, none⟩ = some (.slice bo B.length bcap)) (first | exact HK.out _ R3.out | exact HK.out _ R2.out | exact HK.out _ R1.out | exact HK.out _ R0.out) (first | ((with_reducible refine (live_yes _).mono ?_); rintro e v3_3w ⟨rfl, hb⟩; replace Tn := Lib.hid (Tn.out.mono hb); have R3 := Lib.hid (R2.out.trans (hb.mono R2.out.size)); clear hb) | ((with_reducible refine (same_yes2 _ _ _ _ _ _ _ (Sh.out.mono R1.out) Tn.out EQ.out).mono ?_); rintro e v3_2w ⟨rfl, hb⟩; replace Tn := Lib.hid (Tn.out.mono hb); have R2 := Lib.hid (R1.out.trans (hb.mono R1.out.size)); clear hb) | ((with_reducible refine (norm_any d _ B _ (Sg.out.mono R0.out) (by omega)).mono ?_); rintro e v3_1w ⟨o, rfl, ho, hb, _⟩; obtain ⟨on, cn, rfl⟩ := ho.shape; have Tn := Lib.hid ho; clear ho; have R1 := Lib.hid (R0.out.trans (hb.mono R0.out.size)); clear hb))
        have hb := R3.out
        replace Xg := Lib.hid (Xg.out.below hb Xg.out.lt)
        replace Sg := Lib.hid (Sg.out.mono hb)
        replace Xh := Lib.hid (Xh.out.below hb Xh.out.lt)
        replace Sh := Lib.hid (Sh.out.mono hb)
        replace HB := Lib.hid (HB.out.trans (hb.mono HB.out.size))
        clear hb HK R0 R1 R2 R3
        go_wp2
        go_ret
        exact ⟨rfl, HB.out⟩
  · go_enter Try.func8, Try.ntmps8
    go_wp2_with fail
    refine (few_no e d _ _ A B _ Sf.out Sg.out hf).mono ?_
    rintro e w1 ⟨rfl, hb⟩
    replace Xf := Lib.hid (Xf.out.below hb Xf.out.lt)
    replace Sf := Lib.hid (Sf.out.mono hb)
    replace Xg := Lib.hid (Xg.out.below hb Xg.out.lt)
    replace Sg := Lib.hid (Sg.out.mono hb)
    replace HB := Lib.hid (HB.out.trans (hb.mono HB.out.size))
    clear hb
    go_wp2_with fail
    refine (live_yes _).mono ?_
    rintro e w2 ⟨rfl, hb⟩
    replace Xf := Lib.hid (Xf.out.below hb Xf.out.lt)
    replace Sf := Lib.hid (Sf.out.mono hb)
    replace Xg := Lib.hid (Xg.out.below hb Xg.out.lt)
    replace Sg := Lib.hid (Sg.out.mono hb)
    replace HB := Lib.hid (HB.out.trans (hb.mono HB.out.size))
    clear hb
    go_wp2
    go_ret
    exact ⟨rfl, HB.out⟩
end Go.Proofs.Ytjhaedhjbnhiaaa
