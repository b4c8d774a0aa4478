/- Texts joined into one file: BVl3, BSto, BVl4, BVl5. -/
import Derived.Test.YthcdppppppgckaaGreatDoorC30
import Derived.Test.YthcdppppppgckaaGreatDoorC04
import Derived.Test.YthcdppppppgckaaGreatDoorC05
import Derived.Test.YthcdppppppgckaaGreatDoorC29

namespace Go.Proofs.YthcdppppppgckaaGreatDoor
open Go.RowKit Go.Lib Go.Sort
set_option maxRecDepth 20000
set_option maxRecDepth 20000

theorem callFine1 (args : Array Value) (w : World) : (callFunc 145 args).run Tryz.prog w = .ok (.enter 145 args) w := by kernel_rfl
theorem fine1_any (b : Nat) (vp : Value) (L : List Int) (x : Int) (w : World) (hc : w.cell? ⟨b, 2, none⟩ = some vp) (hp : Ints w vp L) :
 Calls Tryz.prog 145 #[.int .i64 x, .pointer (some ⟨b, 0, none⟩)] w fun e w' => e = .returned (.bool (L.contains x)) ∧ Below w.heap.size w w' := by
 have HC := Lib.hid (contains_any vp L x w hp)
 obtain ⟨bo, bn, bc, rfl⟩ := hp.shape
 obtain ⟨r, hr⟩ : ∃ r, L.contains x = r := ⟨_, rfl⟩
 rw [hr] at HC ⊢
 clear hp hr
 go_enter Tryz.func145, Tryz.ntmps145
 go_wp2_with ((with_reducible refine HC.out.mono ?_); rintro e w2 ⟨rfl, hw2⟩; subst w2)
 go_ret
 exact ⟨rfl, Below.refl _ _⟩

set_option maxHeartbeats 2000000 in
theorem pfine_any (p : Pt) (vt vp : Value) (w : World) (ht : Ints w vt p.tagged) (hp : Ints w vp p.plain) :
 Calls Tryz.prog 80 #[.agg #[.int .i64 p.default_, vt, vp]] w fun e w' => e = .returned (.bool p.fine) ∧ Below w.heap.size w w' := by
 obtain ⟨W1, hW1⟩ : ∃ W, w.alloc (.cells #[.int .i64 p.default_, vt, vp] 56) = W := ⟨_, rfl⟩
 have hb : Below w.heap.size w W1 := by rw [← hW1]; exact (Below.refl _ _).alloc (Nat.le_refl _) _
 have hx : CBox W1 w.heap.size 56 #[.int .i64 p.default_, vt, vp] := by rw [← hW1]; exact CBox.new _ rfl
 have H1 := Lib.hid (rises_any vt p.tagged W1 (ht.mono hb))
 have H2 := Lib.hid (rises_any vp p.plain W1 (hp.mono hb))
 have H3 := Lib.hid (containsFunc_any vt p.tagged 145 #[.pointer (some ⟨w.heap.size, 0, none⟩)] (fun x => p.plain.contains x) W1 (ht.mono hb) callFine1 (fun x W hW => fine1_any w.heap.size vp p.plain x W (hx.below hW hx.lt |>.at_ 2 _ rfl).1 ((hp.mono hb).mono hW)))
 have HT := Lib.hid ht; have HP := Lib.hid hp; have HX := Lib.hid hx
 have H4 := Lib.hid (fun W (hW : Below w.heap.size w W) => member_any p vt vp p.default_ W (ht.mono hW) (hp.mono hW))
 have HB := Lib.hid hb; have HW := Lib.hid hW1
 obtain ⟨ao, an, ac, rfl⟩ := ht.shape
 obtain ⟨bo, bn, bc, rfl⟩ := hp.shape
 obtain ⟨c0, cf0⟩ := CBox.at_ hx 0 _ rfl
 obtain ⟨c1, cf1⟩ := CBox.at_ hx 1 _ rfl
 obtain ⟨c2, cf2⟩ := CBox.at_ hx 2 _ rfl
 clear hx hb hW1 ht hp
 obtain ⟨r, hr⟩ : ∃ r, p.fine = r := ⟨_, rfl⟩
 have HF := Lib.hid (show r = (risesV p.tagged && risesV p.plain && !(p.tagged.any fun x => p.plain.contains x) && ((p.default_ == 0) || p.member p.default_)) from hr.symm)
 rw [hr]
 clear hr
 cases q1 : risesV p.tagged
 · have HR := Lib.hid (show r = false from by rw [HF.out, q1]; rfl)
   rw [q1] at H1
   clear q1 HF H2 H3 H4
   rw [HR.out]
   go_enter Tryz.func80, Tryz.ntmps80
   go_upto_region 1 with fail
   rw [HW.out]
   go_wp2_with ((with_reducible refine H1.out.mono ?_); rintro e w2 ⟨rfl, hw2⟩; subst w2)
   go_ret
   exact ⟨rfl, HB.out⟩
 · rw [q1] at H1
   cases q2 : risesV p.plain
   · have HR := Lib.hid (show r = false from by rw [HF.out, q1, q2]; rfl)
     rw [q2] at H2
     clear q1 q2 HF H3 H4
     rw [HR.out]
     go_enter Tryz.func80, Tryz.ntmps80
     go_upto_region 1 with fail
     rw [HW.out]
     go_wp2_with (first | ((with_reducible refine H1.out.mono ?_); rintro e w2 ⟨rfl, hw2⟩; subst w2) | ((with_reducible refine H2.out.mono ?_); rintro e w2 ⟨rfl, hw2⟩; subst w2))
     go_ret
     exact ⟨rfl, HB.out⟩
   · rw [q2] at H2
     cases q3 : p.tagged.any fun x => p.plain.contains x
     · rw [q3] at H3
       cases q4 : (p.default_ == 0)
       · have HR := Lib.hid (show r = p.member p.default_ from by rw [HF.out, q1, q2, q3, q4]; rfl)
         clear q1 q2 q3 HF
         rw [HR.out]
         obtain ⟨m, hm⟩ : ∃ m, p.member p.default_ = m := ⟨_, rfl⟩
         rw [hm] at H4 ⊢
         clear hm HR
         go_enter Tryz.func80, Tryz.ntmps80
         go_upto_region 1 with fail
         rw [HW.out]
         go_wp2_with (first | ((with_reducible refine H1.out.mono ?_); rintro e w2 ⟨rfl, hw2⟩; subst w2) | ((with_reducible refine H2.out.mono ?_); rintro e w2 ⟨rfl, hw2⟩; subst w2) | ((with_reducible refine H3.out.mono ?_); rintro e w2 ⟨rfl, hb2⟩; have HB2 := Lib.hid (HB.out.trans (hb2.mono HB.out.size)); have X2 := Lib.hid (HX.out.below hb2 HX.out.lt); clear hb2 c0 cf0 c1 cf1 c2 cf2; obtain ⟨c0, _⟩ := X2.out.at_ 0 _ rfl; obtain ⟨c1, _⟩ := X2.out.at_ 1 _ rfl; obtain ⟨c2, _⟩ := X2.out.at_ 2 _ rfl) | ((with_reducible refine (H4.out _ HB2.out).mono ?_); rintro e w3 ⟨rfl, hb3⟩; have HB3 := Lib.hid (HB2.out.trans (hb3.mono HB2.out.size)); clear hb3))
         go_ret
         exact ⟨rfl, HB3.out⟩
       · have HR := Lib.hid (show r = true from by rw [HF.out, q1, q2, q3, q4]; rfl)
         clear q1 q2 q3 HF H4
         rw [HR.out]
         go_enter Tryz.func80, Tryz.ntmps80
         go_upto_region 1 with fail
         rw [HW.out]
         go_wp2_with (first | ((with_reducible refine H1.out.mono ?_); rintro e w2 ⟨rfl, hw2⟩; subst w2) | ((with_reducible refine H2.out.mono ?_); rintro e w2 ⟨rfl, hw2⟩; subst w2) | ((with_reducible refine H3.out.mono ?_); rintro e w2 ⟨rfl, hb2⟩; have HB2 := Lib.hid (HB.out.trans (hb2.mono HB.out.size)); have X2 := Lib.hid (HX.out.below hb2 HX.out.lt); clear hb2 c0 cf0 c1 cf1 c2 cf2; obtain ⟨c0, _⟩ := X2.out.at_ 0 _ rfl))
         go_ret
         exact ⟨rfl, HB2.out⟩
     · rw [q3] at H3
       have HR := Lib.hid (show r = false from by rw [HF.out, q1, q2, q3]; rfl)
       clear q1 q2 q3 HF H4
       rw [HR.out]
       go_enter Tryz.func80, Tryz.ntmps80
       go_upto_region 1 with fail
       rw [HW.out]
       go_wp2_with (first | ((with_reducible refine H1.out.mono ?_); rintro e w2 ⟨rfl, hw2⟩; subst w2) | ((with_reducible refine H2.out.mono ?_); rintro e w2 ⟨rfl, hw2⟩; subst w2) | ((with_reducible refine H3.out.mono ?_); rintro e w2 ⟨rfl, hb2⟩; have HB2 := Lib.hid (HB.out.trans (hb2.mono HB.out.size)); have X2 := Lib.hid (HX.out.below hb2 HX.out.lt); clear hb2 c0 cf0 c1 cf1 c2 cf2; obtain ⟨c0, _⟩ := X2.out.at_ 0 _ rfl))
       go_ret
       exact ⟨rfl, HB2.out⟩

def Pts (R : Nat → Prop) (w : World) (v : Value) (L : List Pt) : Prop :=
 ∃ ao cap b off, v = .slice ao L.length cap ∧ (L = [] ∨ ao = some ⟨b, off, none⟩) ∧ L.length ≤ 1000000 ∧
   ∀ k, (hk : k < L.length) → b < w.heap.size ∧ R b ∧ (Lit.int .i64 L[k].default_).wf = true ∧ ∃ vt vp, w.cell? ⟨b, off + k * 3, none⟩ = some (.int .i64 L[k].default_) ∧ w.cell? ⟨b, off + k * 3 + 1, none⟩ = some vt ∧ w.cell? ⟨b, off + k * 3 + 2, none⟩ = some vp ∧
     Ints w vt L[k].tagged ∧ Ints w vp L[k].plain ∧ (∀ j, vt.ownBlock = some j → R j) ∧ (∀ j, vp.ownBlock = some j → R j)
theorem Ints.same {w w' : World} {v : Value} {L : List Int} (h : Ints w v L) (hs : w.heap.size ≤ w'.heap.size) (hb : ∀ j, v.ownBlock = some j → j < w.heap.size → w'.heap[j]? = w.heap[j]?) : Ints w' v L := by
 obtain ⟨ao, cap, b, off, rfl, h0, h1, h2, h3⟩ := h
 refine ⟨ao, cap, b, off, rfl, h0, h1, h2, fun k hk => ?_⟩
 rcases h0 with rfl | rfl
 · cases hk
 · obtain ⟨hl, hc⟩ := h3 k hk
   exact ⟨Nat.lt_of_lt_of_le hl hs, (World.cell?_of_block (a := ⟨b, off + k, none⟩) (hb b rfl hl)).trans hc⟩
theorem Ints.turn {F : Nat → Prop} {w w' : World} {v : Value} {L : List Int} (h : Ints w v L) (k : Turn F w w') (hF : ∀ j, v.ownBlock = some j → ¬ F j) : Ints w' v L :=
 h.same k.size fun j hj hl => k.block j hl (hF j hj)
theorem Pts.turn {R F : Nat → Prop} {w w' : World} {v : Value} {L : List Pt} (h : Pts R w v L) (t : Turn F w w') (hF : ∀ j, R j → ¬ F j) : Pts R w' v L := by
 obtain ⟨ao, cap, b, off, rfl, h0, h1, h2⟩ := h
 refine ⟨ao, cap, b, off, rfl, h0, h1, fun k hk => ?_⟩
 obtain ⟨hl, hR, hw, vt, vp, c0, c1, c2, i1, i2, r1, r2⟩ := h2 k hk
 have hs := fun o => World.cell?_of_block (a := ⟨b, o, none⟩) (t.block b hl (hF b hR))
 exact ⟨Nat.lt_of_lt_of_le hl t.size, hR, hw, vt, vp, (hs _).trans c0, (hs _).trans c1, (hs _).trans c2, i1.turn t fun j hj => hF j (r1 j hj), i2.turn t fun j hj => hF j (r2 j hj), r1, r2⟩
theorem Pts.mono {R : Nat → Prop} {w w' : World} {v : Value} {L : List Pt} (h : Pts R w v L) (hb : Below w.heap.size w w') : Pts R w' v L :=
 h.turn (F := fun _ => False) (Turn.of_below hb) fun _ _ h => h
theorem Pts.wide {R R' : Nat → Prop} {w : World} {v : Value} {L : List Pt} (h : Pts R w v L) (hr : ∀ j, R j → R' j) : Pts R' w v L := by
 obtain ⟨ao, cap, b, off, rfl, h0, h1, h2⟩ := h
 refine ⟨ao, cap, b, off, rfl, h0, h1, fun k hk => ?_⟩
 obtain ⟨hl, hR, hw, vt, vp, c0, c1, c2, i1, i2, r1, r2⟩ := h2 k hk
 exact ⟨hl, hr _ hR, hw, vt, vp, c0, c1, c2, i1, i2, fun j hj => hr _ (r1 j hj), fun j hj => hr _ (r2 j hj)⟩
theorem Pts.shape {R : Nat → Prop} {w : World} {v : Value} {L : List Pt} (h : Pts R w v L) : ∃ a c, v = .slice a L.length c := by
 obtain ⟨ao, cap, b, off, rfl, _⟩ := h
 exact ⟨_, _, rfl⟩
theorem Pts.facts {R : Nat → Prop} {w : World} {v : Value} {L : List Pt} (h : Pts R w v L) :
 ∃ b off, L.length ≤ 1000000 ∧ (∀ ty w', (Builtin.len_ #[24] ty #[v]).run Tryz.prog w' = .ok (.int .i64 L.length) w') ∧
   (∀ k, k < L.length → ∀ w', (Instr.indexAt 24 v (.int .i64 k)).run Tryz.prog w' = .ok (.pointer (some ⟨b, off + k * 3, none⟩)) w') ∧
   (∀ k, (hk : k < L.length) → b < w.heap.size ∧ ∃ vt vp, w.cell? ⟨b, off + k * 3, none⟩ = some (.int .i64 L[k].default_) ∧ w.cell? ⟨b, off + k * 3 + 1, none⟩ = some vt ∧ w.cell? ⟨b, off + k * 3 + 2, none⟩ = some vp ∧ Ints w vt L[k].tagged ∧ Ints w vp L[k].plain) := by
 obtain ⟨ao, cap, b, off, rfl, h0, h1, h2⟩ := h
 refine ⟨b, off, h1, fun ty w' => run_len_any Tryz.underlying24 ao L.length cap ty w', fun k hk w' => ?_, fun k hk => ?_⟩
 · rcases h0 with h0 | rfl
   · subst h0; cases hk
   · exact run_index_any (P := Tryz.prog) (s := 3) Tryz.underlying24 (fun w => by kernel_rfl) b off L.length cap k hk w'
 · obtain ⟨hl, _, _, vt, vp, c0, c1, c2, i1, i2, _⟩ := h2 k hk
   exact ⟨hl, vt, vp, c0, c1, c2, i1, i2⟩

theorem allpt_take {L : List Pt} {k : Nat} (hk : k < L.length) (h : (L.take k).all Pt.fine = true) : (L.take (k + 1)).all Pt.fine = L[k].fine := by
 rw [List.take_succ_eq_append_getElem hk, List.all_append, h]
 simp
theorem allpt_not {L : List Pt} {k : Nat} (hk : k < L.length) (h : L[k].fine = false) : ¬ L.all Pt.fine = true := fun q => by
 have := List.all_eq_true.1 q _ (List.getElem_mem hk)
 rw [h] at this
 cases this
set_option maxHeartbeats 2000000 in
theorem vcheck_any (R : Nat → Prop) (v : Value) (L : List Pt) (w : World) (h : Pts R w v L) :
 Calls Tryz.prog 28 #[v] w fun e w' => e = .returned (.int .i64 (vCheck L)) ∧ Below w.heap.size w w' := by
 obtain ⟨b, off, hm, hlen, hidx, hc⟩ := h.facts
 have HH := Lib.hid h
 obtain ⟨r, hr⟩ : ∃ r, vCheck L = r := ⟨_, rfl⟩
 have HF := Lib.hid (show r = if 1 ≤ L.length ∧ L.length ≤ 16 ∧ L.all Pt.fine = true then 0 else 3 from hr.symm)
 rw [hr]
 clear hr h
 cases q1 : decide (L.length < 1)
 · cases q2 : decide (16 < L.length)
   · have b1 := of_decide_eq_false q1; have b2 := of_decide_eq_false q2
     have d1 : decide ((L.length : Int) < 1) = false := decide_eq_false (by omega)
     have d2 : decide ((16 : Int) < L.length) = false := decide_eq_false (by omega)
     have HB12 := Lib.hid (And.intro (show 1 ≤ L.length by omega) (show L.length ≤ 16 by omega))
     clear b1 b2
     have hlen' := Lib.hid hlen
     go_enter Tryz.func28, Tryz.ntmps28
     go_wp2_with fail
     go_loopw [4, 15] (fun _ i wr => ∃ k : Nat, k ≤ L.length ∧ i = .int .i64 (k : Nat) ∧ (L.take k).all Pt.fine = true ∧ Below w.heap.size w wr) (fun _ i _ => L.length - (intOf i).toNat)
     case atStart => exact ⟨0, Nat.zero_le _, rfl, rfl, Below.refl _ _⟩
     case round =>
      obtain ⟨k, hk, rfl, hn, hb⟩ := hrel
      clear q1 q2 d1 d2
      by_cases hlt : k < L.length
      · have HS := Lib.hid (allpt_take hlt hn)
        have HN := Lib.hid (fun h => allpt_not hlt h)
        obtain ⟨hl, vt, vp, c0, c1, c2, i1, i2⟩ := hc k hlt
        have s0 := (hb.cell (p := ⟨b, off + k * 3, none⟩) hl).trans c0
        have s1 := (hb.cell (p := ⟨b, off + k * 3 + 1, none⟩) hl).trans c1
        have s2 := (hb.cell (p := ⟨b, off + k * 3 + 2, none⟩) hl).trans c2
        have hp := hidx k hlt
        have hb1 : Below wr.heap.size wr (wr.alloc (.cells #[.int .i64 L[k].default_, vt, vp] 56)) := (Below.refl _ _).alloc (Nat.le_refl _) _
        have HC := Lib.hid (pfine_any L[k] vt vp (wr.alloc (.cells #[.int .i64 L[k].default_, vt, vp] 56)) ((i1.mono hb).mono hb1) ((i2.mono hb).mono hb1))
        have HB := Lib.hid (hb.trans (hb1.mono hb.size))
        obtain ⟨ao, an, ac, rfl⟩ := i1.shape
        obtain ⟨bo, bn, bc, rfl⟩ := i2.shape
        obtain ⟨d, hd⟩ : ∃ d, L[k].default_ = d := ⟨_, rfl⟩
        obtain ⟨f, hf⟩ : ∃ f, L[k].fine = f := ⟨_, rfl⟩
        rw [hd] at s0 HC HB
        rw [hf] at HC HS HN
        clear hidx hc hn hb hb1 c0 c1 c2 i1 i2 hl hd hf hlen
        cases f
        · have HR := Lib.hid (show r = 3 from by rw [HF.out, if_neg (fun h => HN.out rfl h.2.2)])
          clear HS HN HF
          go_wp2_with ((with_reducible refine HC.out.mono ?_); rintro e w2 ⟨rfl, hb2⟩; have HB2 := Lib.hid (HB.out.trans (hb2.mono HB.out.size)); clear hb2)
          go_ret
          exact ⟨by rw [HR.out]; rfl, HB2.out⟩
        · clear HN
          go_wp2_with ((with_reducible refine HC.out.mono ?_); rintro e w2 ⟨rfl, hb2⟩; have HB2 := Lib.hid (HB.out.trans (hb2.mono HB.out.size)); clear hb2)
          go_roundw
          case rel => exact ⟨k + 1, by omega, by go_num, HS.out, HB2.out⟩
          case measure => simp [intOf]; omega
      · have HR := Lib.hid (show r = 0 from by
         rw [List.take_of_length_le (by omega)] at hn
         rw [HF.out, if_pos ⟨HB12.out.1, HB12.out.2, hn⟩])
        have HB := Lib.hid hb
        clear hidx hc hn hb hlen
        go_wp2_with fail
        go_ret
        exact ⟨by rw [HR.out]; rfl, HB.out⟩
   · have b2 := of_decide_eq_true q2
     have d1 : decide ((L.length : Int) < 1) = false := decide_eq_false (by omega)
     have d2 : decide ((16 : Int) < L.length) = true := decide_eq_true (by omega)
     have HR := Lib.hid (show r = 3 from by rw [HF.out, if_neg (fun h => by omega)])
     rw [HR.out]
     clear b2 hidx hc
     go_enter Tryz.func28, Tryz.ntmps28
     go_wp2_with fail
     go_ret
     exact ⟨rfl, Below.refl _ _⟩
 · have b1 := of_decide_eq_true q1
   have d1 : decide ((L.length : Int) < 1) = true := decide_eq_true (by omega)
   have HR := Lib.hid (show r = 3 from by rw [HF.out, if_neg (fun h => by omega)])
   rw [HR.out]
   clear b1 hidx hc
   go_enter Tryz.func28, Tryz.ntmps28
   go_wp2_with fail
   go_ret
   exact ⟨rfl, Below.refl _ _⟩
end Go.Proofs.YthcdppppppgckaaGreatDoor

namespace Go.Proofs.YthcdppppppgckaaGreatDoor
open Go.RowKit Go.Lib
set_option maxRecDepth 20000

def setsL (w : World) (b : Nat) : Nat → List Value → World
 | _, [] => w
 | i, v :: l => setsL (w.setCell ⟨b, i, none⟩ v) b (i + 1) l
def setsA : Array Value → Nat → List Value → Array Value
 | cs, _, [] => cs
 | cs, i, v :: l => setsA (cs.setIfInBounds i v) (i + 1) l
section
variable {b B : Nat} {T : TypeId} {cs : Array Value} {w w0 : World}
theorem setsL_box : ∀ (l : List Value) (i : Nat) {w : World} {cs : Array Value}, CBox w b T cs → CBox (setsL w b i l) b T (setsA cs i l)
 | [], _, _, _, h => h
 | v :: l, i, _, _, h => setsL_box l (i + 1) (h.set i v)
theorem setsL_far {b' : Nat} {T' : TypeId} {cs' : Array Value} (hne : b' ≠ b) : ∀ (l : List Value) (i : Nat) {w : World}, CBox w b' T' cs' → CBox (setsL w b i l) b' T' cs'
 | [], _, _, h => h
 | v :: l, i, _, h => setsL_far hne l (i + 1) (h.far (p := ⟨b, i, none⟩) hne v)
theorem setsL_below (hb : B ≤ b) : ∀ (l : List Value) (i : Nat) {w : World}, Below B w0 w → Below B w0 (setsL w b i l)
 | [], _, _, h => h
 | v :: l, i, _, h => setsL_below hb l (i + 1) (h.setCell (p := ⟨b, i, none⟩) hb v)
theorem setsL_heap {k : Nat} (hk : k ≠ b) : ∀ (l : List Value) (i : Nat) (w : World), (setsL w b i l).heap[k]? = w.heap[k]?
 | [], _, _ => rfl
 | v :: l, i, w => (setsL_heap hk l (i + 1) _).trans (Below.heap_setCell w ⟨b, i, none⟩ v k hk)
theorem setsL_size : ∀ (l : List Value) (i : Nat) (w : World), (setsL w b i l).heap.size = w.heap.size
 | [], _, _ => rfl
 | v :: l, i, w => (setsL_size l (i + 1) _).trans (by simp [World.setCell])
end
theorem box3 {w : World} {b : Nat} {T : TypeId} {x0 x1 x2 : Value} (h : CBox w b T #[x0, x1, x2]) : w.cell? ⟨b, 0, none⟩ = some x0 ∧ w.cell? ⟨b, 1, none⟩ = some x1 ∧ w.cell? ⟨b, 2, none⟩ = some x2 :=
 ⟨(h.at_ 0 _ rfl).1, (h.at_ 1 _ rfl).1, (h.at_ 2 _ rfl).1⟩
theorem box7 {w : World} {b : Nat} {T : TypeId} {x0 x1 x2 x3 x4 x5 x6 : Value} (h : CBox w b T #[x0, x1, x2, x3, x4, x5, x6]) :
 w.cell? ⟨b, 0, none⟩ = some x0 ∧ w.cell? ⟨b, 1, none⟩ = some x1 ∧ w.cell? ⟨b, 2, none⟩ = some x2 ∧ w.cell? ⟨b, 3, none⟩ = some x3 ∧ w.cell? ⟨b, 4, none⟩ = some x4 ∧ w.cell? ⟨b, 5, none⟩ = some x5 ∧ w.cell? ⟨b, 6, none⟩ = some x6 :=
 ⟨(h.at_ 0 _ rfl).1, (h.at_ 1 _ rfl).1, (h.at_ 2 _ rfl).1, (h.at_ 3 _ rfl).1, (h.at_ 4 _ rfl).1, (h.at_ 5 _ rfl).1, (h.at_ 6 _ rfl).1⟩
theorem cells7s {w : World} {b : Nat} {T : TypeId} {x0 x1 x2 x3 x4 x5 x6 : Value} (h : CBox w b T #[x0, x1, x2, x3, x4, x5, x6]) (v0 v1 v2 v3 v4 v5 v6 : Value) : CBox (setsL w b 0 [v0, v1, v2, v3, v4, v5, v6]) b T #[v0, v1, v2, v3, v4, v5, v6] :=
 have h0 : CBox _ b T #[v0, x1, x2, x3, x4, x5, x6] := h.set 0 v0
 have h1 : CBox _ b T #[v0, v1, x2, x3, x4, x5, x6] := h0.set 1 v1
 have h2 : CBox _ b T #[v0, v1, v2, x3, x4, x5, x6] := h1.set 2 v2
 have h3 : CBox _ b T #[v0, v1, v2, v3, x4, x5, x6] := h2.set 3 v3
 have h4 : CBox _ b T #[v0, v1, v2, v3, v4, x5, x6] := h3.set 4 v4
 have h5 : CBox _ b T #[v0, v1, v2, v3, v4, v5, x6] := h4.set 5 v5
 have h6 : CBox _ b T #[v0, v1, v2, v3, v4, v5, v6] := h5.set 6 v6
 h6
end Go.Proofs.YthcdppppppgckaaGreatDoor

namespace Go.Proofs.YthcdppppppgckaaGreatDoor
open Go.RowKit Go.Lib Go.Sort
set_option maxRecDepth 20000
set_option maxRecDepth 20000

def frOk (f : Fr) : Prop := f.dst.length ≤ maxLen ∧ f.src.length ≤ maxLen ∧ f.data.length ≤ maxLen
theorem encodes_any (f : Fr) (w : World) (hs : frOk f) :
 Calls Tryz.prog 170 #[encF f] w fun e w' => e = .returned (.bool (fineF f)) ∧ Below w.heap.size w w' := by
 have hc := fun W => enc_any f W hs
 obtain ⟨x, hx⟩ : ∃ x, eEnc f = x := ⟨_, rfl⟩
 obtain ⟨r, hr⟩ : ∃ r, fineF f = r := ⟨_, rfl⟩
 have h2 : x.2 = if r then 0 else 1 := by rw [← hx, ← hr]; unfold eEnc; split <;> simp_all
 rw [hx] at hc
 rw [hr]
 obtain ⟨x1, x2⟩ := x
 dsimp only at h2
 subst h2
 have HC := Lib.hid hc
 obtain ⟨dst, src, tg, vl, pr, ty, da⟩ := f
 unfold encF fcells at HC ⊢
 dsimp only at HC ⊢
 clear hx hr hc hs
 obtain ⟨W1, hW1⟩ : ∃ W, w.alloc (.cells #[.string (bstr dst), .string (bstr src), .bool tg, .int .i64 vl, .int .i64 pr, .int .i64 ty, .string (bstr da)] 48) = W := ⟨_, rfl⟩
 have HB := Lib.hid (show Below w.heap.size w W1 from by rw [← hW1]; exact (Below.refl _ _).alloc (Nat.le_refl _) _)
 have hx : CBox W1 w.heap.size 48 #[.string (bstr dst), .string (bstr src), .bool tg, .int .i64 vl, .int .i64 pr, .int .i64 ty, .string (bstr da)] := by rw [← hW1]; exact CBox.new _ rfl
 have HW := Lib.hid hW1
 obtain ⟨c0, cf0⟩ := CBox.at_ hx 0 _ rfl
 obtain ⟨c1, cf1⟩ := CBox.at_ hx 1 _ rfl
 obtain ⟨c2, cf2⟩ := CBox.at_ hx 2 _ rfl
 obtain ⟨c3, cf3⟩ := CBox.at_ hx 3 _ rfl
 obtain ⟨c4, cf4⟩ := CBox.at_ hx 4 _ rfl
 obtain ⟨c5, cf5⟩ := CBox.at_ hx 5 _ rfl
 obtain ⟨c6, cf6⟩ := CBox.at_ hx 6 _ rfl
 clear hx hW1
 cases r
 all_goals
  rw [show (if _ = true then (0 : Int) else 1) = _ from rfl] at HC
  go_enter Tryz.func170, Tryz.ntmps170
  go_upto_region 1 with fail
  rw [HW.out]
  go_wp2_with ((with_reducible refine (HC.out _).mono ?_); rintro e w2 ⟨rfl, hb2⟩; have HB2 := Lib.hid (HB.out.trans (hb2.mono HB.out.size)); clear hb2)
  go_ret
  exact ⟨rfl, HB2.out⟩

def askedP (l : List Pt) (port : Int) (f : Fr) : Pt × Int :=
 if vCheck l ≠ 0 then (⟨0, [], []⟩, vCheck l) else if port < 0 ∨ (l.length : Int) ≤ port ∨ fineF f = false then (⟨0, [], []⟩, 1) else (l.getD port.toNat default, 0)
def RetAsked (w0 w : World) (r : Pt × Int) (e : Ending) (w' : World) : Prop :=
 ∃ vt vp, e = .returned (.tuple #[.agg #[.int .i64 r.1.default_, vt, vp], .int .i64 r.2]) ∧ Ints w0 vt r.1.tagged ∧ Ints w0 vp r.1.plain ∧ Below w.heap.size w w'
theorem retAsked_zero (w0 w w' : World) (n : Int) (hb : Below w.heap.size w w') : RetAsked w0 w (⟨0, [], []⟩, n) (.returned (.tuple #[.agg #[.int .i64 0, .slice none 0 0, .slice none 0 0], .int .i64 n])) w' :=
 ⟨_, _, rfl, Ints.nil _, Ints.nil _, hb⟩
theorem vCheck_cases (l : List Pt) : vCheck l = 0 ∨ vCheck l = 3 := by unfold vCheck; split <;> simp

set_option maxHeartbeats 4000000 in
theorem asked_any (R : Nat → Prop) (v : Value) (L : List Pt) (port : Int) (f : Fr) (w0 w : World) (h0 : Pts R w0 v L) (hw0 : Below w0.heap.size w0 w) (hs : frOk f) :
 Calls Tryz.prog 109 #[v, .int .i64 port, encF f] w (RetAsked w0 w (askedP L port f)) := by
 have h := h0.mono hw0
 obtain ⟨b, off, hm, hlen, hidx, hc⟩ := h0.facts
 obtain ⟨dst, src, tg, vl, pr, ty, da⟩ := f
 obtain ⟨W1, hW1⟩ : ∃ W, w.alloc (.cells #[.string (bstr dst), .string (bstr src), .bool tg, .int .i64 vl, .int .i64 pr, .int .i64 ty, .string (bstr da)] 48) = W := ⟨_, rfl⟩
 obtain ⟨q0, hq0⟩ : ∃ q, w.heap.size = q := ⟨_, rfl⟩
 have hb1 : Below w.heap.size w W1 := by rw [← hW1]; exact (Below.refl _ _).alloc (Nat.le_refl _) _
 have hx1 : CBox W1 q0 48 #[.string (bstr dst), .string (bstr src), .bool tg, .int .i64 vl, .int .i64 pr, .int .i64 ty, .string (bstr da)] := by rw [← hW1]; exact CBox.new _ hq0.symm
 obtain ⟨W2, hW2⟩ : ∃ W, W1.alloc (.cells #[.int .i64 0, .slice none 0 0, .slice none 0 0] 56) = W := ⟨_, rfl⟩
 obtain ⟨q1, hq1⟩ : ∃ q, W1.heap.size = q := ⟨_, rfl⟩
 have hb2 : Below W1.heap.size W1 W2 := by rw [← hW2]; exact (Below.refl _ _).alloc (Nat.le_refl _) _
 have HX := Lib.hid (hx1.below hb2 hx1.lt)
 have HZ := Lib.hid (show CBox W2 q1 56 #[.int .i64 0, .slice none 0 0, .slice none 0 0] from by rw [← hW2]; exact CBox.new _ hq1.symm)
 have HB := Lib.hid (hb1.trans (hb2.mono hb1.size))
 have HLE := Lib.hid (show w.heap.size ≤ q1 from by have := hb1.size; omega)
 have HNE := Lib.hid (show q0 ≠ q1 from by have := hx1.lt; omega)
 have HP := Lib.hid (h.mono HB.out)
 have HCK := Lib.hid (vcheck_any R v L W2 HP.out)
 have HEN := Lib.hid (fun W => encodes_any ⟨dst, src, tg, vl, pr, ty, da⟩ W hs)
 have HIX := Lib.hid hidx; have HCE := Lib.hid hc
 have HW1 := Lib.hid hW1; have HW2 := Lib.hid hW2; have HQ0 := Lib.hid hq0; have HQ1 := Lib.hid (show q0 + 1 = q1 from by rw [← hq1, ← hW1, World.size_alloc, hq0])
 obtain ⟨r, hr⟩ : ∃ r, askedP L port ⟨dst, src, tg, vl, pr, ty, da⟩ = r := ⟨_, rfl⟩
 obtain ⟨fi, hfi⟩ : ∃ b, fineF ⟨dst, src, tg, vl, pr, ty, da⟩ = b := ⟨_, rfl⟩
 have HR := Lib.hid (show r = if vCheck L ≠ 0 then (⟨0, [], []⟩, vCheck L) else if port < 0 ∨ (L.length : Int) ≤ port ∨ fi = false then (⟨0, [], []⟩, 1) else (L.getD port.toNat default, 0) from by rw [← hr, ← hfi]; rfl)
 rw [hr]
 rw [hfi] at HEN
 unfold encF fcells at HEN ⊢
 dsimp only at HEN ⊢
 have HV := Lib.hid (vCheck_cases L)
 obtain ⟨ck, hck⟩ : ∃ c, vCheck L = c := ⟨_, rfl⟩
 rw [hck] at HCK HR HV
 have HW0 := Lib.hid hw0
 clear hw0 h0
 clear hx1 hb1 hb2 hW1 hW2 hq0 hq1 h hs hidx hc hr hfi hck hm
 go_enter Tryz.func109, Tryz.ntmps109
 go_upto_region 1 with fail
 rw [HW1.out, HW2.out, HQ0.out, HQ1.out]
 rcases HV.out with hv | hv
 · subst hv
   go_upto_region 2 with ((with_reducible refine HCK.out.mono ?_); rintro e w3 ⟨rfl, hb3⟩; have B3 := Lib.hid (HB.out.trans (hb3.mono HB.out.size)); have X3 := Lib.hid (HX.out.below hb3 HX.out.lt); have Z3 := Lib.hid (HZ.out.below hb3 HZ.out.lt); have P3 := Lib.hid (HP.out.mono hb3); have HB3 := Lib.hid hb3; clear hb3)
   obtain ⟨c0, cf0⟩ := CBox.at_ X3.out 0 _ rfl
   obtain ⟨c1, cf1⟩ := CBox.at_ X3.out 1 _ rfl
   obtain ⟨c2, cf2⟩ := CBox.at_ X3.out 2 _ rfl
   obtain ⟨c3, cf3⟩ := CBox.at_ X3.out 3 _ rfl
   obtain ⟨c4, cf4⟩ := CBox.at_ X3.out 4 _ rfl
   obtain ⟨c5, cf5⟩ := CBox.at_ X3.out 5 _ rfl
   obtain ⟨c6, cf6⟩ := CBox.at_ X3.out 6 _ rfl
   obtain ⟨z0, zf0⟩ := CBox.at_ Z3.out 0 _ rfl
   obtain ⟨z1, zf1⟩ := CBox.at_ Z3.out 1 _ rfl
   obtain ⟨z2, zf2⟩ := CBox.at_ Z3.out 2 _ rfl
   cases q1' : decide (port < 0)
   · have g1 := of_decide_eq_false q1'
     obtain ⟨pn, rfl⟩ := Int.eq_ofNat_of_zero_le (show 0 ≤ port by omega)
     cases q2' : decide (L.length ≤ pn)
     · have g2 := of_decide_eq_false q2'
       clear g1
       cases fi
       · have HR0 := Lib.hid (show r = (⟨0, [], []⟩, 1) from by rw [HR.out, if_neg (by decide), if_pos (.inr (.inr rfl))])
         go_wp2_with ((with_reducible refine (HEN.out _).mono ?_); rintro e w4 ⟨rfl, hb4⟩; have B4 := Lib.hid (B3.out.trans (hb4.mono B3.out.size)); have Z4 := Lib.hid (Z3.out.below hb4 Z3.out.lt); clear z0 zf0 z1 zf1 z2 zf2; obtain ⟨z0, zf0⟩ := CBox.at_ Z4.out 0 _ rfl; obtain ⟨z1, zf1⟩ := CBox.at_ Z4.out 1 _ rfl; obtain ⟨z2, zf2⟩ := CBox.at_ Z4.out 2 _ rfl; clear hb4)
         have hz := box3 (setsL_box [.int .i64 0, .slice none 0 0, .slice none 0 0] 0 Z4.out)
         dsimp only [setsL] at hz
         obtain ⟨r0, r1, r2⟩ := hz
         refine bodyPost_ret (v := .tuple #[.agg #[.int .i64 0, .slice none 0 0, .slice none 0 0], .int .i64 1]) (by simp [results, Tryz.results109, go_sem, r0, r1, r2]) rfl ?_
         rw [HR0.out]
         exact retAsked_zero w0 w _ 1 (setsL_below HLE.out [.int .i64 0, .slice none 0 0, .slice none 0 0] 0 B4.out)
       · have g2' : pn < L.length := by omega
         have HR0 := Lib.hid (show r = (L[pn], 0) from by rw [HR.out, if_neg (by decide), if_neg (fun h => by rcases h with h | h | h <;> first | omega | cases h), Int.toNat_natCast]; simp [List.getD_eq_getElem?_getD, g2'])
         obtain ⟨hl, vt, vp, s0, s1, s2, i1, i2⟩ := HCE.out pn g2'
         have hp := HIX.out pn g2'
         obtain ⟨P0, hP0⟩ : ∃ P0, L[pn] = P0 := ⟨_, rfl⟩
         rw [hP0] at HR0 s0 i1 i2
         have HI := Lib.hid (And.intro i1 i2)
         obtain ⟨ao, an, ac, rfl⟩ := i1.shape
         obtain ⟨bo, bn, bc, rfl⟩ := i2.shape
         have HS := Lib.hid (fun (W : World) (hW : Below w0.heap.size w0 W) => And.intro ((hW.cell (p := ⟨b, off + pn * 3, none⟩) hl).trans s0) (And.intro ((hW.cell (p := ⟨b, off + pn * 3 + 1, none⟩) hl).trans s1) ((hW.cell (p := ⟨b, off + pn * 3 + 2, none⟩) hl).trans s2)))
         obtain ⟨d, hd⟩ : ∃ d, P0.default_ = d := ⟨_, rfl⟩
         have HD := Lib.hid hd
         rw [hd] at HS
         clear i1 i2 s0 s1 s2 hd hl hP0 g2'
         go_wp2_with ((with_reducible refine (HEN.out _).mono ?_); rintro e w4 ⟨rfl, hb4⟩; have B4 := Lib.hid (B3.out.trans (hb4.mono B3.out.size)); have Z4 := Lib.hid (Z3.out.below hb4 Z3.out.lt); clear z0 zf0 z1 zf1 z2 zf2; obtain ⟨z0, zf0⟩ := CBox.at_ Z4.out 0 _ rfl; obtain ⟨z1, zf1⟩ := CBox.at_ Z4.out 1 _ rfl; obtain ⟨z2, zf2⟩ := CBox.at_ Z4.out 2 _ rfl; obtain ⟨s0, s1, s2⟩ := HS.out _ (HW0.out.trans (B4.out.mono HW0.out.size)); clear hb4)
         have hz := box3 (setsL_box [.int .i64 d, .slice ao an ac, .slice bo bn bc] 0 Z4.out)
         dsimp only [setsL] at hz
         obtain ⟨r0, r1, r2⟩ := hz
         refine bodyPost_ret (v := .tuple #[.agg #[.int .i64 d, .slice ao an ac, .slice bo bn bc], .int .i64 0]) (by simp [results, Tryz.results109, go_sem, r0, r1, r2]) rfl ?_
         have hbf := setsL_below HLE.out [.int .i64 d, .slice ao an ac, .slice bo bn bc] 0 B4.out
         rw [HR0.out]
         exact ⟨_, _, by rw [HD.out], HI.out.1, HI.out.2, hbf⟩
     · have g2 := of_decide_eq_true q2'
       have HR0 := Lib.hid (show r = (⟨0, [], []⟩, 1) from by rw [HR.out, if_neg (by decide), if_pos (.inr (.inl (by omega)))])
       have hlen := hlen
       clear g1 g2
       go_wp2_with fail
       have hz := box3 (setsL_box [.int .i64 0, .slice none 0 0, .slice none 0 0] 0 Z3.out)
       dsimp only [setsL] at hz
       obtain ⟨r0, r1, r2⟩ := hz
       refine bodyPost_ret (v := .tuple #[.agg #[.int .i64 0, .slice none 0 0, .slice none 0 0], .int .i64 1]) (by simp [results, Tryz.results109, go_sem, r0, r1, r2]) rfl ?_
       rw [HR0.out]
       exact retAsked_zero w0 w _ 1 (setsL_below HLE.out [.int .i64 0, .slice none 0 0, .slice none 0 0] 0 B3.out)
   · have g1 := of_decide_eq_true q1'
     have HR0 := Lib.hid (show r = (⟨0, [], []⟩, 1) from by rw [HR.out, if_neg (by decide), if_pos (.inl g1)])
     clear g1
     go_wp2_with fail
     have hz := box3 (setsL_box [.int .i64 0, .slice none 0 0, .slice none 0 0] 0 Z3.out)
     dsimp only [setsL] at hz
     obtain ⟨r0, r1, r2⟩ := hz
     refine bodyPost_ret (v := .tuple #[.agg #[.int .i64 0, .slice none 0 0, .slice none 0 0], .int .i64 1]) (by simp [results, Tryz.results109, go_sem, r0, r1, r2]) rfl ?_
     rw [HR0.out]
     exact retAsked_zero w0 w _ 1 (setsL_below HLE.out [.int .i64 0, .slice none 0 0, .slice none 0 0] 0 B3.out)
 · subst hv
   have HR0 := Lib.hid (show r = (⟨0, [], []⟩, 3) from by rw [HR.out, if_pos (by decide)])
   obtain ⟨z0, zf0⟩ := CBox.at_ HZ.out 0 _ rfl
   obtain ⟨z1, zf1⟩ := CBox.at_ HZ.out 1 _ rfl
   obtain ⟨z2, zf2⟩ := CBox.at_ HZ.out 2 _ rfl
   go_wp2_with ((with_reducible refine HCK.out.mono ?_); rintro e w3 ⟨rfl, hb3⟩; have B3 := Lib.hid (HB.out.trans (hb3.mono HB.out.size)); have Z3 := Lib.hid (HZ.out.below hb3 HZ.out.lt); clear z0 zf0 z1 zf1 z2 zf2; obtain ⟨z0, zf0⟩ := CBox.at_ Z3.out 0 _ rfl; obtain ⟨z1, zf1⟩ := CBox.at_ Z3.out 1 _ rfl; obtain ⟨z2, zf2⟩ := CBox.at_ Z3.out 2 _ rfl; clear hb3)
   have hz := box3 (setsL_box [.int .i64 0, .slice none 0 0, .slice none 0 0] 0 Z3.out)
   dsimp only [setsL] at hz
   obtain ⟨r0, r1, r2⟩ := hz
   refine bodyPost_ret (v := .tuple #[.agg #[.int .i64 0, .slice none 0 0, .slice none 0 0], .int .i64 3]) (by simp [results, Tryz.results109, go_sem, r0, r1, r2]) rfl ?_
   rw [HR0.out]
   exact retAsked_zero w0 w _ 3 (setsL_below HLE.out [.int .i64 0, .slice none 0 0, .slice none 0 0] 0 B3.out)

theorem enc_zero : encF frZero = .agg #[.string ⟨#[]⟩, .string ⟨#[]⟩, .bool false, .int .i64 0, .int .i64 0, .int .i64 0, .string ⟨#[]⟩] := by
 unfold encF fcells frZero
 dsimp only
 rw [bstr_nil]
def RetFr (w : World) (r : Fr × Int) (e : Ending) (w' : World) : Prop := e = .returned (.tuple #[encF r.1, .int .i64 r.2]) ∧ Below w.heap.size w w'
def vIn1 (p : Pt) (f : Fr) : Fr × Int :=
 if (if f.vlan = 0 then p.default_ else f.vlan) = 0 ∨ p.member (if f.vlan = 0 then p.default_ else f.vlan) = false then (frZero, 6)
 else (if f.vlan = 0 then { f with tagged := true, vlan := p.default_ } else f, 0)
theorem vIn_asked (L : List Pt) (port : Int) (f : Fr) : vIn L port f = if (askedP L port f).2 ≠ 0 then (frZero, (askedP L port f).2) else vIn1 (askedP L port f).1 f := by
 unfold vIn askedP vIn1
 by_cases h1 : vCheck L ≠ 0
 · rw [if_pos h1, if_pos h1, if_pos h1]
 · rw [if_neg h1, if_neg h1]
   by_cases h2 : port < 0 ∨ (L.length : Int) ≤ port ∨ fineF f = false
   · rw [if_pos h2, if_pos h2, if_pos (by decide)]
   · rw [if_neg h2, if_neg h2]
     by_cases h3 : f.vlan = 0 <;> simp [h3]
set_option maxHeartbeats 4000000 in
theorem vin_any (R : Nat → Prop) (v : Value) (L : List Pt) (port : Int) (f : Fr) (w : World) (h : Pts R w v L) (hs : frOk f) :
 Calls Tryz.prog 61 #[v, .int .i64 port, encF f] w (RetFr w (vIn L port f)) := by
 rw [vIn_asked]
 obtain ⟨⟨P0, er⟩, hA⟩ : ∃ A, askedP L port f = A := ⟨_, rfl⟩
 have HAS := Lib.hid (fun W (hW : Below w.heap.size w W) => asked_any R v L port f w W h hW hs)
 rw [hA] at HAS ⊢
 dsimp only at HAS ⊢
 obtain ⟨dst, src, tg, vl, pr, ty, da⟩ := f
 obtain ⟨W1, hW1⟩ : ∃ W, w.alloc (.cells #[.string (bstr dst), .string (bstr src), .bool tg, .int .i64 vl, .int .i64 pr, .int .i64 ty, .string (bstr da)] 48) = W := ⟨_, rfl⟩
 obtain ⟨q0, hq0⟩ : ∃ q, w.heap.size = q := ⟨_, rfl⟩
 have hb1 : Below w.heap.size w W1 := by rw [← hW1]; exact (Below.refl _ _).alloc (Nat.le_refl _) _
 have hx1 : CBox W1 q0 48 #[.string (bstr dst), .string (bstr src), .bool tg, .int .i64 vl, .int .i64 pr, .int .i64 ty, .string (bstr da)] := by rw [← hW1]; exact CBox.new _ hq0.symm
 obtain ⟨W2, hW2⟩ : ∃ W, W1.alloc (.cells #[.string ⟨#[]⟩, .string ⟨#[]⟩, .bool false, .int .i64 0, .int .i64 0, .int .i64 0, .string ⟨#[]⟩] 48) = W := ⟨_, rfl⟩
 obtain ⟨q1, hq1⟩ : ∃ q, W1.heap.size = q := ⟨_, rfl⟩
 have hb2 : Below W1.heap.size W1 W2 := by rw [← hW2]; exact (Below.refl _ _).alloc (Nat.le_refl _) _
 have HX := Lib.hid (hx1.below hb2 hx1.lt)
 have HZ := Lib.hid (show CBox W2 q1 48 #[.string ⟨#[]⟩, .string ⟨#[]⟩, .bool false, .int .i64 0, .int .i64 0, .int .i64 0, .string ⟨#[]⟩] from by rw [← hW2]; exact CBox.new _ hq1.symm)
 have HB := Lib.hid (hb1.trans (hb2.mono hb1.size))
 have HLE := Lib.hid (show w.heap.size ≤ q1 from by have := hb1.size; omega)
 have HNE := Lib.hid (show q0 ≠ q1 ∧ w.heap.size ≤ q0 from by have := hx1.lt; omega)
 have HW1 := Lib.hid hW1; have HW2 := Lib.hid hW2; have HQ0 := Lib.hid hq0; have HQ1 := Lib.hid (show q0 + 1 = q1 from by rw [← hq1, ← hW1, World.size_alloc, hq0])
 obtain ⟨r, hr⟩ : ∃ r, (if er ≠ 0 then (frZero, er) else vIn1 P0 ⟨dst, src, tg, vl, pr, ty, da⟩) = r := ⟨_, rfl⟩
 have HR := Lib.hid hr
 rw [hr]
 unfold encF fcells at HAS ⊢
 dsimp only at HAS ⊢
 clear hx1 hb1 hb2 hW1 hW2 hq0 hq1 h hs hr hA
 go_enter Tryz.func61, Tryz.ntmps61
 go_upto_region 1 with fail
 rw [HW1.out, HW2.out, HQ0.out, HQ1.out]
 obtain ⟨c0, cf0⟩ := CBox.at_ HX.out 0 _ rfl
 obtain ⟨c1, cf1⟩ := CBox.at_ HX.out 1 _ rfl
 obtain ⟨c2, cf2⟩ := CBox.at_ HX.out 2 _ rfl
 obtain ⟨c3, cf3⟩ := CBox.at_ HX.out 3 _ rfl
 obtain ⟨c4, cf4⟩ := CBox.at_ HX.out 4 _ rfl
 obtain ⟨c5, cf5⟩ := CBox.at_ HX.out 5 _ rfl
 obtain ⟨c6, cf6⟩ := CBox.at_ HX.out 6 _ rfl
 go_upto_region 2 with ((with_reducible refine (HAS.out _ HB.out).mono ?_); rintro e w3 ⟨vt, vp, rfl, hi1, hi2, hb3⟩; obtain ⟨ao, an, ac, rfl⟩ := hi1.shape; obtain ⟨bo, bn, bc, rfl⟩ := hi2.shape; have B3 := Lib.hid (HB.out.trans (hb3.mono HB.out.size)); have X3 := Lib.hid (HX.out.below hb3 HX.out.lt); have Z3 := Lib.hid (HZ.out.below hb3 HZ.out.lt); have I3 := Lib.hid (And.intro hi1 hi2); have HS3 := Lib.hid hb3.size; clear hb3 hi1 hi2)
 clear c0 cf0 c1 cf1 c2 cf2 c3 cf3 c4 cf4 c5 cf5 c6 cf6
 obtain ⟨d, hd⟩ : ∃ d, P0.default_ = d := ⟨_, rfl⟩
 have HD := Lib.hid hd
 rw [hd]
 obtain ⟨W4, hW4⟩ : ∃ W, w3.alloc (.cells #[.int .i64 d, .slice ao an ac, .slice bo bn bc] 56) = W := ⟨_, rfl⟩
 obtain ⟨q2, hq2⟩ : ∃ q, w3.heap.size = q := ⟨_, rfl⟩
 have hb4 : Below w3.heap.size w3 W4 := by rw [← hW4]; exact (Below.refl _ _).alloc (Nat.le_refl _) _
 have P4 := Lib.hid (show CBox W4 q2 56 #[.int .i64 d, .slice ao an ac, .slice bo bn bc] from by rw [← hW4]; exact CBox.new _ hq2.symm)
 have B4 := Lib.hid (B3.out.trans (hb4.mono B3.out.size)); have X4 := Lib.hid (X3.out.below hb4 X3.out.lt); have Z4 := Lib.hid (Z3.out.below hb4 Z3.out.lt); have I4 := Lib.hid (And.intro (I3.out.1.mono B4.out) (I3.out.2.mono B4.out)); have I0 := I3
 have HN2 := Lib.hid (show q2 ≠ q0 ∧ q2 ≠ q1 from by have := X3.out.lt; have := Z3.out.lt; omega)
 rw [hW4, hq2]
 clear hW4 hq2 hb4 hd X3 Z3 B3 I3 HX HZ HB HAS HW1 HW2
 obtain ⟨c0, cf0⟩ := CBox.at_ X4.out 0 _ rfl
 obtain ⟨c1, cf1⟩ := CBox.at_ X4.out 1 _ rfl
 obtain ⟨c2, cf2⟩ := CBox.at_ X4.out 2 _ rfl
 obtain ⟨c3, cf3⟩ := CBox.at_ X4.out 3 _ rfl
 obtain ⟨c4, cf4⟩ := CBox.at_ X4.out 4 _ rfl
 obtain ⟨c5, cf5⟩ := CBox.at_ X4.out 5 _ rfl
 obtain ⟨c6, cf6⟩ := CBox.at_ X4.out 6 _ rfl
 obtain ⟨z0, zf0⟩ := CBox.at_ Z4.out 0 _ rfl
 obtain ⟨z1, zf1⟩ := CBox.at_ Z4.out 1 _ rfl
 obtain ⟨z2, zf2⟩ := CBox.at_ Z4.out 2 _ rfl
 obtain ⟨z3, zf3⟩ := CBox.at_ Z4.out 3 _ rfl
 obtain ⟨z4, zf4⟩ := CBox.at_ Z4.out 4 _ rfl
 obtain ⟨z5, zf5⟩ := CBox.at_ Z4.out 5 _ rfl
 obtain ⟨z6, zf6⟩ := CBox.at_ Z4.out 6 _ rfl
 obtain ⟨p0, pf0⟩ := CBox.at_ P4.out 0 _ rfl
 obtain ⟨p1, pf1⟩ := CBox.at_ P4.out 1 _ rfl
 obtain ⟨p2, pf2⟩ := CBox.at_ P4.out 2 _ rfl
 cases q1' : (er != 0)
 · have he : er = 0 := by simpa [bne] using q1'
   subst he
   clear q1'
   cases qv : (vl == 0)
   · have hv0 : vl ≠ 0 := by simpa using qv
     have HNZ := Lib.hid hv0
     clear hv0
     have HMB := Lib.hid (member_any P0 (.slice ao an ac) (.slice bo bn bc) vl W4 I4.out.1 I4.out.2)
     obtain ⟨m, hm⟩ : ∃ m, P0.member vl = m := ⟨_, rfl⟩
     rw [hm, HD.out] at HMB
     cases m
     · have HR0 := Lib.hid (show r = (frZero, 6) from by rw [← HR.out, if_neg (fun h => h rfl)]; unfold vIn1; dsimp only; rw [if_neg HNZ.out, if_neg HNZ.out]; rw [if_pos (.inr hm)])
       clear hm
       go_wp2_with ((with_reducible refine HMB.out.mono ?_); rintro e w6 ⟨rfl, hb6⟩; have B6 := Lib.hid (B4.out.trans (hb6.mono B4.out.size)); have X6 := Lib.hid (X4.out.below hb6 X4.out.lt); have Z6 := Lib.hid (Z4.out.below hb6 Z4.out.lt); clear hb6 c0 cf0 c1 cf1 c2 cf2 c3 cf3 c4 cf4 c5 cf5 c6 cf6 z0 zf0 z1 zf1 z2 zf2 z3 zf3 z4 zf4 z5 zf5 z6 zf6 p0 pf0 p1 pf1 p2 pf2; obtain ⟨c0, cf0⟩ := CBox.at_ X6.out 0 _ rfl; obtain ⟨c1, cf1⟩ := CBox.at_ X6.out 1 _ rfl; obtain ⟨c2, cf2⟩ := CBox.at_ X6.out 2 _ rfl; obtain ⟨c3, cf3⟩ := CBox.at_ X6.out 3 _ rfl; obtain ⟨c4, cf4⟩ := CBox.at_ X6.out 4 _ rfl; obtain ⟨c5, cf5⟩ := CBox.at_ X6.out 5 _ rfl; obtain ⟨c6, cf6⟩ := CBox.at_ X6.out 6 _ rfl; obtain ⟨z0, zf0⟩ := CBox.at_ Z6.out 0 _ rfl; obtain ⟨z1, zf1⟩ := CBox.at_ Z6.out 1 _ rfl; obtain ⟨z2, zf2⟩ := CBox.at_ Z6.out 2 _ rfl; obtain ⟨z3, zf3⟩ := CBox.at_ Z6.out 3 _ rfl; obtain ⟨z4, zf4⟩ := CBox.at_ Z6.out 4 _ rfl; obtain ⟨z5, zf5⟩ := CBox.at_ Z6.out 5 _ rfl; obtain ⟨z6, zf6⟩ := CBox.at_ Z6.out 6 _ rfl)
       have hz := box7 (cells7s Z6.out (.string ⟨#[]⟩) (.string ⟨#[]⟩) (.bool false) (.int .i64 0) (.int .i64 0) (.int .i64 0) (.string ⟨#[]⟩))
       dsimp only [setsL] at hz
       obtain ⟨r0, r1, r2, r3, r4, r5, r6⟩ := hz
       refine bodyPost_ret (v := .tuple #[.agg #[.string ⟨#[]⟩, .string ⟨#[]⟩, .bool false, .int .i64 0, .int .i64 0, .int .i64 0, .string ⟨#[]⟩], .int .i64 6]) (by simp [results, Tryz.results61, go_sem, r0, r1, r2, r3, r4, r5, r6]) rfl ?_
       rw [HR0.out]
       exact ⟨by rw [enc_zero], setsL_below HLE.out [.string ⟨#[]⟩, .string ⟨#[]⟩, .bool false, .int .i64 0, .int .i64 0, .int .i64 0, .string ⟨#[]⟩] 0 B6.out⟩
     · have HR0 := Lib.hid (show r = (⟨dst, src, tg, vl, pr, ty, da⟩, 0) from by rw [← HR.out, if_neg (fun h => h rfl)]; unfold vIn1; dsimp only; rw [if_neg HNZ.out, if_neg HNZ.out]; rw [if_neg (fun h => by rcases h with h | h <;> first | exact HNZ.out h | (rw [hm] at h; cases h))])
       clear hm
       go_wp2_with ((with_reducible refine HMB.out.mono ?_); rintro e w6 ⟨rfl, hb6⟩; have B6 := Lib.hid (B4.out.trans (hb6.mono B4.out.size)); have X6 := Lib.hid (X4.out.below hb6 X4.out.lt); have Z6 := Lib.hid (Z4.out.below hb6 Z4.out.lt); clear hb6 c0 cf0 c1 cf1 c2 cf2 c3 cf3 c4 cf4 c5 cf5 c6 cf6 z0 zf0 z1 zf1 z2 zf2 z3 zf3 z4 zf4 z5 zf5 z6 zf6 p0 pf0 p1 pf1 p2 pf2; obtain ⟨c0, cf0⟩ := CBox.at_ X6.out 0 _ rfl; obtain ⟨c1, cf1⟩ := CBox.at_ X6.out 1 _ rfl; obtain ⟨c2, cf2⟩ := CBox.at_ X6.out 2 _ rfl; obtain ⟨c3, cf3⟩ := CBox.at_ X6.out 3 _ rfl; obtain ⟨c4, cf4⟩ := CBox.at_ X6.out 4 _ rfl; obtain ⟨c5, cf5⟩ := CBox.at_ X6.out 5 _ rfl; obtain ⟨c6, cf6⟩ := CBox.at_ X6.out 6 _ rfl; obtain ⟨z0, zf0⟩ := CBox.at_ Z6.out 0 _ rfl; obtain ⟨z1, zf1⟩ := CBox.at_ Z6.out 1 _ rfl; obtain ⟨z2, zf2⟩ := CBox.at_ Z6.out 2 _ rfl; obtain ⟨z3, zf3⟩ := CBox.at_ Z6.out 3 _ rfl; obtain ⟨z4, zf4⟩ := CBox.at_ Z6.out 4 _ rfl; obtain ⟨z5, zf5⟩ := CBox.at_ Z6.out 5 _ rfl; obtain ⟨z6, zf6⟩ := CBox.at_ Z6.out 6 _ rfl)
       have hz := box7 (cells7s Z6.out (.string (bstr dst)) (.string (bstr src)) (.bool tg) (.int .i64 vl) (.int .i64 pr) (.int .i64 ty) (.string (bstr da)))
       dsimp only [setsL] at hz
       obtain ⟨r0, r1, r2, r3, r4, r5, r6⟩ := hz
       refine bodyPost_ret (v := .tuple #[.agg #[.string (bstr dst), .string (bstr src), .bool tg, .int .i64 vl, .int .i64 pr, .int .i64 ty, .string (bstr da)], .int .i64 0]) (by simp [results, Tryz.results61, go_sem, r0, r1, r2, r3, r4, r5, r6]) rfl ?_
       rw [HR0.out]
       exact ⟨rfl, setsL_below HLE.out [.string (bstr dst), .string (bstr src), .bool tg, .int .i64 vl, .int .i64 pr, .int .i64 ty, .string (bstr da)] 0 B6.out⟩
   · have hv0 : vl = 0 := by simpa using qv
     subst hv0
     clear qv
     go_upto_region 5 with fail
     obtain ⟨V, hV⟩ : ∃ W, W4.drew = W := ⟨_, rfl⟩
     have hbv : Below W4.heap.size W4 V := by rw [← hV]; exact Below.drew (Below.refl _ _)
     have HV := Lib.hid hV
     have XV := Lib.hid (X4.out.below hbv X4.out.lt); have ZV := Lib.hid (Z4.out.below hbv Z4.out.lt); have PV := Lib.hid (P4.out.below hbv P4.out.lt); have BV := Lib.hid (B4.out.trans (hbv.mono B4.out.size))
     clear hV hbv c0 cf0 c1 cf1 c2 cf2 c3 cf3 c4 cf4 c5 cf5 c6 cf6 z0 zf0 z1 zf1 z2 zf2 z3 zf3 z4 zf4 z5 zf5 z6 zf6 p0 pf0 p1 pf1 p2 pf2 X4 Z4 P4 B4 I4
     have HF := Lib.hid (fun (wq : World) (h : CBox wq q2 56 #[.int .i64 d, .slice ao an ac, .slice bo bn bc]) => (h.at_ 0 _ rfl).1)
     refine wp_region_held_drew (S := fun wq => CBox wq q2 56 #[.int .i64 d, .slice ao an ac, .slice bo bn bc]) (by kernel_rfl) (by rw [HV.out]; exact PV.out) (fun hHeld => ?_)
     rw [HV.out] at hHeld ⊢
     obtain ⟨c0, cf0⟩ := CBox.at_ XV.out 0 _ rfl
     obtain ⟨c1, cf1⟩ := CBox.at_ XV.out 1 _ rfl
     obtain ⟨c2, cf2⟩ := CBox.at_ XV.out 2 _ rfl
     obtain ⟨c3, cf3⟩ := CBox.at_ XV.out 3 _ rfl
     obtain ⟨c4, cf4⟩ := CBox.at_ XV.out 4 _ rfl
     obtain ⟨c5, cf5⟩ := CBox.at_ XV.out 5 _ rfl
     obtain ⟨c6, cf6⟩ := CBox.at_ XV.out 6 _ rfl
     refine tkL 0 (v := ?_) rfl (by kernel_rfl) (fun _ _ _ => id) (Or.inl ⟨by rfl, ?_⟩) (by assumption) ?_; rotate_left; (focus (intro wq hSq; have f0 := HF.out wq hSq; go_simp <;> with_reducible rfl)); simp only [Act.put, pA, pB, pC]
     refine tkL 1 (v := ?_) rfl (by kernel_rfl) (fun _ _ _ => id) (Or.inl ⟨by rfl, ?_⟩) (by assumption) ?_; rotate_left; (focus (intro wq hSq; have f0 := HF.out wq hSq; go_simp <;> with_reducible rfl)); simp only [Act.put, pA, pB, pC]
     refine tkL 2 (v := ?_) rfl (by kernel_rfl) (fun _ _ _ => id) (Or.inl ⟨by rfl, ?_⟩) (by assumption) ?_; rotate_left; (focus (intro wq hSq; have f0 := HF.out wq hSq; go_simp <;> with_reducible rfl)); simp only [Act.put, pA, pB, pC]
     refine wpAnyH_ready (rs := [3]) (by kernel_rfl) (by simp) (nextL 3 rfl (fun Kr hKr => ?_) AllReadyH.nil)
     rw [if_pos (by rfl)]
     go_simp
     have P7 := Lib.hid (PV.out.far (p := ⟨q0, 2, none⟩) HN2.out.1 (.bool true)); have X7 := Lib.hid (show CBox (V.setCell ⟨q0, 2, none⟩ (.bool true)) q0 48 #[.string (bstr dst), .string (bstr src), .bool true, .int .i64 0, .int .i64 pr, .int .i64 ty, .string (bstr da)] from XV.out.set 2 _)
     refine hKr.out _ _ P7.out (fun _ => ?_)
     clear hKr c0 cf0 c1 cf1 c2 cf2 c3 cf3 c4 cf4 c5 cf5 c6 cf6
     obtain ⟨c0, cf0⟩ := CBox.at_ X7.out 0 _ rfl
     obtain ⟨c1, cf1⟩ := CBox.at_ X7.out 1 _ rfl
     obtain ⟨c2, cf2⟩ := CBox.at_ X7.out 2 _ rfl
     obtain ⟨c3, cf3⟩ := CBox.at_ X7.out 3 _ rfl
     obtain ⟨c4, cf4⟩ := CBox.at_ X7.out 4 _ rfl
     obtain ⟨c5, cf5⟩ := CBox.at_ X7.out 5 _ rfl
     obtain ⟨c6, cf6⟩ := CBox.at_ X7.out 6 _ rfl
     have HF := Lib.hid (fun (wq : World) (h : CBox wq q2 56 #[.int .i64 d, .slice ao an ac, .slice bo bn bc]) => (h.at_ 0 _ rfl).1)
     have hHeld := P7.out
     refine tkL 4 (v := ?_) rfl (by kernel_rfl) (fun _ _ _ => id) (Or.inl ⟨by rfl, ?_⟩) (by assumption) ?_; rotate_left; (focus (intro wq hSq; have f0 := HF.out wq hSq; go_simp <;> with_reducible rfl)); simp only [Act.put, pA, pB, pC]
     refine wpAnyH_ready (rs := [5]) (by kernel_rfl) (by simp) (nextL 5 rfl (fun Kr hKr => ?_) AllReadyH.nil)
     rw [if_pos (by rfl)]
     go_simp
     refine hKr.out _ _ (P7.out.far (p := ⟨q0, 3, none⟩) HN2.out.1 (.int .i64 d)) (fun _ => ?_)
     clear hKr c0 cf0 c1 cf1 c2 cf2 c3 cf3 c4 cf4 c5 cf5 c6 cf6
     refine wpAnyH_done (by kernel_rfl) ?_ _
     obtain ⟨W5, hW5⟩ : ∃ W, (V.setCell ⟨q0, 2, none⟩ (.bool true)).setCell ⟨q0, 3, none⟩ (.int .i64 d) = W := ⟨_, rfl⟩
     have X5 := Lib.hid (show CBox W5 q0 48 #[.string (bstr dst), .string (bstr src), .bool true, .int .i64 d, .int .i64 pr, .int .i64 ty, .string (bstr da)] from by rw [← hW5]; exact X7.out.set 3 _)
     have Z5 := Lib.hid (show CBox W5 q1 48 #[.string ⟨#[]⟩, .string ⟨#[]⟩, .bool false, .int .i64 0, .int .i64 0, .int .i64 0, .string ⟨#[]⟩] from by rw [← hW5]; exact (ZV.out.far (p := ⟨q0, 2, none⟩) (Ne.symm HNE.out.1) _).far (p := ⟨q0, 3, none⟩) (Ne.symm HNE.out.1) _)
     have P5 := Lib.hid (show CBox W5 q2 56 #[.int .i64 d, .slice ao an ac, .slice bo bn bc] from by rw [← hW5]; exact P7.out.far (p := ⟨q0, 3, none⟩) HN2.out.1 _)
     have B5 := Lib.hid (show Below w.heap.size w W5 from by rw [← hW5]; exact (BV.out.setCell (p := ⟨q0, 2, none⟩) HNE.out.2 _).setCell (p := ⟨q0, 3, none⟩) HNE.out.2 _)
     have I5 := Lib.hid (And.intro (I0.out.1.mono B5.out) (I0.out.2.mono B5.out))
     rw [hW5]
     clear hW5 HF hHeld XV ZV PV BV X7 P7 HV
     obtain ⟨c0, cf0⟩ := CBox.at_ X5.out 0 _ rfl
     obtain ⟨c1, cf1⟩ := CBox.at_ X5.out 1 _ rfl
     obtain ⟨c2, cf2⟩ := CBox.at_ X5.out 2 _ rfl
     obtain ⟨c3, cf3⟩ := CBox.at_ X5.out 3 _ rfl
     obtain ⟨c4, cf4⟩ := CBox.at_ X5.out 4 _ rfl
     obtain ⟨c5, cf5⟩ := CBox.at_ X5.out 5 _ rfl
     obtain ⟨c6, cf6⟩ := CBox.at_ X5.out 6 _ rfl
     obtain ⟨z0, zf0⟩ := CBox.at_ Z5.out 0 _ rfl
     obtain ⟨z1, zf1⟩ := CBox.at_ Z5.out 1 _ rfl
     obtain ⟨z2, zf2⟩ := CBox.at_ Z5.out 2 _ rfl
     obtain ⟨z3, zf3⟩ := CBox.at_ Z5.out 3 _ rfl
     obtain ⟨z4, zf4⟩ := CBox.at_ Z5.out 4 _ rfl
     obtain ⟨z5, zf5⟩ := CBox.at_ Z5.out 5 _ rfl
     obtain ⟨z6, zf6⟩ := CBox.at_ Z5.out 6 _ rfl
     obtain ⟨p0, pf0⟩ := CBox.at_ P5.out 0 _ rfl
     obtain ⟨p1, pf1⟩ := CBox.at_ P5.out 1 _ rfl
     obtain ⟨p2, pf2⟩ := CBox.at_ P5.out 2 _ rfl
     cases qd : (d == 0)
     · have hd0 : d ≠ 0 := by simpa using qd
       have HNZ := Lib.hid hd0
       clear hd0
       have HMB := Lib.hid (member_any P0 (.slice ao an ac) (.slice bo bn bc) d W5 I5.out.1 I5.out.2)
       obtain ⟨m, hm⟩ : ∃ m, P0.member d = m := ⟨_, rfl⟩
       rw [hm, HD.out] at HMB
       cases m
       · have HR0 := Lib.hid (show r = (frZero, 6) from by rw [← HR.out, if_neg (fun h => h rfl)]; unfold vIn1; dsimp only; rw [if_pos (.inr (by rw [if_pos rfl, HD.out]; exact hm))])
         clear hm
         go_wp2_with ((with_reducible refine HMB.out.mono ?_); rintro e w6 ⟨rfl, hb6⟩; have B6 := Lib.hid (B5.out.trans (hb6.mono B5.out.size)); have X6 := Lib.hid (X5.out.below hb6 X5.out.lt); have Z6 := Lib.hid (Z5.out.below hb6 Z5.out.lt); clear hb6 c0 cf0 c1 cf1 c2 cf2 c3 cf3 c4 cf4 c5 cf5 c6 cf6 z0 zf0 z1 zf1 z2 zf2 z3 zf3 z4 zf4 z5 zf5 z6 zf6 p0 pf0 p1 pf1 p2 pf2; obtain ⟨c0, cf0⟩ := CBox.at_ X6.out 0 _ rfl; obtain ⟨c1, cf1⟩ := CBox.at_ X6.out 1 _ rfl; obtain ⟨c2, cf2⟩ := CBox.at_ X6.out 2 _ rfl; obtain ⟨c3, cf3⟩ := CBox.at_ X6.out 3 _ rfl; obtain ⟨c4, cf4⟩ := CBox.at_ X6.out 4 _ rfl; obtain ⟨c5, cf5⟩ := CBox.at_ X6.out 5 _ rfl; obtain ⟨c6, cf6⟩ := CBox.at_ X6.out 6 _ rfl; obtain ⟨z0, zf0⟩ := CBox.at_ Z6.out 0 _ rfl; obtain ⟨z1, zf1⟩ := CBox.at_ Z6.out 1 _ rfl; obtain ⟨z2, zf2⟩ := CBox.at_ Z6.out 2 _ rfl; obtain ⟨z3, zf3⟩ := CBox.at_ Z6.out 3 _ rfl; obtain ⟨z4, zf4⟩ := CBox.at_ Z6.out 4 _ rfl; obtain ⟨z5, zf5⟩ := CBox.at_ Z6.out 5 _ rfl; obtain ⟨z6, zf6⟩ := CBox.at_ Z6.out 6 _ rfl)
         have hz := box7 (cells7s Z6.out (.string ⟨#[]⟩) (.string ⟨#[]⟩) (.bool false) (.int .i64 0) (.int .i64 0) (.int .i64 0) (.string ⟨#[]⟩))
         dsimp only [setsL] at hz
         obtain ⟨r0, r1, r2, r3, r4, r5, r6⟩ := hz
         refine bodyPost_ret (v := .tuple #[.agg #[.string ⟨#[]⟩, .string ⟨#[]⟩, .bool false, .int .i64 0, .int .i64 0, .int .i64 0, .string ⟨#[]⟩], .int .i64 6]) (by simp [results, Tryz.results61, go_sem, r0, r1, r2, r3, r4, r5, r6]) rfl ?_
         rw [HR0.out]
         exact ⟨by rw [enc_zero], setsL_below HLE.out [.string ⟨#[]⟩, .string ⟨#[]⟩, .bool false, .int .i64 0, .int .i64 0, .int .i64 0, .string ⟨#[]⟩] 0 B6.out⟩
       · have HR0 := Lib.hid (show r = (⟨dst, src, true, d, pr, ty, da⟩, 0) from by rw [← HR.out, if_neg (fun h => h rfl)]; unfold vIn1; dsimp only; rw [if_pos rfl, HD.out]; rw [if_neg (fun h => by rcases h with h | h <;> first | exact HNZ.out h | (rw [hm] at h; cases h))]; rw [if_pos rfl])
         clear hm
         go_wp2_with ((with_reducible refine HMB.out.mono ?_); rintro e w6 ⟨rfl, hb6⟩; have B6 := Lib.hid (B5.out.trans (hb6.mono B5.out.size)); have X6 := Lib.hid (X5.out.below hb6 X5.out.lt); have Z6 := Lib.hid (Z5.out.below hb6 Z5.out.lt); clear hb6 c0 cf0 c1 cf1 c2 cf2 c3 cf3 c4 cf4 c5 cf5 c6 cf6 z0 zf0 z1 zf1 z2 zf2 z3 zf3 z4 zf4 z5 zf5 z6 zf6 p0 pf0 p1 pf1 p2 pf2; obtain ⟨c0, cf0⟩ := CBox.at_ X6.out 0 _ rfl; obtain ⟨c1, cf1⟩ := CBox.at_ X6.out 1 _ rfl; obtain ⟨c2, cf2⟩ := CBox.at_ X6.out 2 _ rfl; obtain ⟨c3, cf3⟩ := CBox.at_ X6.out 3 _ rfl; obtain ⟨c4, cf4⟩ := CBox.at_ X6.out 4 _ rfl; obtain ⟨c5, cf5⟩ := CBox.at_ X6.out 5 _ rfl; obtain ⟨c6, cf6⟩ := CBox.at_ X6.out 6 _ rfl; obtain ⟨z0, zf0⟩ := CBox.at_ Z6.out 0 _ rfl; obtain ⟨z1, zf1⟩ := CBox.at_ Z6.out 1 _ rfl; obtain ⟨z2, zf2⟩ := CBox.at_ Z6.out 2 _ rfl; obtain ⟨z3, zf3⟩ := CBox.at_ Z6.out 3 _ rfl; obtain ⟨z4, zf4⟩ := CBox.at_ Z6.out 4 _ rfl; obtain ⟨z5, zf5⟩ := CBox.at_ Z6.out 5 _ rfl; obtain ⟨z6, zf6⟩ := CBox.at_ Z6.out 6 _ rfl)
         have hz := box7 (cells7s Z6.out (.string (bstr dst)) (.string (bstr src)) (.bool true) (.int .i64 d) (.int .i64 pr) (.int .i64 ty) (.string (bstr da)))
         dsimp only [setsL] at hz
         obtain ⟨r0, r1, r2, r3, r4, r5, r6⟩ := hz
         refine bodyPost_ret (v := .tuple #[.agg #[.string (bstr dst), .string (bstr src), .bool true, .int .i64 d, .int .i64 pr, .int .i64 ty, .string (bstr da)], .int .i64 0]) (by simp [results, Tryz.results61, go_sem, r0, r1, r2, r3, r4, r5, r6]) rfl ?_
         rw [HR0.out]
         exact ⟨rfl, setsL_below HLE.out [.string (bstr dst), .string (bstr src), .bool true, .int .i64 d, .int .i64 pr, .int .i64 ty, .string (bstr da)] 0 B6.out⟩
     · have hd0 : d = 0 := by simpa using qd
       have HR0 := Lib.hid (show r = (frZero, 6) from by rw [← HR.out, if_neg (fun h => h rfl)]; unfold vIn1; dsimp only; rw [if_pos (.inl (by rw [if_pos rfl, HD.out]; exact hd0))])
       clear hd0
       go_wp2_with fail
       have hz := box7 (cells7s Z5.out (.string ⟨#[]⟩) (.string ⟨#[]⟩) (.bool false) (.int .i64 0) (.int .i64 0) (.int .i64 0) (.string ⟨#[]⟩))
       dsimp only [setsL] at hz
       obtain ⟨r0, r1, r2, r3, r4, r5, r6⟩ := hz
       refine bodyPost_ret (v := .tuple #[.agg #[.string ⟨#[]⟩, .string ⟨#[]⟩, .bool false, .int .i64 0, .int .i64 0, .int .i64 0, .string ⟨#[]⟩], .int .i64 6]) (by simp [results, Tryz.results61, go_sem, r0, r1, r2, r3, r4, r5, r6]) rfl ?_
       rw [HR0.out]
       exact ⟨by rw [enc_zero], setsL_below HLE.out [.string ⟨#[]⟩, .string ⟨#[]⟩, .bool false, .int .i64 0, .int .i64 0, .int .i64 0, .string ⟨#[]⟩] 0 B5.out⟩
 · have HR0 := Lib.hid (show r = (frZero, er) from by rw [← HR.out, if_pos (by intro h; rw [h] at q1'; cases q1')])
   go_wp2_with fail
   have hz := box7 (cells7s Z4.out (.string ⟨#[]⟩) (.string ⟨#[]⟩) (.bool false) (.int .i64 0) (.int .i64 0) (.int .i64 0) (.string ⟨#[]⟩))
   dsimp only [setsL] at hz
   obtain ⟨r0, r1, r2, r3, r4, r5, r6⟩ := hz
   refine bodyPost_ret (v := .tuple #[.agg #[.string ⟨#[]⟩, .string ⟨#[]⟩, .bool false, .int .i64 0, .int .i64 0, .int .i64 0, .string ⟨#[]⟩], .int .i64 er]) (by simp [results, Tryz.results61, go_sem, r0, r1, r2, r3, r4, r5, r6]) rfl ?_
   rw [HR0.out]
   exact ⟨by rw [enc_zero], setsL_below HLE.out [.string ⟨#[]⟩, .string ⟨#[]⟩, .bool false, .int .i64 0, .int .i64 0, .int .i64 0, .string ⟨#[]⟩] 0 B4.out⟩
end Go.Proofs.YthcdppppppgckaaGreatDoor
