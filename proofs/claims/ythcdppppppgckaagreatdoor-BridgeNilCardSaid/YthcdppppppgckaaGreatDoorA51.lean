/- Texts joined into one file: BOp, BLi, BLn. -/
import Derived.Test.YthcdppppppgckaaGreatDoorA33
import Derived.Test.YthcdppppppgckaaGreatDoorA13
import Derived.ProofKit
import Derived.OpenShut
import Derived.SizedLaws
import Derived.Lib.SmallJoins
import Derived.Deep.SlicePairs
import Derived.Test.YthcdppppppgckaaGreatDoorA50
import Derived.Test.YthcdppppppgckaaGreatDoorA47
import Derived.Test.YthcdppppppgckaaGreatDoorA49

namespace Go.Proofs.YthcdppppppgckaaGreatDoor
open Go.ChangeShapes Go.WideShapes Go.ChangeAt Go.RowKit
set_option maxRecDepth 20000
theorem cellsItB : Tryz.prog.cellsOf 3 = 1 := by kernel_rfl
theorem cellsAdB : Tryz.prog.cellsOf 25 = 1 := by kernel_rfl
theorem cellsBlB : Tryz.prog.cellsOf 4 = 1 := by kernel_rfl
theorem cellsStB : Tryz.prog.cellsOf 9 = 1 := by kernel_rfl
section
variable {H : Type} {enc : TypeId × Value → H} {w : World} {base : Nat} {spare : Nat → Bool} {held : Bool} {fuel : Nat} {cs : List Value} {x : DataW H × List MemPlace}
theorem open_evC (h : DataW.trod enc Tryz.prog w base spare held fuel 42 cs = some x) :
 ∃ d port up s now, cs = [.int .i64 d, .int .i64 port, .bool up, .string (bstr s), .int .i64 now] ∧ s.length ≤ maxLen ∧ (Lit.int .i64 d).wf = true ∧ (Lit.int .i64 port).wf = true ∧ (Lit.int .i64 now).wf = true := by
 obtain ⟨xs, n, _, rfl, hcl, hlen, hf⟩ := DataW.trod_struct Tryz.underlying42 h
 match xs, hlen with
 | [y0, y1, y2, y3, y4], _ =>
   have hc5 : cs.length = 5 := hcl.trans (by kernel_rfl)
   match cs, hc5 with
   | [c0, c1, c2, c3, c4], _ =>
     have g0 := hf 0 _ rfl
     have g1 := hf 1 _ rfl
     have g2 := hf 2 _ rfl
     have g3 := hf 3 _ rfl
     have g4 := hf 4 _ rfl
     simp [cellsItB, cellsBlB, cellsStB] at g0 g1 g2 g3 g4
     obtain ⟨d, e0, _, w0⟩ := DataW.trod_int Tryz.underlying3 g0
     obtain ⟨p, e1, _, w1⟩ := DataW.trod_int Tryz.underlying3 g1
     obtain ⟨u, e2, _⟩ := DataW.trod_bool Tryz.underlying4 g2
     obtain ⟨s, e3, _, hs⟩ := DataW.trod_string Tryz.underlying9 g3
     obtain ⟨nw, e4, _, w4⟩ := DataW.trod_int Tryz.underlying3 g4
     obtain ⟨sr, rfl⟩ : ∃ g, s = bstr g := ⟨_, bstr_of _⟩
     rw [bstr_size] at hs
     simp only [List.cons.injEq, and_true] at e0 e1 e2 e3 e4
     subst e0 e1 e2 e3 e4
     exact ⟨d, p, u, sr, nw, rfl, hs, w0, w1, w4⟩
theorem open_prC (h : DataW.trod enc Tryz.prog w base spare held fuel 58 cs = some x) :
 ∃ v g s, cs = [.int .i64 v, .string (bstr g), .string (bstr s)] ∧ g.length ≤ maxLen ∧ s.length ≤ maxLen ∧ (Lit.int .i64 v).wf = true := by
 obtain ⟨xs, n, _, rfl, hcl, hlen, hf⟩ := DataW.trod_struct Tryz.underlying58 h
 match xs, hlen with
 | [y0, y1, y2], _ =>
   have hc5 : cs.length = 3 := hcl.trans (by kernel_rfl)
   match cs, hc5 with
   | [c0, c1, c2], _ =>
     have g0 := hf 0 _ rfl
     have g1 := hf 1 _ rfl
     have g2 := hf 2 _ rfl
     simp [cellsItB, cellsAdB] at g0 g1 g2
     obtain ⟨d, e0, _, w0⟩ := DataW.trod_int Tryz.underlying3 g0
     obtain ⟨s, e1, _, hs⟩ := DataW.trod_string Tryz.underlying25 g1
     obtain ⟨q, e2, _, hq⟩ := DataW.trod_string Tryz.underlying25 g2
     obtain ⟨s1, rfl⟩ : ∃ g, s = bstr g := ⟨_, bstr_of _⟩
     obtain ⟨q1, rfl⟩ : ∃ g, q = bstr g := ⟨_, bstr_of _⟩
     rw [bstr_size] at hs hq
     simp only [List.cons.injEq, and_true] at e0 e1 e2
     subst e0 e1 e2
     exact ⟨d, s1, q1, rfl, hs, hq, w0⟩
theorem open_Ev {r : Reach} {b0 : Nat} {v : Value} {d : DataW H} {p : List MemPlace} (hv : Value.okWide Tryz.prog w r b0 42 v) (h : DataW.Trod enc Tryz.prog w base spare held 42 v d p) :
 ∃ d port up s now, v = .agg #[.int .i64 d, .int .i64 port, .bool up, .string (bstr s), .int .i64 now] ∧ s.length ≤ maxLen ∧ (Lit.int .i64 d).wf = true ∧ (Lit.int .i64 port).wf = true ∧ (Lit.int .i64 now).wf = true := by
 obtain ⟨cs, rfl, _⟩ := okWide_struct Tryz.underlying42 hv
 obtain ⟨fuel, hf⟩ := h
 obtain ⟨d, p, u, s, nw, e, k⟩ := open_evC hf
 refine ⟨d, p, u, s, nw, ?_, k⟩
 have : cs.toList = _ := e
 congr 1
 exact Array.toList_inj.1 this
theorem open_Pr {r : Reach} {b0 : Nat} {v : Value} {d : DataW H} {p : List MemPlace} (hv : Value.okWide Tryz.prog w r b0 58 v) (h : DataW.Trod enc Tryz.prog w base spare held 58 v d p) :
 ∃ x g s, v = .agg #[.int .i64 x, .string (bstr g), .string (bstr s)] ∧ g.length ≤ maxLen ∧ s.length ≤ maxLen ∧ (Lit.int .i64 x).wf = true := by
 obtain ⟨cs, rfl, _⟩ := okWide_struct Tryz.underlying58 hv
 obtain ⟨fuel, hf⟩ := h
 obtain ⟨x, g, s, e, k⟩ := open_prC hf
 refine ⟨x, g, s, ?_, k⟩
 have : cs.toList = _ := e
 congr 1
 exact Array.toList_inj.1 this
end
end Go.Proofs.YthcdppppppgckaaGreatDoor

namespace Go.Proofs.YthcdppppppgckaaGreatDoor
open Go.RowKit Go.Lib Go.Maps Go.Sort
set_option maxRecDepth 20000
set_option maxRecDepth 20000

def liF : Fr := ⟨[2, 97, 97, 97, 97, 97], [2, 98, 98, 98, 98, 98], false, 0, 0, 99, [120]⟩
def liS : Str := [2, 97, 97, 97, 97, 97, 2, 98, 98, 98, 98, 98, 0, 99, 120]
def liG : Fr := ⟨[2, 97, 97, 97, 97, 97], [2, 98, 98, 98, 98, 98], true, 10, 0, 99, [120]⟩
theorem liS_is : eEncS liF = liS := by decide
theorem liS_dec : eDec liS = (liF, 0) := by decide
theorem liG_in : vIn simC.ports 0 liF = (liG, 0) := by decide
def li0 : BrS := newS simC [10] 1
def li1 : BrS := (li0.link 0 true 1).settled
def li2 : BrS := (li1.link 1 true 1).settled
def li3 : BrS := li2.inS liG 0 5
def li4 (qs : Int × Int → Qr) : BrS := { li3.ticked 40 with qs := qs }
theorem li_role : (li2.tree.roleOf 0 == 0) = false := by decide +kernel
theorem li_learn : li2.tree.learns 0 = false := by decide +kernel
theorem li_fwd : li2.tree.forwards 0 = false := by decide +kernel
theorem li3_is : li3 = li2 := by unfold li3 BrS.inS; rw [show li2.tree.learns 0 = false from li_learn]; rfl
theorem li_inL : li2.inL liG 0 5 = [] := by unfold BrS.inL; rw [li_fwd]; rfl
theorem li_ticks : (li3.ticks 40).length = 2 := by rw [li3_is]; unfold BrS.ticks; rw [List.length_map]; decide +kernel
theorem li4_role (qs) : ((li4 qs).tree.roleOf 0 == 0) = false := by
 show ((li3.ticked 40).tree.roleOf 0 == 0) = false
 rw [li3_is]
 decide +kernel
theorem li4_open (qs) : ((li4 qs).inS liG 0 40).opens = [0, 1] := by
 unfold BrS.opens
 rw [inS_tree, show ((li4 qs).inS liG 0 40).c.ports.length = 2 from by unfold BrS.inS BrS.learned; split <;> (try split) <;> rfl]
 show opensTo (li3.ticked 40).tree 2 = [0, 1]
 rw [li3_is]
 decide +kernel
theorem li4_inL (qs) : (li4 qs).inL liG 0 40 = [(1, liS)] := by
 kernel_rfl
theorem li_fit : Fit liF := ⟨rfl, rfl, rfl, rfl, rfl, by decide, by decide⟩
theorem fdb_none {F : Fdb} {L : List (Int × Str)} (hF : ∀ k, F k = none) (h : KeysV (encV F) L) : L = [] := by
 cases L with
 | nil => rfl
 | cons a l =>
   have := (h.2 a).1 (by simp)
   unfold encV at this
   rw [hF] at this
   exact absurd rfl this
theorem li2_fdb (k : Int × Str) : li2.fdb k = none := by kernel_rfl
theorem li4_fdb (qs) (k : Int × Str) : (li4 qs).fdb k = none := by kernel_rfl
theorem li3_quiet : Quiet li3.vl li3.qs := fun k _ => by
 rw [li3_is]
 show (if k.2 = 4 then ([] : Str) else []) = []
 split <;> rfl
theorem enc_li (w : World) : Calls Tryz.prog 24 #[.agg #[.string ⟨#[2, 97, 97, 97, 97, 97]⟩, .string ⟨#[2, 98, 98, 98, 98, 98]⟩, .bool false, .int .i64 0, .int .i64 0, .int .i64 99, .string ⟨#[120]⟩]] w fun e w' => e = .returned (.tuple #[.string (bstr liS), .int .i64 0]) ∧ Below w.heap.size w w' := by
 have h := renc_plain liF w li_fit
 rw [liS_is] at h
 unfold encF fcells liF at h
 dsimp only at h
 rw [bstr_eq [2, 97, 97, 97, 97, 97], bstr_eq [2, 98, 98, 98, 98, 98], bstr_eq [120]] at h
 exact h
def cfg0 : Cfg := ⟨0, [], [], [], [], 0, 0, 0, 0, 0, 0, false, false⟩
theorem new_zero (w : World) : Calls Tryz.prog 12 #[.agg #[.int .u64 0, .slice none 0 0, .slice none 0 0, .string ⟨#[]⟩, .string ⟨#[]⟩, .int .i64 0, .int .i64 0, .int .i64 0, .int .i64 0, .int .i64 0, .int .i64 0, .bool false, .bool false], .int .i64 1] w (RetNo w) := by
 have hin : ∀ W, CfgIn W (fun _ => True) cfg0 (.slice none 0 0) (.slice none 0 0) := fun W => ⟨Ints.nil _, ⟨none, 0, 0, 0, rfl, .inl rfl, by decide, fun k hk => by cases hk⟩⟩
 have h := bnew_not (fun _ => True) cfg0 (.slice none 0 0) (.slice none 0 0) 1 w (hin w) (fun W _ => check_bad0 _ cfg0 _ _ W (hin W) (by decide))
 unfold encC ccells cfg0 at h
 dsimp only at h
 rw [bstr_nil] at h
 exact h
theorem new_sim (R : Nat → Prop) (a b : Addr) (w : World) (h : CfgIn w R simC (.slice (some a) 2 2) (.slice (some b) 2 2)) :
 Calls Tryz.prog 12 #[.agg #[.int .u64 7, .slice (some a) 2 2, .slice (some b) 2 2, .string ⟨#[]⟩, .string ⟨#[]⟩, .int .i64 20, .int .i64 2, .int .i64 50, .int .i64 2, .int .i64 100, .int .i64 50, .bool false, .bool false], .int .i64 1] w (RetNew w simC 1) := by
 have hn := bnew_any R simC _ _ 1 w h simC_ok (by decide) (by decide)
 rw [show encC simC (.slice (some a) 2 2) (.slice (some b) 2 2) = .agg #[.int .u64 7, .slice (some a) 2 2, .slice (some b) 2 2, .string (bstr []), .string (bstr []), .int .i64 20, .int .i64 2, .int .i64 50, .int .i64 2, .int .i64 100, .int .i64 50, .bool false, .bool false] from rfl, bstr_nil] at hn
 exact hn
theorem out_row {B : Nat} {w : World} {v : Value} {L : List (Int × Str)} (h : w.ownsRow B 52 2 v L.length (L.flatMap ocells)) :
 ∃ g, (∀ ty w', (Builtin.len_ #[43] ty #[v]).run Tryz.prog w' = .ok (.int .i64 L.length) w') ∧ (∀ k, k < L.length → ∀ w', (Instr.indexAt 43 v (.int .i64 k)).run Tryz.prog w' = .ok (.pointer (some ⟨g, k * 2, none⟩)) w') ∧
   (∀ k, k < L.length → B ≤ g ∧ g < w.heap.size ∧ v.ownBlock = some g ∧ ∀ j, j < 2 → w.cell? ⟨g, k * 2 + j, none⟩ = (ocells (L.getD k default))[j]? ∧ w.frozen? ⟨g, k * 2 + j, none⟩ = false) :=
 gfacts (cell := ocells) Tryz.underlying43 (fun w => by kernel_rfl) (fun _ => rfl) h
set_option maxHeartbeats 16000000 in
theorem live_true (w : World) : Calls Tryz.prog 9 #[] w fun e w' => e = .returned (.bool true) ∧ Below w.heap.size w w' := by
 have HS := Lib.hid (simple_any w)
 have HZ := Lib.hid new_zero
 have HE := Lib.hid enc_li
 go_enter Tryz.func9, Tryz.ntmps9
 go_upto_region 2 with (first
  | ((with_reducible refine HS.out.mono ?_); rintro e w1 ⟨a, b, rfl, hc1, hb1⟩; have C1 := Lib.hid hc1; have B1 := Lib.hid hb1; have HF1 := Lib.hid (config_any 7 20 2 50 2 100 50 (some a) (some b) 2 2 2 2 ⟨#[]⟩ ⟨#[]⟩ false false w1); clear hc1 hb1)
  | ((with_reducible refine HF1.out.mono ?_); rintro e w2 ⟨rfl, hb2⟩; have C2 := Lib.hid (C1.out.mono hb2); have B2 := Lib.hid (B1.out.trans (hb2.mono B1.out.size)); have HN := Lib.hid (new_sim _ _ _ w2 C2.out); clear hb2)
  | ((with_reducible refine HN.out.mono ?_); rintro e w3 ⟨A, R, rfl, hbr, hr1, hr2, hk, hb3⟩; have hR := simR hr1 hr2; subst hR; have R3 := Lib.hid (show BrAt w3 A li0 from hbr); have B3 := Lib.hid (B2.out.trans (hb3.mono B2.out.size)); have HK := Lib.hid (fun j (hj : bfoot A j) => Nat.le_trans B2.out.size (hk j hj.1)); clear hbr hr1 hr2 hk hb3))
 go_upto_region 5 with ((with_reducible refine (HZ.out _).mono ?_); rintro e w4 ⟨rfl, hb4⟩; have R4 := Lib.hid (R3.out.below hb4); have B4 := Lib.hid (B3.out.trans (hb4.mono B3.out.size)); have HU := Lib.hid (bup_any A li0 0 1 w4 R4.out (by decide)); clear hb4)
 go_upto_region 6 with ((with_reducible refine HU.out.mono ?_); rintro e w5 ⟨rfl, hr5, ht5⟩; have R5 := Lib.hid (show BrAt w5 A li1 from hr5); have B5 := Lib.hid (B4.out.trans (ht5.below B4.out.size HK.out)); have HU2 := Lib.hid (bup_any A li1 1 1 w5 R5.out (by decide)); clear hr5 ht5)
 go_upto_region 7 with ((with_reducible refine HU2.out.mono ?_); rintro e w6 ⟨rfl, hr6, ht6⟩; have R6 := Lib.hid (show BrAt w6 A li2 from hr6); have B6 := Lib.hid (B5.out.trans (ht6.below B5.out.size HK.out)); clear hr6 ht6)
 go_upto_region 8 with ((with_reducible refine (HE.out _).mono ?_); rintro e w7 ⟨rfl, hb7⟩; have R7 := Lib.hid (R6.out.below hb7); have B7 := Lib.hid (B6.out.trans (hb7.mono B6.out.size)); have htk := btake_plain A li2 0 5 liS liF liG w7 R7.out (by decide) li_role (by decide) liS_dec (by decide) liG_in (by decide) (by decide) (by decide) (fun L hL => .inr (by rw [fdb_none li2_fdb hL]; decide)); rw [li_inL] at htk; have HT := Lib.hid htk; clear hb7 htk)
 go_upto_region 9 with ((with_reducible refine HT.out.mono ?_); rintro e w8 ⟨v8, rfl, ho8, hr8, ht8⟩; have R8 := Lib.hid (show BrAt w8 A li3 from hr8); have B8 := Lib.hid (B7.out.trans (ht8.below B7.out.size HK.out)); obtain ⟨g8, len8, _, _⟩ := out_row (L := []) ho8; obtain ⟨o8, p8, rfl⟩ := own_form ho8; have HK2 := Lib.hid (btick_any A li3 40 w8 R8.out li3_quiet (by decide)); clear hr8 ht8 ho8)
 go_upto_region 10 with ((with_reducible refine HK2.out.mono ?_); rintro e w9 ⟨v9, qs, rfl, ho9, hr9, _, ht9⟩; have R9 := Lib.hid (show BrAt w9 A (li4 qs) from hr9); have B9 := Lib.hid (B8.out.trans (ht9.below B8.out.size HK.out)); obtain ⟨g9, len9, i9, c9⟩ := out_row ho9; clear i9 c9; rw [li_ticks] at len9 ho9; obtain ⟨o9, p9, rfl⟩ := own_form ho9; have htk := btake_plain A (li4 qs) 0 40 liS liF liG w9 R9.out (by decide) (li4_role qs) (by decide) liS_dec (by decide) liG_in (by decide) (by decide) (by decide) (fun L hL => .inr (by rw [fdb_none (li4_fdb qs) hL]; exact (by decide : (0 : Int) < 50))); rw [li4_inL] at htk; have HT2 := Lib.hid htk; clear hr9 ht9 ho9 htk)
 go_upto_region 11 with ((with_reducible refine HT2.out.mono ?_); rintro e w10 ⟨v10, rfl, ho10, hr10, ht10⟩; have R10 := Lib.hid hr10; have B10 := Lib.hid (B9.out.trans (ht10.below B9.out.size HK.out)); have O10 := Lib.hid ho10; have hop := bopen_any A _ w10 R10.out; rw [li4_open] at hop; have HOP := Lib.hid hop; clear hr10 ht10 ho10 hop)
 go_upto_region 12 with ((with_reducible refine HOP.out.mono ?_); rintro e w11 ⟨v11, rfl, hi11, _, hb11⟩; have B11 := Lib.hid (B10.out.trans (hb11.mono B10.out.size)); have I11 := Lib.hid hi11; have O11 := Lib.hid (gown_bel O10.out hb11); clear hi11 hb11)
 obtain ⟨g10, len10, i10, c10⟩ := out_row (L := [(1, liS)]) O11.out
 have i10a := i10 0 (by decide)
 obtain ⟨_, _, _, c10a⟩ := c10 0 (by decide)
 have d0 : w11.cell? ⟨g10, 0, none⟩ = some (.int .i64 1) := (c10a 0 (by decide)).1
 have d1 : w11.cell? ⟨g10, 0 + 1, none⟩ = some (.string (bstr liS)) := (c10a 1 (by decide)).1
 have hrow : w11.ownsRow w9.heap.size 52 2 v10 1 ([((1 : Int), liS)].flatMap ocells) := O11.out
 obtain ⟨o10, p10, rfl⟩ := own_form hrow
 replace i10a : ∀ w', (Instr.indexAt 43 (.slice o10 1 p10) (.int .i64 0)).run Tryz.prog w' = .ok (.pointer (some ⟨g10, 0, none⟩)) w' := i10a
 replace len10 : ∀ ty w', (Builtin.len_ #[43] ty #[.slice o10 1 p10]).run Tryz.prog w' = .ok (.int .i64 1) w' := len10
 replace d1 : w11.cell? ⟨g10, 1, none⟩ = some (.string (bstr liS)) := d1
 obtain ⟨x11, y11, z11, rfl⟩ := I11.out.shape
 obtain ⟨W, hW⟩ : ∃ W, w11.alloc (.cells #[.int .i64 0, .int .i64 1] 3) = W := ⟨_, rfl⟩
 obtain ⟨q, hq⟩ : ∃ q, w11.heap.size = q := ⟨_, rfl⟩
 have hbw : Below w11.heap.size w11 W := by rw [← hW]; exact (Below.refl _ _).alloc (Nat.le_refl _) _
 have xw : CBox W q 3 #[.int .i64 0, .int .i64 1] := by rw [← hW]; exact CBox.new _ hq.symm
 have iw : Ints W (.slice (some ⟨q, 0, none⟩) 2 2) [0, 1] := ⟨_, 2, q, 0, rfl, .inr rfl, by decide, by decide, fun k hk => ⟨xw.lt, by
  match k, hk with
  | 0, _ => exact (xw.at_ 0 _ rfl).1
  | 1, _ => exact (xw.at_ 1 _ rfl).1⟩⟩
 have HSA := Lib.hid (same_any _ _ [0, 1] [0, 1] W (I11.out.mono hbw) iw)
 have BW := Lib.hid (B11.out.trans (hbw.mono B11.out.size)); have HWW := Lib.hid hW; have HQ := Lib.hid hq
 clear hrow i10 c10 c10a hW hq hbw xw iw
 go_wp2_with ((try rw [HWW.out, HQ.out]); (with_reducible refine HSA.out.mono ?_); rintro e w13 ⟨rfl, n13, rfl⟩)
 go_ret
 exact ⟨rfl, below_draws _ BW.out n13⟩
end Go.Proofs.YthcdppppppgckaaGreatDoor

namespace Go.Proofs.YthcdppppppgckaaGreatDoor
open Go.RowKit Go.Lib
set_option maxRecDepth 20000
set_option maxRecDepth 20000

set_option maxHeartbeats 8000000 in
theorem law_bnil (d port now v : Int) (up : Bool) (s g r : Str) (w : World) :
 Calls Tryz.prog 7 #[.agg #[.int .i64 d, .int .i64 port, .bool up, .string (bstr s), .int .i64 now], .agg #[.int .i64 v, .string (bstr g), .string (bstr r)]] w fun e w' => e = .returned (.bool true) ∧ Below w.heap.size w w' := by
 obtain ⟨W1, hW1⟩ : ∃ W, (w.alloc (.cells #[.int .i64 d, .int .i64 port, .bool up, .string (bstr s), .int .i64 now] 42)).alloc (.cells #[.int .i64 v, .string (bstr g), .string (bstr r)] 58) = W := ⟨_, rfl⟩
 obtain ⟨q, hq⟩ : ∃ q, w.heap.size = q := ⟨_, rfl⟩
 have hb1 : Below w.heap.size w W1 := by rw [← hW1]; exact ((Below.refl _ _).alloc (Nat.le_refl _) _).alloc (by simp) _
 have x1 : CBox W1 q 42 #[.int .i64 d, .int .i64 port, .bool up, .string (bstr s), .int .i64 now] := by rw [← hW1]; exact (CBox.new _ hq.symm).old _
 have y1 : CBox W1 (q + 1) 58 #[.int .i64 v, .string (bstr g), .string (bstr r)] := by rw [← hW1]; exact CBox.new _ (by rw [World.size_alloc, hq])
 have HW1 := Lib.hid hW1; have HQ := Lib.hid hq; have B1 := Lib.hid hb1; have X1 := Lib.hid x1; have Y1 := Lib.hid y1
 have HZ := Lib.hid (new_zero W1)
 have HL := Lib.hid live_true
 clear hW1 hq hb1 x1 y1
 go_enter Tryz.func7, Tryz.ntmps7
 go_upto_region 1 with fail
 rw [HW1.out, HQ.out]
 go_upto_region 2 with ((with_reducible refine HZ.out.mono ?_); rintro e w2 ⟨rfl, hb2⟩; have B2 := Lib.hid (B1.out.trans (hb2.mono B1.out.size)); have X2 := Lib.hid (X1.out.below hb2 X1.out.lt); have Y2 := Lib.hid (Y1.out.below hb2 Y1.out.lt); clear hb2)
 obtain ⟨c0, cf0⟩ := CBox.at_ X2.out 0 _ rfl
 obtain ⟨c1, cf1⟩ := CBox.at_ X2.out 1 _ rfl
 obtain ⟨c2, cf2⟩ := CBox.at_ X2.out 2 _ rfl
 obtain ⟨c3, cf3⟩ := CBox.at_ X2.out 3 _ rfl
 obtain ⟨c4, cf4⟩ := CBox.at_ X2.out 4 _ rfl
 have HST := Lib.hid (step_nil d port now up (bstr s) w2)
 go_upto_region 3 with ((with_reducible refine HST.out.mono ?_); rintro e w3 ⟨rfl, hb3⟩; have B3 := Lib.hid (B2.out.trans (hb3.mono B2.out.size)); have X3 := Lib.hid (X2.out.below hb3 X2.out.lt); have Y3 := Lib.hid (Y2.out.below hb3 Y2.out.lt); clear hb3)
 clear c0 cf0 c1 cf1 c2 cf2 c3 cf3 c4 cf4
 obtain ⟨c4, _⟩ := X3.out.at_ 4 _ rfl
 obtain ⟨y0, yf0⟩ := CBox.at_ Y3.out 0 _ rfl
 obtain ⟨y1, yf1⟩ := CBox.at_ Y3.out 1 _ rfl
 obtain ⟨y2, yf2⟩ := CBox.at_ Y3.out 2 _ rfl
 have HO := Lib.hid (open_nil w3); have HR := Lib.hid (routers_nil v now w3); have HW := Lib.hid (wants_nil v now (bstr g) (bstr r) w3); have HLV := Lib.hid (HL.out w3)
 go_wp2_with (first
  | ((with_reducible refine HO.out.mono ?_); rintro e w4 ⟨rfl, hw4⟩; subst w4)
  | ((with_reducible refine HR.out.mono ?_); rintro e w4 ⟨rfl, hw4⟩; subst w4)
  | ((with_reducible refine HW.out.mono ?_); rintro e w4 ⟨rfl, hw4⟩; subst w4)
  | ((with_reducible refine HLV.out.mono ?_); rintro e w5 ⟨rfl, hb5⟩; have B5 := Lib.hid (B3.out.trans (hb5.mono B3.out.size)); clear hb5))
 go_ret
 exact ⟨rfl, B5.out⟩
end Go.Proofs.YthcdppppppgckaaGreatDoor
