/- Texts joined into one file: BLi, SortedPlain, Sorted, BR12. -/
import Derived.Test.YthcdppppppgckaaGreatDoorC40
import Derived.Test.YthcdppppppgckaaGreatDoorC37
import Derived.Test.YthcdppppppgckaaGreatDoorC39
import Derived.Test.YthcdppppppgckaaGreatDoorC33
import Derived.Test.YthcdppppppgckaaGreatDoorC11
import Derived.Test.YthcdppppppgckaaGreatDoorC34
import Derived.Test.YthcdppppppgckaaGreatDoorC31

namespace Go.Proofs.YthcdppppppgckaaGreatDoor
open Go.RowKit Go.Lib Go.Maps Go.Sort
set_option maxRecDepth 20000
set_option maxRecDepth 20000

def liF : Fr := ⟨[2, 97, 97, 97, 97, 97], [2, 98, 98, 98, 98, 98], false, 0, 0, 99, [120]⟩
def liS : Str := [2, 97, 97, 97, 97, 97, 2, 98, 98, 98, 98, 98, 0, 99, 120]
def liG : Fr := ⟨[2, 97, 97, 97, 97, 97], [2, 98, 98, 98, 98, 98], true, 10, 0, 99, [120]⟩
theorem liS_is : eEncS liF = liS := by decide
theorem liS_dec : eDec liS = (liF, 0) := by decide
theorem liG_in : vIn simC.ports 0 liF = (liG, 0) := by decide
def li0 : BrS := newS simC [10] 1
def li1 : BrS := (li0.link 0 true 1).settled
def li2 : BrS := (li1.link 1 true 1).settled
def li3 : BrS := li2.inS liG 0 5
def li4 (qs : Int × Int → Qr) : BrS := { li3.ticked 40 with qs := qs }
theorem li_role : (li2.tree.roleOf 0 == 0) = false := by decide +kernel
theorem li_learn : li2.tree.learns 0 = false := by decide +kernel
theorem li_fwd : li2.tree.forwards 0 = false := by decide +kernel
theorem li3_is : li3 = li2 := by unfold li3 BrS.inS; rw [show li2.tree.learns 0 = false from li_learn]; rfl
theorem li_inL : li2.inL liG 0 5 = [] := by unfold BrS.inL; rw [li_fwd]; rfl
theorem li_ticks : (li3.ticks 40).length = 2 := by rw [li3_is]; unfold BrS.ticks; rw [List.length_map]; decide +kernel
theorem li4_role (qs) : ((li4 qs).tree.roleOf 0 == 0) = false := by
 show ((li3.ticked 40).tree.roleOf 0 == 0) = false
 rw [li3_is]
 decide +kernel
theorem li4_open (qs) : ((li4 qs).inS liG 0 40).opens = [0, 1] := by
 unfold BrS.opens
 rw [inS_tree, show ((li4 qs).inS liG 0 40).c.ports.length = 2 from by unfold BrS.inS BrS.learned; split <;> (try split) <;> rfl]
 show opensTo (li3.ticked 40).tree 2 = [0, 1]
 rw [li3_is]
 decide +kernel
theorem li4_inL (qs) : (li4 qs).inL liG 0 40 = [(1, liS)] := by
 kernel_rfl
theorem li_fit : Fit liF := ⟨rfl, rfl, rfl, rfl, rfl, by decide, by decide⟩
theorem fdb_none {F : Fdb} {L : List (Int × Str)} (hF : ∀ k, F k = none) (h : KeysV (encV F) L) : L = [] := by
 cases L with
 | nil => rfl
 | cons a l =>
   have := (h.2 a).1 (by simp)
   unfold encV at this
   rw [hF] at this
   exact absurd rfl this
theorem li2_fdb (k : Int × Str) : li2.fdb k = none := by kernel_rfl
theorem li4_fdb (qs) (k : Int × Str) : (li4 qs).fdb k = none := by kernel_rfl
theorem li3_quiet : Quiet li3.vl li3.qs := fun k _ => by
 rw [li3_is]
 show (if k.2 = 4 then ([] : Str) else []) = []
 split <;> rfl
theorem enc_li (w : World) : Calls Tryz.prog 24 #[.agg #[.string ⟨#[2, 97, 97, 97, 97, 97]⟩, .string ⟨#[2, 98, 98, 98, 98, 98]⟩, .bool false, .int .i64 0, .int .i64 0, .int .i64 99, .string ⟨#[120]⟩]] w fun e w' => e = .returned (.tuple #[.string (bstr liS), .int .i64 0]) ∧ Below w.heap.size w w' := by
 have h := renc_plain liF w li_fit
 rw [liS_is] at h
 unfold encF fcells liF at h
 dsimp only at h
 rw [bstr_eq [2, 97, 97, 97, 97, 97], bstr_eq [2, 98, 98, 98, 98, 98], bstr_eq [120]] at h
 exact h
def cfg0 : Cfg := ⟨0, [], [], [], [], 0, 0, 0, 0, 0, 0, false, false⟩
theorem new_zero (w : World) : Calls Tryz.prog 12 #[.agg #[.int .u64 0, .slice none 0 0, .slice none 0 0, .string ⟨#[]⟩, .string ⟨#[]⟩, .int .i64 0, .int .i64 0, .int .i64 0, .int .i64 0, .int .i64 0, .int .i64 0, .bool false, .bool false], .int .i64 1] w (RetNo w) := by
 have hin : ∀ W, CfgIn W (fun _ => True) cfg0 (.slice none 0 0) (.slice none 0 0) := fun W => ⟨Ints.nil _, ⟨none, 0, 0, 0, rfl, .inl rfl, by decide, fun k hk => by cases hk⟩⟩
 have h := bnew_not (fun _ => True) cfg0 (.slice none 0 0) (.slice none 0 0) 1 w (hin w) (fun W _ => check_bad0 _ cfg0 _ _ W (hin W) (by decide))
 unfold encC ccells cfg0 at h
 dsimp only at h
 rw [bstr_nil] at h
 exact h
theorem new_sim (R : Nat → Prop) (a b : Addr) (w : World) (h : CfgIn w R simC (.slice (some a) 2 2) (.slice (some b) 2 2)) :
 Calls Tryz.prog 12 #[.agg #[.int .u64 7, .slice (some a) 2 2, .slice (some b) 2 2, .string ⟨#[]⟩, .string ⟨#[]⟩, .int .i64 20, .int .i64 2, .int .i64 50, .int .i64 2, .int .i64 100, .int .i64 50, .bool false, .bool false], .int .i64 1] w (RetNew w simC 1) := by
 have hn := bnew_any R simC _ _ 1 w h simC_ok (by decide) (by decide)
 rw [show encC simC (.slice (some a) 2 2) (.slice (some b) 2 2) = .agg #[.int .u64 7, .slice (some a) 2 2, .slice (some b) 2 2, .string (bstr []), .string (bstr []), .int .i64 20, .int .i64 2, .int .i64 50, .int .i64 2, .int .i64 100, .int .i64 50, .bool false, .bool false] from rfl, bstr_nil] at hn
 exact hn
theorem out_row {B : Nat} {w : World} {v : Value} {L : List (Int × Str)} (h : w.ownsRow B 52 2 v L.length (L.flatMap ocells)) :
 ∃ g, (∀ ty w', (Builtin.len_ #[43] ty #[v]).run Tryz.prog w' = .ok (.int .i64 L.length) w') ∧ (∀ k, k < L.length → ∀ w', (Instr.indexAt 43 v (.int .i64 k)).run Tryz.prog w' = .ok (.pointer (some ⟨g, k * 2, none⟩)) w') ∧
   (∀ k, k < L.length → B ≤ g ∧ g < w.heap.size ∧ v.ownBlock = some g ∧ ∀ j, j < 2 → w.cell? ⟨g, k * 2 + j, none⟩ = (ocells (L.getD k default))[j]? ∧ w.frozen? ⟨g, k * 2 + j, none⟩ = false) :=
 gfacts (cell := ocells) Tryz.underlying43 (fun w => by kernel_rfl) (fun _ => rfl) h
set_option maxHeartbeats 16000000 in
theorem live_true (w : World) : Calls Tryz.prog 9 #[] w fun e w' => e = .returned (.bool true) ∧ Below w.heap.size w w' := by
 have HS := Lib.hid (simple_any w)
 have HZ := Lib.hid new_zero
 have HE := Lib.hid enc_li
 go_enter Tryz.func9, Tryz.ntmps9
 go_upto_region 2 with (first
  | ((with_reducible refine HS.out.mono ?_); rintro e w1 ⟨a, b, rfl, hc1, hb1⟩; have C1 := Lib.hid hc1; have B1 := Lib.hid hb1; have HF1 := Lib.hid (config_any 7 20 2 50 2 100 50 (some a) (some b) 2 2 2 2 ⟨#[]⟩ ⟨#[]⟩ false false w1); clear hc1 hb1)
  | ((with_reducible refine HF1.out.mono ?_); rintro e w2 ⟨rfl, hb2⟩; have C2 := Lib.hid (C1.out.mono hb2); have B2 := Lib.hid (B1.out.trans (hb2.mono B1.out.size)); have HN := Lib.hid (new_sim _ _ _ w2 C2.out); clear hb2)
  | ((with_reducible refine HN.out.mono ?_); rintro e w3 ⟨A, R, rfl, hbr, hr1, hr2, hk, hb3⟩; have hR := simR hr1 hr2; subst hR; have R3 := Lib.hid (show BrAt w3 A li0 from hbr); have B3 := Lib.hid (B2.out.trans (hb3.mono B2.out.size)); have HK := Lib.hid (fun j (hj : bfoot A j) => Nat.le_trans B2.out.size (hk j hj.1)); clear hbr hr1 hr2 hk hb3))
 go_upto_region 5 with ((with_reducible refine (HZ.out _).mono ?_); rintro e w4 ⟨rfl, hb4⟩; have R4 := Lib.hid (R3.out.below hb4); have B4 := Lib.hid (B3.out.trans (hb4.mono B3.out.size)); have HU := Lib.hid (bup_any A li0 0 1 w4 R4.out (by decide)); clear hb4)
 go_upto_region 6 with ((with_reducible refine HU.out.mono ?_); rintro e w5 ⟨rfl, hr5, ht5⟩; have R5 := Lib.hid (show BrAt w5 A li1 from hr5); have B5 := Lib.hid (B4.out.trans (ht5.below B4.out.size HK.out)); have HU2 := Lib.hid (bup_any A li1 1 1 w5 R5.out (by decide)); clear hr5 ht5)
 go_upto_region 7 with ((with_reducible refine HU2.out.mono ?_); rintro e w6 ⟨rfl, hr6, ht6⟩; have R6 := Lib.hid (show BrAt w6 A li2 from hr6); have B6 := Lib.hid (B5.out.trans (ht6.below B5.out.size HK.out)); clear hr6 ht6)
 go_upto_region 8 with ((with_reducible refine (HE.out _).mono ?_); rintro e w7 ⟨rfl, hb7⟩; have R7 := Lib.hid (R6.out.below hb7); have B7 := Lib.hid (B6.out.trans (hb7.mono B6.out.size)); have htk := btake_plain A li2 0 5 liS liF liG w7 R7.out (by decide) li_role (by decide) liS_dec (by decide) liG_in (by decide) (by decide) (by decide) (fun L hL => .inr (by rw [fdb_none li2_fdb hL]; decide)); rw [li_inL] at htk; have HT := Lib.hid htk; clear hb7 htk)
 go_upto_region 9 with ((with_reducible refine HT.out.mono ?_); rintro e w8 ⟨v8, rfl, ho8, hr8, ht8⟩; have R8 := Lib.hid (show BrAt w8 A li3 from hr8); have B8 := Lib.hid (B7.out.trans (ht8.below B7.out.size HK.out)); obtain ⟨g8, len8, _, _⟩ := out_row (L := []) ho8; obtain ⟨o8, p8, rfl⟩ := own_form ho8; have HK2 := Lib.hid (btick_any A li3 40 w8 R8.out li3_quiet (by decide)); clear hr8 ht8 ho8)
 go_upto_region 10 with ((with_reducible refine HK2.out.mono ?_); rintro e w9 ⟨v9, qs, rfl, ho9, hr9, _, ht9⟩; have R9 := Lib.hid (show BrAt w9 A (li4 qs) from hr9); have B9 := Lib.hid (B8.out.trans (ht9.below B8.out.size HK.out)); obtain ⟨g9, len9, i9, c9⟩ := out_row ho9; clear i9 c9; rw [li_ticks] at len9 ho9; obtain ⟨o9, p9, rfl⟩ := own_form ho9; have htk := btake_plain A (li4 qs) 0 40 liS liF liG w9 R9.out (by decide) (li4_role qs) (by decide) liS_dec (by decide) liG_in (by decide) (by decide) (by decide) (fun L hL => .inr (by rw [fdb_none (li4_fdb qs) hL]; exact (by decide : (0 : Int) < 50))); rw [li4_inL] at htk; have HT2 := Lib.hid htk; clear hr9 ht9 ho9 htk)
 go_upto_region 11 with ((with_reducible refine HT2.out.mono ?_); rintro e w10 ⟨v10, rfl, ho10, hr10, ht10⟩; have R10 := Lib.hid hr10; have B10 := Lib.hid (B9.out.trans (ht10.below B9.out.size HK.out)); have O10 := Lib.hid ho10; have hop := bopen_any A _ w10 R10.out; rw [li4_open] at hop; have HOP := Lib.hid hop; clear hr10 ht10 ho10 hop)
 go_upto_region 12 with ((with_reducible refine HOP.out.mono ?_); rintro e w11 ⟨v11, rfl, hi11, _, hb11⟩; have B11 := Lib.hid (B10.out.trans (hb11.mono B10.out.size)); have I11 := Lib.hid hi11; have O11 := Lib.hid (gown_bel O10.out hb11); clear hi11 hb11)
 obtain ⟨g10, len10, i10, c10⟩ := out_row (L := [(1, liS)]) O11.out
 have i10a := i10 0 (by decide)
 obtain ⟨_, _, _, c10a⟩ := c10 0 (by decide)
 have d0 : w11.cell? ⟨g10, 0, none⟩ = some (.int .i64 1) := (c10a 0 (by decide)).1
 have d1 : w11.cell? ⟨g10, 0 + 1, none⟩ = some (.string (bstr liS)) := (c10a 1 (by decide)).1
 have hrow : w11.ownsRow w9.heap.size 52 2 v10 1 ([((1 : Int), liS)].flatMap ocells) := O11.out
 obtain ⟨o10, p10, rfl⟩ := own_form hrow
 replace i10a : ∀ w', (Instr.indexAt 43 (.slice o10 1 p10) (.int .i64 0)).run Tryz.prog w' = .ok (.pointer (some ⟨g10, 0, none⟩)) w' := i10a
 replace len10 : ∀ ty w', (Builtin.len_ #[43] ty #[.slice o10 1 p10]).run Tryz.prog w' = .ok (.int .i64 1) w' := len10
 replace d1 : w11.cell? ⟨g10, 1, none⟩ = some (.string (bstr liS)) := d1
 obtain ⟨x11, y11, z11, rfl⟩ := I11.out.shape
 obtain ⟨W, hW⟩ : ∃ W, w11.alloc (.cells #[.int .i64 0, .int .i64 1] 3) = W := ⟨_, rfl⟩
 obtain ⟨q, hq⟩ : ∃ q, w11.heap.size = q := ⟨_, rfl⟩
 have hbw : Below w11.heap.size w11 W := by rw [← hW]; exact (Below.refl _ _).alloc (Nat.le_refl _) _
 have xw : CBox W q 3 #[.int .i64 0, .int .i64 1] := by rw [← hW]; exact CBox.new _ hq.symm
 have iw : Ints W (.slice (some ⟨q, 0, none⟩) 2 2) [0, 1] := ⟨_, 2, q, 0, rfl, .inr rfl, by decide, by decide, fun k hk => ⟨xw.lt, by
  match k, hk with
  | 0, _ => exact (xw.at_ 0 _ rfl).1
  | 1, _ => exact (xw.at_ 1 _ rfl).1⟩⟩
 have HSA := Lib.hid (same_any _ _ [0, 1] [0, 1] W (I11.out.mono hbw) iw)
 have BW := Lib.hid (B11.out.trans (hbw.mono B11.out.size)); have HWW := Lib.hid hW; have HQ := Lib.hid hq
 clear hrow i10 c10 c10a hW hq hbw xw iw
 go_wp2_with ((try rw [HWW.out, HQ.out]); (with_reducible refine HSA.out.mono ?_); rintro e w13 ⟨rfl, n13, rfl⟩)
 go_ret
 exact ⟨rfl, below_draws _ BW.out n13⟩
end Go.Proofs.YthcdppppppgckaaGreatDoor

namespace Go.Proofs.YthcdppppppgckaaGreatDoor
open Go.RowKit
set_option maxRecDepth 20000

def asc (L : List Int) : List Int := canon (fun _ => true) L

theorem asc_mem (L : List Int) (y : Int) : y ∈ asc L ↔ y ∈ L := by rw [asc, canon_mem]; simp
theorem asc_length (L : List Int) : (asc L).length ≤ L.length := canon_length _ _
theorem asc_rising (L : List Int) : (asc L).Pairwise (· < ·) := canon_rising _ _

theorem asc_lt (L : List Int) {i j : Nat} (hj : j < (asc L).length) (hij : i < j) : (asc L)[i]'(by omega) < (asc L)[j] :=
 List.pairwise_iff_getElem.1 (asc_rising L) i j (by omega) hj hij

theorem behind_iff (L : List Int) (m : Nat) (hm : m < (asc L).length) (y : Int) (hy : y ∈ L) : y ∉ (asc L).take (m + 1) ↔ (asc L)[m] < y := by
 obtain ⟨i, hi, rfl⟩ := List.getElem_of_mem ((asc_mem L y).2 hy)
 rw [List.mem_take_iff_getElem]
 constructor
 · intro h
   by_cases hle : i ≤ m
   · exact absurd ⟨i, by omega, rfl⟩ h
   · exact asc_lt L hi (by omega)
 · rintro h ⟨k, hk, e⟩
   have : (asc L)[k]'(by omega) ≤ (asc L)[m] := by
    by_cases hkm : k = m
    · subst hkm; exact Int.le_refl _
    · exact Int.le_of_lt (asc_lt L hm (by omega))
   rw [e] at this
   omega

def Found (L : List Int) (n i : Nat) (nx : Int) : Prop :=
 (nx = -1 ∧ ∀ y ∈ L.take i, y ∈ (asc L).take n) ∨ (∃ j : Nat, ∃ h : j < L.length, nx = j ∧ L[j] ∉ (asc L).take n ∧ ∀ y ∈ L.take i, y ∉ (asc L).take n → L[j] ≤ y)

theorem found_start (L : List Int) (n : Nat) : Found L n 0 (-1) := .inl ⟨rfl, by simp⟩

theorem found_seen {L : List Int} {n i : Nat} {nx : Int} (h : Found L n i nx) (hi : i < L.length) (hs : L[i] ∈ (asc L).take n) : Found L n (i + 1) nx := by
 rcases h with ⟨rfl, h⟩ | ⟨j, hj, rfl, h1, h2⟩
 · refine .inl ⟨rfl, fun y hy => ?_⟩
   rw [take_snoc L i hi, List.mem_append, List.mem_singleton] at hy
   rcases hy with hy | rfl
   · exact h y hy
   · exact hs
 · refine .inr ⟨j, hj, rfl, h1, fun y hy hn => ?_⟩
   rw [take_snoc L i hi, List.mem_append, List.mem_singleton] at hy
   rcases hy with hy | rfl
   · exact h2 y hy hn
   · exact absurd hs hn

theorem found_first {L : List Int} {n i : Nat} (h : Found L n i (-1)) (hi : i < L.length) (hs : L[i] ∉ (asc L).take n) : Found L n (i + 1) i := by
 rcases h with ⟨_, h⟩ | ⟨j, hj, e, _⟩
 · refine .inr ⟨i, hi, rfl, hs, fun y hy hn => ?_⟩
   rw [take_snoc L i hi, List.mem_append, List.mem_singleton] at hy
   rcases hy with hy | rfl
   · exact absurd (h y hy) hn
   · exact Int.le_refl _
 · omega

theorem found_less {L : List Int} {n i j : Nat} (h : Found L n i j) (hi : i < L.length) (hj : j < L.length) (hs : L[i] ∉ (asc L).take n) (hl : L[i] < L[j]) : Found L n (i + 1) i := by
 rcases h with ⟨e, _⟩ | ⟨j', hj', e, h1, h2⟩
 · omega
 · obtain rfl : j = j' := by omega
   refine .inr ⟨i, hi, rfl, hs, fun y hy hn => ?_⟩
   rw [take_snoc L i hi, List.mem_append, List.mem_singleton] at hy
   rcases hy with hy | rfl
   · have := h2 y hy hn; omega
   · exact Int.le_refl _

theorem found_more {L : List Int} {n i j : Nat} (h : Found L n i j) (hi : i < L.length) (hj : j < L.length) (hl : L[j] ≤ L[i]) : Found L n (i + 1) j := by
 rcases h with ⟨e, _⟩ | ⟨j', hj', e, h1, h2⟩
 · omega
 · obtain rfl : j = j' := by omega
   refine .inr ⟨j, hj, rfl, h1, fun y hy hn => ?_⟩
   rw [take_snoc L i hi, List.mem_append, List.mem_singleton] at hy
   rcases hy with hy | rfl
   · exact h2 y hy hn
   · exact hl

theorem found_lt {L : List Int} {n i j : Nat} (h : Found L n i j) : j < L.length := by
 rcases h with ⟨e, _⟩ | ⟨j', hj', e, _⟩
 · omega
 · omega

theorem found_cases {L : List Int} {n i : Nat} {nx : Int} (h : Found L n i nx) : nx = -1 ∨ ∃ j : Nat, nx = j ∧ j < L.length := by
 rcases h with ⟨e, _⟩ | ⟨j', hj', e, _⟩
 · exact .inl e
 · exact .inr ⟨j', e, hj'⟩

theorem found_none {L : List Int} {n : Nat} (hn : n ≤ (asc L).length) (h : Found L n L.length (-1)) : n = (asc L).length := by
 rcases h with ⟨_, h⟩ | ⟨j', hj', e, _⟩
 · by_cases he : n = (asc L).length
   · exact he
   · have hlt : n < (asc L).length := by omega
     have hm := h ((asc L)[n]) (by rw [List.take_of_length_le (Nat.le_refl _)]; exact (asc_mem L _).1 (List.getElem_mem hlt))
     rw [List.mem_take_iff_getElem] at hm
     obtain ⟨k, hk, e⟩ := hm
     have := asc_lt L hlt (i := k) (by omega)
     omega
 · omega

theorem found_next {L : List Int} {n j : Nat} (hn : n ≤ (asc L).length) (h : Found L n L.length j) (hj : j < L.length) : ∃ h : n < (asc L).length, L[j] = (asc L)[n] := by
 rcases h with ⟨e, _⟩ | ⟨j', hj', e, h1, h2⟩
 · omega
 · obtain rfl : j = j' := by omega
   obtain ⟨m, hm, em⟩ := List.getElem_of_mem ((asc_mem L L[j]).2 (List.getElem_mem hj))
   have hge : n ≤ m := by
    by_cases hlt : m < n
    · exact absurd (by rw [List.mem_take_iff_getElem]; exact ⟨m, by omega, em⟩) h1
    · omega
   have hlt : n < (asc L).length := by omega
   refine ⟨hlt, ?_⟩
   have h3 := h2 ((asc L)[n]) (by rw [List.take_of_length_le (Nat.le_refl _)]; exact (asc_mem L _).1 (List.getElem_mem hlt)) (by
    rw [List.mem_take_iff_getElem]
    rintro ⟨k, hk, e⟩
    have := asc_lt L hlt (i := k) (by omega)
    omega)
   by_cases hnm : n = m
   · subst hnm; exact em.symm
   · have := asc_lt L hm (i := n) (by omega)
     omega

end Go.Proofs.YthcdppppppgckaaGreatDoor

namespace Go.Proofs.YthcdppppppgckaaGreatDoor
open Go.RowKit Go.Sort
set_option maxRecDepth 20000

theorem wf_asc {L : List Int} (h : ∀ x ∈ L, (Lit.int .i64 x).wf = true) (n : Nat) : ∀ x ∈ (asc L).take n, (Lit.int .i64 x).wf = true :=
 fun x hx => h x ((asc_mem L x).1 (List.mem_of_mem_take hx))

set_option maxHeartbeats 4000000 in
theorem sorted_any (v : Value) (L : List Int) (w : World) (h : Ints w v L) :
 Calls Tryz.prog 90 #[v] w (RetInts w (asc L)) := by
 obtain ⟨b, off, hm, hlen, hidx, hc⟩ := h.facts
 have HWF := Lib.hid h.wf
 clear h
 obtain ⟨i0, hi, hz0, hz1, hz2⟩ := info_parts info3
 have hal := asc_length L
 go_enter Tryz.func90, Tryz.ntmps90
 go_wp2
 go_loopw [3] (fun o wr => ∃ n, n ≤ (asc L).length ∧ wr.ownsRow w.heap.size 3 1 o ((asc L).take n).length (((asc L).take n).map (Value.int .i64)) ∧ Below w.heap.size w wr) (fun o _ => L.length + 1 - lenOf o)
 case atStart => exact ⟨0, Nat.zero_le _, by simpa using World.ownsRow_nil _ _ _ _, Below.refl _ _⟩
 case round =>
  obtain ⟨n, hn, hown, hbel⟩ := hrel
  obtain ⟨wo, rfl⟩ : ∃ wo : World, wo = wr := ⟨_, rfl⟩
  have htl : ((asc L).take n).length = n := by rw [List.length_take]; omega
  obtain ⟨ob, ooff, hom, holen, hoidx, hoc⟩ := (Ints.own hown (by omega) (wf_asc HWF.out n)).facts
  rw [htl] at holen hoidx hoc
  have HO := Lib.hid hown
  clear hown
  have hnl : n ≤ L.length := by omega
  go_wp2
  go_loopw [4, 5] (fun nx i wr => ∃ k : Nat, ∃ x : Int, k ≤ L.length ∧ i = .int .i64 k ∧ nx = .int .i64 x ∧ Found L n k x ∧ ∃ d, wr = wo.drewN d) (fun _ i _ => L.length - (intOf i).toNat)
  case atStart => exact ⟨0, -1, Nat.zero_le _, rfl, rfl, found_start L n, 0, rfl⟩
  case round =>
   obtain ⟨k, x, hk, rfl, rfl, hf, d, rfl⟩ := hrel
   have HF := Lib.hid hf
   by_cases hlt : k < L.length
   · have hp := hidx k hlt
     have hcell := (hbel.cell (p := ⟨b, off + k, none⟩) (hc k hlt).1).trans (hc k hlt).2
     have hcx := found_cases hf
     obtain ⟨y, hy⟩ : ∃ y, L[k] = y := ⟨_, rfl⟩
     rw [show L.getD k 0 = y from by rw [← hy]; simp [List.getD_eq_getElem?_getD, hlt]] at hcell
     have HY := Lib.hid hy
     -- does y stand behind?
     have key : ∀ (bh : Bool), (bh = true → y ∉ (asc L).take n) → (bh = false → y ∈ (asc L).take n) → ∃ x', (bh = false → x' = x ∧ Found L n (k + 1) x) ∧ (bh = true → x = -1 → Found L n (k + 1) k) ∧ (bh = true → ∀ j : Nat, x = j → (y < L.getD j 0 → Found L n (k + 1) k) ∧ (¬ y < L.getD j 0 → Found L n (k + 1) j)) := by
      intro bh hb1 hb2
      refine ⟨x, fun h => ⟨rfl, found_seen hf hlt (by rw [hy]; exact hb2 h)⟩, fun h hx => ?_, fun h j hx => ⟨fun hl => ?_, fun hl => ?_⟩⟩
      · subst hx; exact found_first hf hlt (by rw [hy]; exact hb1 h)
      · subst hx
        have hj := found_lt hf
        exact found_less hf hlt hj (by rw [hy]; exact hb1 h) (by rw [hy]; simpa [List.getD_eq_getElem?_getD, hj] using hl)
      · subst hx
        have hj := found_lt hf
        exact found_more hf hlt hj (by rw [hy]; have : ¬ y < L[j] := by simpa [List.getD_eq_getElem?_getD, hj] using hl
                                       omega)
     have KEY := Lib.hid key
     clear key hf hy
     by_cases hn0 : n = 0
     · have hz : ((n : Int) == 0) = true := by simp [hn0]
       obtain ⟨_, K0, K1, K2⟩ := KEY.out true (by simp [hn0]) (by simp)
       clear K0 KEY hn0 hoidx hoc
       rcases hcx with rfl | ⟨j, rfl, hj⟩
       · have K := Lib.hid (K1 rfl rfl)
         clear hc K1 K2 hidx
         go_wp2
         go_quiet (fail)
         go_wp2
         go_quiet (fail)
         go_wp2
         go_roundw
         case rel => exact ⟨k + 1, k, by omega, by go_num, rfl, K.out, _, rfl⟩
         case measure => simp [intOf]; omega
       · have hpj := hidx j hj
         have hcj := (hbel.cell (p := ⟨b, off + j, none⟩) (hc j hj).1).trans (hc j hj).2
         obtain ⟨z, hzj⟩ : ∃ z, L.getD j 0 = z := ⟨_, rfl⟩
         rw [hzj] at hcj
         have K := K2 rfl j rfl
         rw [hzj] at K
         have hj0 : ¬ (j : Int) < 0 := by omega
         clear hc K1 K2 hidx hzj
         by_cases hyz : y < z
         · have K' := Lib.hid (K.1 hyz)
           clear K
           go_wp2
           go_quiet (fail)
           go_wp2
           go_quiet (fail)
           go_wp2
           go_roundw
           case rel => exact ⟨k + 1, k, by omega, by go_num, rfl, K'.out, _, rfl⟩
           case measure => simp [intOf]; omega
         · have K' := Lib.hid (K.2 hyz)
           clear K
           go_wp2
           go_quiet (fail)
           go_wp2
           go_quiet (fail)
           go_wp2
           go_roundw
           case rel => exact ⟨k + 1, j, by omega, by go_num, rfl, K'.out, _, rfl⟩
           case measure => simp [intOf]; omega
     · have hz : ((n : Int) == 0) = false := by simp [hn0]
       have hpo : ∀ w', (Instr.indexAt 23 u3 (.int .i64 ((n : Int) - 1))).run Tryz.prog w' = .ok (.pointer (some ⟨ob, ooff + (n - 1), none⟩)) w' := by
        have := hoidx (n - 1) (by omega)
        rwa [show ((n - 1 : Nat) : Int) = (n : Int) - 1 from by omega] at this
       have hco := (hoc (n - 1) (by omega)).2
       obtain ⟨t, ht⟩ : ∃ t, ((asc L).take n).getD (n - 1) 0 = t := ⟨_, rfl⟩
       rw [ht] at hco
       have hB : y ∉ (asc L).take n ↔ t < y := by
        have hml : n - 1 < (asc L).length := by omega
        have e : (asc L)[n - 1] = t := by rw [← ht]; simp [List.getD_eq_getElem?_getD, show n - 1 < n from by omega, hml]
        have := behind_iff L (n - 1) hml y (by rw [← HY.out]; exact List.getElem_mem hlt)
        rwa [show n - 1 + 1 = n from by omega, e] at this
       have hn1 : 1 ≤ n := by omega
       clear hoidx hoc hn0 ht
       by_cases hty : t < y
       · obtain ⟨_, K0, K1, K2⟩ := KEY.out true (fun _ => hB.2 hty) (by simp)
         clear K0 KEY hB
         rcases hcx with rfl | ⟨j, rfl, hj⟩
         · have K := Lib.hid (K1 rfl rfl)
           clear hc K1 K2 hidx
           go_wp2
           go_quiet (fail)
           go_wp2
           go_quiet (fail)
           go_wp2
           go_roundw
           case rel => exact ⟨k + 1, k, by omega, by go_num, rfl, K.out, _, rfl⟩
           case measure => simp [intOf]; omega
         · have hpj := hidx j hj
           have hcj := (hbel.cell (p := ⟨b, off + j, none⟩) (hc j hj).1).trans (hc j hj).2
           obtain ⟨z, hzj⟩ : ∃ z, L.getD j 0 = z := ⟨_, rfl⟩
           rw [hzj] at hcj
           have K := K2 rfl j rfl
           rw [hzj] at K
           have hj0 : ¬ (j : Int) < 0 := by omega
           clear hc K1 K2 hidx hzj
           by_cases hyz : y < z
           · have K' := Lib.hid (K.1 hyz)
             clear K
             go_wp2
             go_quiet (fail)
             go_wp2
             go_quiet (fail)
             go_wp2
             go_roundw
             case rel => exact ⟨k + 1, k, by omega, by go_num, rfl, K'.out, _, rfl⟩
             case measure => simp [intOf]; omega
           · have K' := Lib.hid (K.2 hyz)
             clear K
             go_wp2
             go_quiet (fail)
             go_wp2
             go_quiet (fail)
             go_wp2
             go_roundw
             case rel => exact ⟨k + 1, j, by omega, by go_num, rfl, K'.out, _, rfl⟩
             case measure => simp [intOf]; omega
       · obtain ⟨_, K0, K1, K2⟩ := KEY.out false (by simp) (fun _ => by
          by_cases hm : y ∈ (asc L).take n
          · exact hm
          · exact absurd (hB.1 hm) hty)
         have K := Lib.hid (K0 rfl).2
         have hd : decide (t < y) = false := by simpa using hty
         clear K0 K1 K2 KEY hB hc hidx hcx
         go_wp2
         go_quiet (fail)
         go_wp2
         go_quiet (fail)
         go_wp2
         go_roundw
         case rel => exact ⟨k + 1, x, by omega, by go_num, rfl, K.out, _, rfl⟩
         case measure => simp [intOf]; omega
   · obtain rfl : k = L.length := by omega
     have hcx := found_cases hf
     clear hlt
     rcases hcx with rfl | ⟨j, rfl, hj⟩
     · have hE := Lib.hid (found_none hn hf)
       clear hf HF hidx hc hoidx hoc
       go_wp2
       go_ret
       refine ⟨_, rfl, ?_, ?_⟩
       · have := HO.out
         rw [hE.out, List.take_length] at this
         exact (Ints.own this (by omega) (fun x hx => HWF.out x ((asc_mem L x).1 hx))).draws d
       · exact below_draws _ hbel d
     · obtain ⟨hlt, hE⟩ := found_next hn hf hj
       have hpj := hidx j hj
       have hcj := (hbel.cell (p := ⟨b, off + j, none⟩) (hc j hj).1).trans (hc j hj).2
       have hj0 : ¬ (j : Int) < 0 := by omega
       obtain ⟨z, hz⟩ : ∃ z, (asc L)[n] = z := ⟨_, rfl⟩
       have hzj : L.getD j 0 = z := by rw [← hz, ← hE]; simp [List.getD_eq_getElem?_getD, hj]
       rw [hzj] at hcj
       have HS := Lib.hid (show (asc L).take (n + 1) = (asc L).take n ++ [z] from by rw [take_snoc _ n hlt, hz])
       have hownD : (wo.drewN d).ownsRow w.heap.size 3 1 u3 ((asc L).take n).length (((asc L).take n).map (Value.int .i64)) := HO.out
       have hbelD := below_draws _ hbel d
       have hs0 := hbelD.size
       have hL3 : ((asc L).take n).length + 1 ≤ maxLen := by rw [htl]; unfold maxLen; omega
       have hL4 : (((asc L).take n).length + 1) * 8 ≤ 140737488355328 := by rw [htl]; omega
       clear hf HF hidx hc hoidx hoc hE hzj hz hom
       go_wp2_with (at_builtin; refine wpList_append_own _ rfl _ _ 23 rfl w.heap.size 3 i0 (.int .i64 0) 1 8 Tryz.underlying23 hi hz0 hz1 hz2 rfl (by decide) u3 _ _ rfl (hownD.alloc _) ⟨(wo.drewN d).heap.size, 0, none⟩ 1 1 [.int .i64 z] rfl rfl (cell_one_new _ _ _) (ints_oneCell .i64 [z]) hL3 hL4 (by simp at hs0 ⊢; omega) ?_; intro v' w2 hown2 hg2 _)
       go_roundw
       case rel =>
        refine ⟨n + 1, hlt, ?_, below_own ((hbelD.alloc hs0 _)) (hownD.alloc _) (Nat.le_refl _) (by simp at hs0 ⊢; omega) hg2⟩
        rw [HS.out, List.length_append, List.map_append]
        exact hown2
       case measure =>
        have e1 := own_len hown2
        have e2 := own_len hownD
        rw [e1, e2, htl]
        omega
end Go.Proofs.YthcdppppppgckaaGreatDoor

namespace Go.Proofs.YthcdppppppgckaaGreatDoor
open Go.RowKit Go.Lib Go.Sort
set_option maxRecDepth 20000
set_option maxRecDepth 20000

theorem lastD_take {L : List Int} {m : Nat} (h : m < L.length) : lastD 0 (L.take (m + 1)) = L[m] := by rw [take_snoc L m h, lastD_snoc]
theorem rises_pos : ∀ (l : List Int) (a : Int), 0 ≤ a → risesGo a l = true → a ≤ lastD a l ∧ (l ≠ [] → 1 ≤ lastD a l)
 | [], a, _, _ => ⟨Int.le_refl _, fun h => absurd rfl h⟩
 | v :: l, a, ha, h => by
   unfold risesGo at h
   simp only [Bool.and_eq_true, decide_eq_true_eq] at h
   have := rises_pos l v (by omega) h.2
   show a ≤ lastD v l ∧ (_ → 1 ≤ lastD v l)
   exact ⟨by omega, fun _ => by omega⟩
set_option maxHeartbeats 4000000 in
theorem rr_any (v : Value) (L : List Int) (w : World) (h : Ints w v L) :
 Calls Tryz.prog 88 #[v] w fun e w' => e = .returned (.bool (risesV L)) ∧ Below w.heap.size w w' := by
 obtain ⟨b, off, hm, hlen, hidx, hc⟩ := h.facts
 clear h
 go_enter Tryz.func88, Tryz.ntmps88
 go_wp2_with fail
 go_loopw [3] (fun i wr => ∃ k : Nat, k ≤ L.length ∧ i = .int .i64 (k : Nat) ∧ risesV (L.take k) = true ∧ Below w.heap.size w wr) (fun i _ => L.length - (intOf i).toNat)
 case atStart => exact ⟨0, Nat.zero_le _, rfl, rfl, Below.refl _ _⟩
 case round =>
  obtain ⟨k, hk, rfl, hn, hb⟩ := hrel
  have HB := Lib.hid hb
  by_cases hlt : k < L.length
  · have HBD := Lib.hid (fun h => risesGo_bad hlt h)
    have HS := Lib.hid (show risesV (L.take (k + 1)) = (decide (lastD 0 (L.take k) < L[k]) && decide (L[k] ≤ 4094)) from by unfold risesV at hn ⊢; rw [take_snoc L k hlt, risesGo_snoc, hn, Bool.true_and])
    have hp := hidx k hlt
    have hcell := (hb.cell (p := ⟨b, off + k, none⟩) (hc k hlt).1).trans (hc k hlt).2
    rw [show L.getD k 0 = L[k] from by simp [List.getD_eq_getElem?_getD, hlt]] at hcell
    have HD := Lib.hid (fun n => below_draws _ hb n)
    by_cases hk0 : k = 0
    · rw [show lastD 0 (L.take k) = 0 from by rw [hk0]; rfl] at HBD HS
      have hj0 : decide ((0 : Int) < (k : Int)) = false := decide_eq_false (by omega)
      have hj0' : decide (0 < k) = false := decide_eq_false (by omega)
      obtain ⟨x, hx⟩ : ∃ x, L[k] = x := ⟨_, rfl⟩
      rw [hx] at hcell HBD HS
      clear hidx hc hn hx hb hk0
      cases q1 : decide (x < 1)
      · have e1 : decide ((0 : Int) < x) = true := by have := of_decide_eq_false q1; exact decide_eq_true (by omega)
        cases q2 : decide (4094 < x)
        · have e2 : decide (x ≤ 4094) = true := by have := of_decide_eq_false q2; exact decide_eq_true (by omega)
          rw [e1, e2] at HS
          clear HBD e1 e2
          go_wp2
          go_quiet (fail)
          go_wp2
          go_roundw
          case rel => exact ⟨k + 1, by omega, by go_num, HS.out, HD.out _⟩
          case measure => simp [intOf]; omega
        · have e2 : decide (x ≤ 4094) = false := by have := of_decide_eq_true q2; exact decide_eq_false (by omega)
          have HR := Lib.hid (HBD.out (by rw [e2, Bool.and_false]))
          clear HBD e1 e2 HS
          go_wp2
          go_quiet (fail)
          go_wp2
          go_ret
          exact ⟨by rw [HR.out]; rfl, HD.out _⟩
      · have e1 : decide ((0 : Int) < x) = false := by have := of_decide_eq_true q1; exact decide_eq_false (by omega)
        have HR := Lib.hid (HBD.out (by rw [e1, Bool.false_and]))
        clear HBD e1 HS
        go_wp2
        go_quiet (fail)
        go_wp2
        go_ret
        exact ⟨by rw [HR.out]; rfl, HD.out _⟩
    · obtain ⟨m, hmk⟩ : ∃ m, k = m + 1 := ⟨k - 1, by omega⟩
      have hml : m < L.length := by omega
      have hpm := hidx m hml
      have hcm := (hb.cell (p := ⟨b, off + m, none⟩) (hc m hml).1).trans (hc m hml).2
      rw [show L.getD m 0 = L[m] from by simp [List.getD_eq_getElem?_getD, hml]] at hcm
      rw [show lastD 0 (L.take k) = L[m] from by rw [hmk]; exact lastD_take hml] at HBD HS
      have hpos : 1 ≤ L[m] := by
       have := (rises_pos _ _ (Int.le_refl 0) (show risesGo 0 (L.take (m + 1)) = true from by rw [← hmk]; exact hn)).2 (by intro e; rw [List.take_eq_nil_iff] at e; rcases e with e | e; exact absurd e (by omega); exact absurd hml (by rw [e]; simp))
       rwa [lastD_take hml] at this
      obtain ⟨x, hx⟩ : ∃ x, L[k] = x := ⟨_, rfl⟩
      obtain ⟨y, hy⟩ : ∃ y, L[m] = y := ⟨_, rfl⟩
      rw [hx] at hcell HBD HS
      rw [hy] at hcm HBD HS hpos
      replace hpm : ∀ w', (Instr.indexAt 23 v (.int .i64 ((k : Int) - 1))).run Tryz.prog w' = .ok (.pointer (some ⟨b, off + m, none⟩)) w' := by rw [show ((k : Int) - 1) = (m : Int) from by omega]; exact hpm
      have hj0 : decide ((0 : Int) < (k : Int)) = true := decide_eq_true (by omega)
      have hj0' : decide (0 < k) = true := decide_eq_true (by omega)
      clear hidx hc hn hx hy hb hmk hk0
      cases q1 : decide (x < 1)
      · cases q2 : decide (4094 < x)
        · have e2 : decide (x ≤ 4094) = true := by have := of_decide_eq_false q2; exact decide_eq_true (by omega)
          cases q3 : decide (x ≤ y)
          · have e1 : decide (y < x) = true := by have := of_decide_eq_false q3; exact decide_eq_true (by omega)
            rw [e1, e2] at HS
            clear HBD e1 e2 hpos
            go_wp2
            go_quiet (fail)
            go_wp2
            go_roundw
            case rel => exact ⟨k + 1, by omega, by go_num, HS.out, HD.out _⟩
            case measure => simp [intOf]; omega
          · have e1 : decide (y < x) = false := by have := of_decide_eq_true q3; exact decide_eq_false (by omega)
            have HR := Lib.hid (HBD.out (by rw [e1, Bool.false_and]))
            clear HBD e1 e2 HS hpos
            go_wp2
            go_quiet (fail)
            go_wp2
            go_ret
            exact ⟨by rw [HR.out]; rfl, HD.out _⟩
        · have e2 : decide (x ≤ 4094) = false := by have := of_decide_eq_true q2; exact decide_eq_false (by omega)
          have HR := Lib.hid (HBD.out (by rw [e2, Bool.and_false]))
          clear HBD e2 HS hpos
          go_wp2
          go_quiet (fail)
          go_wp2
          go_ret
          exact ⟨by rw [HR.out]; rfl, HD.out _⟩
      · have e1 : decide (y < x) = false := by have := of_decide_eq_true q1; exact decide_eq_false (by omega)
        have HR := Lib.hid (HBD.out (by rw [e1, Bool.false_and]))
        clear HBD e1 HS hpos
        go_wp2
        go_quiet (fail)
        go_wp2
        go_ret
        exact ⟨by rw [HR.out]; rfl, HD.out _⟩
  · have HR : Hid (risesV L = true) := by rw [List.take_of_length_le (by omega)] at hn; exact hn
    clear hidx hc hn hb
    go_wp2
    go_ret
    exact ⟨by rw [HR.out]; rfl, HB.out⟩
theorem rmember_any (p : Pt) (vt vp : Value) (x : Int) (w : World) (ht : Ints w vt p.tagged) (hp : Ints w vp p.plain) :
 Calls Tryz.prog 89 #[.agg #[.int .i64 p.default_, vt, vp], .int .i64 x] w fun e w' => e = .returned (.bool (p.member x)) ∧ Below w.heap.size w w' := by
 obtain ⟨W1, hW1⟩ : ∃ W, w.alloc (.cells #[.int .i64 p.default_, vt, vp] 56) = W := ⟨_, rfl⟩
 obtain ⟨q, hq⟩ : ∃ q, w.heap.size = q := ⟨_, rfl⟩
 have hb : Below w.heap.size w W1 := by rw [← hW1]; exact (Below.refl _ _).alloc (Nat.le_refl _) _
 have hx : CBox W1 q 56 #[.int .i64 p.default_, vt, vp] := by rw [← hW1]; exact CBox.new _ hq.symm
 have H1 := Lib.hid (has_any vt p.tagged x W1 (ht.mono hb))
 have H2 := Lib.hid (has_any vp p.plain x W1 (hp.mono hb))
 unfold Pt.member
 obtain ⟨b1, hb1⟩ : ∃ b, p.tagged.contains x = b := ⟨_, rfl⟩
 obtain ⟨b2, hb2⟩ : ∃ b, p.plain.contains x = b := ⟨_, rfl⟩
 rw [hb1] at H1 ⊢
 rw [hb2] at H2 ⊢
 obtain ⟨ao, an, ac, rfl⟩ := ht.shape
 obtain ⟨bo, bn, bc, rfl⟩ := hp.shape
 obtain ⟨d, hd⟩ : ∃ d, p.default_ = d := ⟨_, rfl⟩
 rw [hd] at hW1 hx ⊢
 have HW1 := Lib.hid hW1; have HQ := Lib.hid hq; have HB := Lib.hid hb; have HX := Lib.hid hx
 clear ht hp hW1 hq hb hx hb1 hb2 hd
 cases b1
 · go_enter Tryz.func89, Tryz.ntmps89
   go_upto_region 1 with fail
   rw [HW1.out, HQ.out]
   obtain ⟨c0, cf0⟩ := CBox.at_ HX.out 0 _ rfl
   obtain ⟨c1, cf1⟩ := CBox.at_ HX.out 1 _ rfl
   obtain ⟨c2, cf2⟩ := CBox.at_ HX.out 2 _ rfl
   go_wp2_with (first | ((with_reducible refine H1.out.mono ?_); rintro e w2 ⟨rfl, hw2⟩; subst w2) | ((with_reducible refine H2.out.mono ?_); rintro e w2 ⟨rfl, hw2⟩; subst w2))
   go_ret
   exact ⟨rfl, HB.out⟩
 · go_enter Tryz.func89, Tryz.ntmps89
   go_upto_region 1 with fail
   rw [HW1.out, HQ.out]
   obtain ⟨c0, cf0⟩ := CBox.at_ HX.out 0 _ rfl
   obtain ⟨c1, cf1⟩ := CBox.at_ HX.out 1 _ rfl
   obtain ⟨c2, cf2⟩ := CBox.at_ HX.out 2 _ rfl
   go_wp2_with ((with_reducible refine H1.out.mono ?_); rintro e w2 ⟨rfl, hw2⟩; subst w2)
   go_ret
   exact ⟨rfl, HB.out⟩
theorem any_take12 {L : List Int} {P : Int → Bool} {k : Nat} (h : k < L.length) (hn : (L.take k).any P = false) : (L.take (k + 1)).any P = P L[k] := by
 rw [List.take_succ_eq_append_getElem h, List.any_append, hn]
 simp
theorem any_yes12 {L : List Int} {P : Int → Bool} {k : Nat} (h : k < L.length) (hp : P L[k] = true) : L.any P = true := List.any_eq_true.2 ⟨_, List.getElem_mem h, hp⟩
set_option maxHeartbeats 8000000 in
theorem rcheck12_any (R : Nat → Prop) (v : Value) (L : List Pt) (w : World) (h : Pts R w v L) :
 Calls Tryz.prog 39 #[v] w fun e w' => e = .returned (.int .i64 (vCheck L)) ∧ Below w.heap.size w w' := by
 obtain ⟨b, off, hm, hlen, hidx, hc⟩ := h.facts
 obtain ⟨r, hr⟩ : ∃ r, vCheck L = r := ⟨_, rfl⟩
 have HF := Lib.hid (show r = if 1 ≤ L.length ∧ L.length ≤ 16 ∧ L.all Pt.fine = true then 0 else 3 from hr.symm)
 rw [hr]
 clear hr h
 cases q1 : decide (L.length < 1)
 · cases q2 : decide (16 < L.length)
   · have b1 := of_decide_eq_false q1; have b2 := of_decide_eq_false q2
     have d1 : decide ((L.length : Int) < 1) = false := decide_eq_false (by omega)
     have d2 : decide ((16 : Int) < L.length) = false := decide_eq_false (by omega)
     have HB12 := Lib.hid (And.intro (show 1 ≤ L.length by omega) (show L.length ≤ 16 by omega))
     clear b1 b2
     have hlen' := Lib.hid hlen
     go_enter Tryz.func39, Tryz.ntmps39
     go_wp2_with fail
     go_loopw [3, 4, 5] (fun i _ _ wr => ∃ k : Nat, k ≤ L.length ∧ i = .int .i64 (k : Nat) ∧ (L.take k).all Pt.fine = true ∧ Below w.heap.size w wr) (fun i _ _ _ => L.length - (intOf i).toNat)
     case atStart => exact ⟨0, Nat.zero_le _, rfl, rfl, Below.refl _ _⟩
     case round =>
      obtain ⟨k, hk, rfl, hn, hb⟩ := hrel
      clear q1 q2 d1 d2
      by_cases hlt : k < L.length
      · have HS := Lib.hid (allpt_take hlt hn)
        have HN := Lib.hid (fun h => allpt_not hlt h)
        obtain ⟨hl, vt, vp, c0, c1, c2, i1, i2⟩ := hc k hlt
        have s0 := (hb.cell (p := ⟨b, off + k * 3, none⟩) hl).trans c0
        have s1 := (hb.cell (p := ⟨b, off + k * 3 + 1, none⟩) hl).trans c1
        have s2 := (hb.cell (p := ⟨b, off + k * 3 + 2, none⟩) hl).trans c2
        have hp := hidx k hlt
        obtain ⟨P, hP⟩ : ∃ p, L[k] = p := ⟨_, rfl⟩
        rw [hP] at HS HN s0 i1 i2
        have I1 := i1.mono hb; have I2 := i2.mono hb
        obtain ⟨ao, an, ac, rfl⟩ := i1.shape
        obtain ⟨bo, bn, bc, rfl⟩ := i2.shape
        obtain ⟨W1, hW1⟩ : ∃ W, wr.alloc (.cells #[.int .i64 P.default_, .slice ao an ac, .slice bo bn bc] 56) = W := ⟨_, rfl⟩
        obtain ⟨q, hq⟩ : ∃ q, wr.heap.size = q := ⟨_, rfl⟩
        have hb1 : Below wr.heap.size wr W1 := by rw [← hW1]; exact (Below.refl _ _).alloc (Nat.le_refl _) _
        have X1 := Lib.hid (show CBox W1 q 56 #[.int .i64 P.default_, .slice ao an ac, .slice bo bn bc] from by rw [← hW1]; exact CBox.new _ hq.symm)
        have HB1 := Lib.hid (hb.trans (hb1.mono hb.size))
        have J1 := Lib.hid (I1.mono hb1); have J2 := Lib.hid (I2.mono hb1)
        have HR1 := Lib.hid (fun W (hW : Below W1.heap.size W1 W) => rr_any _ P.tagged W ((I1.mono hb1).mono hW))
        have HR2 := Lib.hid (fun W (hW : Below W1.heap.size W1 W) => rr_any _ P.plain W ((I2.mono hb1).mono hW))
        have HMB := Lib.hid (fun W (hW : Below W1.heap.size W1 W) => rmember_any P _ _ P.default_ W ((I1.mono hb1).mono hW) ((I2.mono hb1).mono hW))
        have HFI := Lib.hid (show P.fine = (risesV P.tagged && risesV P.plain && !(P.tagged.any fun v => P.plain.contains v) && ((P.default_ == 0) || P.member P.default_)) from rfl)
        have HW1 := Lib.hid hW1; have HQ := Lib.hid hq; have HR3 := Lib.hid (show P.fine = false → r = 3 from fun hf => by rw [HF.out, if_neg (fun h => HN.out hf h.2.2)])
        have HLT := Lib.hid (show w.heap.size ≤ q from by rw [← hq]; exact hb.size)
        obtain ⟨f1, hf1⟩ : ∃ f, risesV P.tagged = f := ⟨_, rfl⟩
        obtain ⟨f2, hf2⟩ : ∃ f, risesV P.plain = f := ⟨_, rfl⟩
        obtain ⟨f3, hf3⟩ : ∃ f, P.member P.default_ = f := ⟨_, rfl⟩
        rw [hf1] at HR1 HFI; rw [hf2] at HR2 HFI; rw [hf3] at HMB HFI
        obtain ⟨fi, hfi⟩ : ∃ f, P.fine = f := ⟨_, rfl⟩
        rw [hfi] at HFI HR3 HS
        obtain ⟨d, hd⟩ : ∃ d, P.default_ = d := ⟨_, rfl⟩
        rw [hd] at s0 HW1 X1 HMB HFI
        obtain ⟨TL, hTL⟩ : ∃ t, P.tagged = t := ⟨_, rfl⟩
        obtain ⟨PL, hPL⟩ : ∃ t, P.plain = t := ⟨_, rfl⟩
        rw [hTL] at J1 HFI; rw [hPL] at J2 HFI
        clear hidx hc hn hb hb1 c0 c1 c2 i1 i2 hl I1 I2 hW1 hq hf1 hf2 hf3 hfi hd hP hTL hPL HF HN
        go_upto_region 7 with fail
        rw [HW1.out, HQ.out]
        clear s0 s1 s2 hp
        obtain ⟨c0, cf0⟩ := CBox.at_ X1.out 0 _ rfl
        obtain ⟨c1, cf1⟩ := CBox.at_ X1.out 1 _ rfl
        obtain ⟨c2, cf2⟩ := CBox.at_ X1.out 2 _ rfl
        cases f1
        · have HE := Lib.hid (HR3.out (by rw [HFI.out]; rfl))
          go_wp2_with ((with_reducible refine (HR1.out W1 (Below.refl _ _)).mono ?_); rintro e w2 ⟨rfl, hb2⟩; have HB2 := Lib.hid (HB1.out.trans (hb2.mono HB1.out.size)); clear hb2)
          go_ret
          exact ⟨by rw [HE.out]; rfl, HB2.out⟩
        · cases f2
          · have HE := Lib.hid (HR3.out (by rw [HFI.out]; rfl))
            go_wp2_with (first | ((with_reducible refine (HR1.out W1 (Below.refl _ _)).mono ?_); rintro e w2 ⟨rfl, hb2⟩; have HB2 := Lib.hid hb2; have X2 := Lib.hid (X1.out.below hb2 X1.out.lt); clear hb2 c0 cf0 c1 cf1 c2 cf2; obtain ⟨c0, cf0⟩ := CBox.at_ X2.out 0 _ rfl; obtain ⟨c1, cf1⟩ := CBox.at_ X2.out 1 _ rfl; obtain ⟨c2, cf2⟩ := CBox.at_ X2.out 2 _ rfl) | ((with_reducible refine (HR2.out w2 HB2.out).mono ?_); rintro e w3 ⟨rfl, hb3⟩; have HB3 := Lib.hid (HB2.out.trans (hb3.mono HB2.out.size)); have X3 := Lib.hid (X2.out.below hb3 X2.out.lt); clear hb3 c0 cf0 c1 cf1 c2 cf2; obtain ⟨c0, cf0⟩ := CBox.at_ X3.out 0 _ rfl; obtain ⟨c1, cf1⟩ := CBox.at_ X3.out 1 _ rfl; obtain ⟨c2, cf2⟩ := CBox.at_ X3.out 2 _ rfl))
            go_ret
            exact ⟨by rw [HE.out]; rfl, HB1.out.trans (HB3.out.mono HB1.out.size)⟩
          · cases hd0 : (d == 0)
            · have hd1 : (d != 0) = true := by simp [bne, hd0]
              cases f3
              · have HE := Lib.hid (HR3.out (by rw [HFI.out, hd0]; simp))
                go_wp2_with (first | ((with_reducible refine (HR1.out W1 (Below.refl _ _)).mono ?_); rintro e w2 ⟨rfl, hb2⟩; have HB2 := Lib.hid hb2; have X2 := Lib.hid (X1.out.below hb2 X1.out.lt); clear hb2 c0 cf0 c1 cf1 c2 cf2; obtain ⟨c0, cf0⟩ := CBox.at_ X2.out 0 _ rfl; obtain ⟨c1, cf1⟩ := CBox.at_ X2.out 1 _ rfl; obtain ⟨c2, cf2⟩ := CBox.at_ X2.out 2 _ rfl) | ((with_reducible refine (HR2.out w2 HB2.out).mono ?_); rintro e w3 ⟨rfl, hb3⟩; have HB3 := Lib.hid (HB2.out.trans (hb3.mono HB2.out.size)); have X3 := Lib.hid (X2.out.below hb3 X2.out.lt); clear hb3 c0 cf0 c1 cf1 c2 cf2; obtain ⟨c0, cf0⟩ := CBox.at_ X3.out 0 _ rfl; obtain ⟨c1, cf1⟩ := CBox.at_ X3.out 1 _ rfl; obtain ⟨c2, cf2⟩ := CBox.at_ X3.out 2 _ rfl) | ((with_reducible refine (HMB.out w3 HB3.out).mono ?_); rintro e w4 ⟨rfl, hb4⟩; have HB4 := Lib.hid (HB3.out.trans (hb4.mono HB3.out.size)); have X4 := Lib.hid (X3.out.below hb4 X3.out.lt); clear hb4 c0 cf0 c1 cf1 c2 cf2; obtain ⟨c0, cf0⟩ := CBox.at_ X4.out 0 _ rfl; obtain ⟨c1, cf1⟩ := CBox.at_ X4.out 1 _ rfl; obtain ⟨c2, cf2⟩ := CBox.at_ X4.out 2 _ rfl))
                go_ret
                exact ⟨by rw [HE.out]; rfl, HB1.out.trans (HB4.out.mono HB1.out.size)⟩
              · rw [hd0] at HFI
                go_wp2_with (first | ((with_reducible refine (HR1.out W1 (Below.refl _ _)).mono ?_); rintro e w2 ⟨rfl, hb2⟩; have HB2 := Lib.hid hb2; have X2 := Lib.hid (X1.out.below hb2 X1.out.lt); clear hb2 c0 cf0 c1 cf1 c2 cf2; obtain ⟨c0, cf0⟩ := CBox.at_ X2.out 0 _ rfl; obtain ⟨c1, cf1⟩ := CBox.at_ X2.out 1 _ rfl; obtain ⟨c2, cf2⟩ := CBox.at_ X2.out 2 _ rfl) | ((with_reducible refine (HR2.out w2 HB2.out).mono ?_); rintro e w3 ⟨rfl, hb3⟩; have HB3 := Lib.hid (HB2.out.trans (hb3.mono HB2.out.size)); have X3 := Lib.hid (X2.out.below hb3 X2.out.lt); clear hb3 c0 cf0 c1 cf1 c2 cf2; obtain ⟨c0, cf0⟩ := CBox.at_ X3.out 0 _ rfl; obtain ⟨c1, cf1⟩ := CBox.at_ X3.out 1 _ rfl; obtain ⟨c2, cf2⟩ := CBox.at_ X3.out 2 _ rfl) | ((with_reducible refine (HMB.out w3 HB3.out).mono ?_); rintro e w4 ⟨rfl, hb4⟩; have HB4 := Lib.hid (HB3.out.trans (hb4.mono HB3.out.size)); have X4 := Lib.hid (X3.out.below hb4 X3.out.lt); clear hb4 c0 cf0 c1 cf1 c2 cf2; obtain ⟨c0, cf0⟩ := CBox.at_ X4.out 0 _ rfl; obtain ⟨c1, cf1⟩ := CBox.at_ X4.out 1 _ rfl; obtain ⟨c2, cf2⟩ := CBox.at_ X4.out 2 _ rfl))
                go_loopw [5] (fun j wq => ∃ k2 : Nat, k2 ≤ TL.length ∧ j = .int .i64 (k2 : Nat) ∧ (TL.take k2).any (fun v => PL.contains v) = false ∧ Below w4.heap.size w4 wq) (fun j _ => TL.length - (intOf j).toNat)
                case atStart => exact ⟨0, Nat.zero_le _, rfl, rfl, Below.refl _ _⟩
                case round =>
                 obtain ⟨k2, hk2, rfl, hn2, hb5⟩ := hrel
                 have X5 := Lib.hid (X4.out.below hb5 X4.out.lt); have HB5 := Lib.hid (HB4.out.trans (hb5.mono HB4.out.size))
                 obtain ⟨tb, toff, _, tlen, tidx, tcl⟩ := J1.out.facts
                 clear c0 cf0 c1 cf1 c2 cf2
                 obtain ⟨c0, cf0⟩ := CBox.at_ X5.out 0 _ rfl
                 obtain ⟨c1, cf1⟩ := CBox.at_ X5.out 1 _ rfl
                 obtain ⟨c2, cf2⟩ := CBox.at_ X5.out 2 _ rfl
                 by_cases hlt2 : k2 < TL.length
                 · have hti := tidx k2 hlt2
                   have htc := (HB5.out.cell (p := ⟨tb, toff + k2, none⟩) (tcl k2 hlt2).1).trans (tcl k2 hlt2).2
                   rw [show TL.getD k2 0 = TL[k2] from by simp [List.getD_eq_getElem?_getD, hlt2]] at htc
                   have HA2 := Lib.hid (any_take12 hlt2 hn2); have HY2 := Lib.hid (fun h => any_yes12 (P := fun v => PL.contains v) hlt2 h)
                   obtain ⟨x, hx⟩ : ∃ x, TL[k2] = x := ⟨_, rfl⟩
                   rw [hx] at htc HA2 HY2
                   have HC := Lib.hid (fun n => has_any _ PL x (wr.drewN n) ((J2.out.mono HB5.out).mono (below_draws _ (Below.refl _ _) n)))
                   have HD := Lib.hid (fun n => below_draws _ hb5 n)
                   obtain ⟨y, hy⟩ : ∃ y, PL.contains x = y := ⟨_, rfl⟩
                   rw [hy] at HC HA2 HY2
                   clear tidx tcl hn2 hb5 hx hy
                   cases y
                   · go_wp2
                     go_quiet ((with_reducible refine quietS (HC.out _)))
                     go_wp2
                     go_roundw
                     case rel => exact ⟨k2 + 1, by omega, by go_num, HA2.out, HD.out _⟩
                     case measure => simp [intOf]; omega
                   · have HE := Lib.hid (HR3.out (by rw [HFI.out, HY2.out rfl]; simp))
                     go_wp2
                     go_quiet ((with_reducible refine quietS (HC.out _)))
                     go_wp2
                     go_ret
                     exact ⟨by rw [HE.out]; rfl, HB1.out.trans ((HB4.out.trans ((HD.out _).mono HB4.out.size)).mono HB1.out.size)⟩
                 · have hfull : (TL.any fun v => PL.contains v) = false := by rw [List.take_of_length_le (by omega)] at hn2; exact hn2
                   rw [hfull] at HFI
                   have HFT := Lib.hid (show fi = true from by rw [HFI.out]; rfl)
                   have HSS := Lib.hid (show (L.take (k + 1)).all Pt.fine = true from HS.out.trans HFT.out)
                   clear tidx tcl hn2 hb5 hfull
                   go_wp2_with fail
                   go_roundw
                   case rel => exact ⟨k + 1, by omega, by go_num, HSS.out, HB1.out.trans (HB5.out.mono HB1.out.size)⟩
                   case measure => simp [intOf]; omega
            · have hd1 : (d != 0) = false := by simp [bne, hd0]
              rw [hd0] at HFI
              go_wp2_with (first | ((with_reducible refine (HR1.out W1 (Below.refl _ _)).mono ?_); rintro e w2 ⟨rfl, hb2⟩; have HB2 := Lib.hid hb2; have X2 := Lib.hid (X1.out.below hb2 X1.out.lt); clear hb2 c0 cf0 c1 cf1 c2 cf2; obtain ⟨c0, cf0⟩ := CBox.at_ X2.out 0 _ rfl; obtain ⟨c1, cf1⟩ := CBox.at_ X2.out 1 _ rfl; obtain ⟨c2, cf2⟩ := CBox.at_ X2.out 2 _ rfl) | ((with_reducible refine (HR2.out w2 HB2.out).mono ?_); rintro e w3 ⟨rfl, hb3⟩; have HB3 := Lib.hid (HB2.out.trans (hb3.mono HB2.out.size)); have X3 := Lib.hid (X2.out.below hb3 X2.out.lt); clear hb3 c0 cf0 c1 cf1 c2 cf2; obtain ⟨c0, cf0⟩ := CBox.at_ X3.out 0 _ rfl; obtain ⟨c1, cf1⟩ := CBox.at_ X3.out 1 _ rfl; obtain ⟨c2, cf2⟩ := CBox.at_ X3.out 2 _ rfl))
              go_loopw [5] (fun j wq => ∃ k2 : Nat, k2 ≤ TL.length ∧ j = .int .i64 (k2 : Nat) ∧ (TL.take k2).any (fun v => PL.contains v) = false ∧ Below w3.heap.size w3 wq) (fun j _ => TL.length - (intOf j).toNat)
              case atStart => exact ⟨0, Nat.zero_le _, rfl, rfl, Below.refl _ _⟩
              case round =>
               obtain ⟨k2, hk2, rfl, hn2, hb5⟩ := hrel
               have X5 := Lib.hid (X3.out.below hb5 X3.out.lt); have HB5 := Lib.hid (HB3.out.trans (hb5.mono HB3.out.size))
               obtain ⟨tb, toff, _, tlen, tidx, tcl⟩ := J1.out.facts
               clear c0 cf0 c1 cf1 c2 cf2
               obtain ⟨c0, cf0⟩ := CBox.at_ X5.out 0 _ rfl
               obtain ⟨c1, cf1⟩ := CBox.at_ X5.out 1 _ rfl
               obtain ⟨c2, cf2⟩ := CBox.at_ X5.out 2 _ rfl
               by_cases hlt2 : k2 < TL.length
               · have hti := tidx k2 hlt2
                 have htc := (HB5.out.cell (p := ⟨tb, toff + k2, none⟩) (tcl k2 hlt2).1).trans (tcl k2 hlt2).2
                 rw [show TL.getD k2 0 = TL[k2] from by simp [List.getD_eq_getElem?_getD, hlt2]] at htc
                 have HA2 := Lib.hid (any_take12 hlt2 hn2); have HY2 := Lib.hid (fun h => any_yes12 (P := fun v => PL.contains v) hlt2 h)
                 obtain ⟨x, hx⟩ : ∃ x, TL[k2] = x := ⟨_, rfl⟩
                 rw [hx] at htc HA2 HY2
                 have HC := Lib.hid (fun n => has_any _ PL x (wr.drewN n) ((J2.out.mono HB5.out).mono (below_draws _ (Below.refl _ _) n)))
                 have HD := Lib.hid (fun n => below_draws _ hb5 n)
                 obtain ⟨y, hy⟩ : ∃ y, PL.contains x = y := ⟨_, rfl⟩
                 rw [hy] at HC HA2 HY2
                 clear tidx tcl hn2 hb5 hx hy
                 cases y
                 · go_wp2
                   go_quiet ((with_reducible refine quietS (HC.out _)))
                   go_wp2
                   go_roundw
                   case rel => exact ⟨k2 + 1, by omega, by go_num, HA2.out, HD.out _⟩
                   case measure => simp [intOf]; omega
                 · have HE := Lib.hid (HR3.out (by rw [HFI.out, HY2.out rfl]; simp))
                   go_wp2
                   go_quiet ((with_reducible refine quietS (HC.out _)))
                   go_wp2
                   go_ret
                   exact ⟨by rw [HE.out]; rfl, HB1.out.trans ((HB3.out.trans ((HD.out _).mono HB3.out.size)).mono HB1.out.size)⟩
               · have hfull : (TL.any fun v => PL.contains v) = false := by rw [List.take_of_length_le (by omega)] at hn2; exact hn2
                 rw [hfull] at HFI
                 have HFT := Lib.hid (show fi = true from by rw [HFI.out]; rfl)
                 have HSS := Lib.hid (show (L.take (k + 1)).all Pt.fine = true from HS.out.trans HFT.out)
                 clear tidx tcl hn2 hb5 hfull
                 go_wp2_with fail
                 go_roundw
                 case rel => exact ⟨k + 1, by omega, by go_num, HSS.out, HB1.out.trans (HB5.out.mono HB1.out.size)⟩
                 case measure => simp [intOf]; omega
      · have HRR := Lib.hid (show r = 0 from by
         rw [List.take_of_length_le (by omega)] at hn
         rw [HF.out, if_pos ⟨HB12.out.1, HB12.out.2, hn⟩])
        have HB := Lib.hid hb
        clear hidx hc hn hb
        go_wp2_with fail
        go_ret
        exact ⟨by rw [HRR.out]; rfl, HB.out⟩
   · have b2 := of_decide_eq_true q2
     have d1 : decide ((L.length : Int) < 1) = false := decide_eq_false (by omega)
     have d2 : decide ((16 : Int) < L.length) = true := decide_eq_true (by omega)
     have HR := Lib.hid (show r = 3 from by rw [HF.out, if_neg (fun h => by omega)])
     rw [HR.out]
     clear b2 hidx hc
     go_enter Tryz.func39, Tryz.ntmps39
     go_wp2
     go_ret
     exact ⟨rfl, Below.refl _ _⟩
 · have b1 := of_decide_eq_true q1
   have d1 : decide ((L.length : Int) < 1) = true := decide_eq_true (by omega)
   have HR := Lib.hid (show r = 3 from by rw [HF.out, if_neg (fun h => by omega)])
   rw [HR.out]
   clear b1 hidx hc
   go_enter Tryz.func39, Tryz.ntmps39
   go_wp2
   go_ret
   exact ⟨rfl, Below.refl _ _⟩
end Go.Proofs.YthcdppppppgckaaGreatDoor
