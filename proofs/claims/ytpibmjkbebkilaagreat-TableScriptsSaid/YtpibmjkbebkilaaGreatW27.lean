/- Texts joined into one file: TInts, TLive, TOpen. -/
import Derived.Test.YtpibmjkbebkilaaGreatW02
import Derived.Test.YtpibmjkbebkilaaGreatW03
import Derived.Test.YtpibmjkbebkilaaGreatW26
import Derived.Test.YtpibmjkbebkilaaGreatW23
import Derived.Test.YtpibmjkbebkilaaGreatW17
import Derived.Test.YtpibmjkbebkilaaGreatW07

namespace Go.Proofs.YtpibmjkbebkilaaGreat
open Go.RowKit
set_option maxRecDepth 20000

theorem take_eq_snoc (A B : List Int) (k : Nat) (ha : k < A.length) (hb : k < B.length) (h : A.take k = B.take k) : (A.take (k + 1) = B.take (k + 1)) ↔ A[k] = B[k] := by
 rw [take_snoc A k ha, take_snoc B k hb, h, List.append_cancel_left_eq]
 simp only [List.cons.injEq, and_true]

set_option maxHeartbeats 800000 in
theorem same_any (v u : Value) (A B : List Int) (w : World) (h : Ints w v A) (h' : Ints w u B) :
 Calls Tryz.prog 12 #[v, u] w fun e w' => e = .returned (.bool (A == B)) ∧ ∃ n, w' = w.drewN n := by
 obtain ⟨b, off, hm, hlen, hidx, hc⟩ := h.facts
 obtain ⟨b', off', hm', hlen', hidx', hc'⟩ := h'.facts
 clear h h'
 by_cases hl : A.length = B.length
 · have hne : ((A.length : Int) != (B.length : Int)) = false := by rw [hl]; simp
   have HL := Lib.hid hl
   have hle : A.length ≤ B.length := by omega
   have hle' : B.length ≤ A.length := by omega
   clear hl
   go_enter Tryz.func12, Tryz.ntmps12
   go_wp2
   go_loopw [5] (fun i wr => ∃ k : Nat, k ≤ A.length ∧ i = .int .i64 k ∧ A.take k = B.take k ∧ ∃ n, wr = w.drewN n) (fun i _ => A.length - (intOf i).toNat)
   case atStart => exact ⟨0, Nat.zero_le _, rfl, by simp, 0, rfl⟩
   case round =>
    obtain ⟨k, hk, rfl, hn, n, rfl⟩ := hrel
    have HN := Lib.hid hn
    by_cases hlt : k < A.length
    · have hlt' : k < B.length := by omega
      have HS := Lib.hid (take_eq_snoc A B k hlt hlt' hn)
      have hp := hidx k hlt
      have hcell := (hc k hlt).2
      have hp' := hidx' k hlt'
      have hcell' := (hc' k hlt').2
      clear hidx hc hidx' hc' hn
      go_wp2
      go_quiet (fail)
      go_wp2
      · go_ret
        have h : (A[k] != B[k]) = true := by assumption
        refine ⟨ret_bool ?_, n + nq, by simp⟩
        symm
        rw [beq_eq_false_iff_ne]
        rintro rfl
        simp at h
      · go_roundw
        case rel =>
         have h : (A[k] != B[k]) = false := by assumption
         exact ⟨k + 1, by omega, by go_num, HS.out.2 (by simpa using h), n + nq, rfl⟩
        case measure => simp [intOf]; omega
    · have HE : Hid (A = B) := by
       rw [List.take_of_length_le (by omega), List.take_of_length_le (by omega)] at hn
       exact hn
      clear hidx hc hidx' hc' hn
      go_wp2
      go_ret
      exact ⟨ret_bool (by simp [HE.out]), n, rfl⟩
 · have hne : ((A.length : Int) != (B.length : Int)) = true := by rw [bne_iff_ne]; omega
   have HL := Lib.hid hl
   clear hl
   go_enter Tryz.func12, Tryz.ntmps12
   go_wp2
   go_ret
   refine ⟨ret_bool ?_, 0, rfl⟩
   symm
   rw [beq_eq_false_iff_ne]
   rintro rfl
   exact HL.out rfl

end Go.Proofs.YtpibmjkbebkilaaGreat

namespace Go.Proofs.YtpibmjkbebkilaaGreat
open Go.RowKit Go.Lib Go.Maps Go.Sort
set_option maxRecDepth 20000
set_option maxRecDepth 20000

def oneG : Str := [224, 1, 2, 3]
theorem bOneG : (⟨#[224, 1, 2, 3]⟩ : ByteArray) = bstr oneG := bstr_of _
theorem bSrcA : (⟨#[97]⟩ : ByteArray) = bstr [97] := bstr_of _
theorem asc_empty : Asc (fun _ => none) [] := ⟨⟨List.Pairwise.nil, fun a => by simp⟩, by simp⟩
theorem papp_live (now : Int) (h1 : 1 ≤ now) (h2 : now ≤ 100) : papp noS 2 (sasc []) 0 now 10 2 = (0, some (true, now + 10, []), (false, [])) := by
 have hs : sasc [] = ([] : List Str) := by decide +kernel
 have hv : verdict (pcheck noS.1 noS.2.1 noS.2.2) 2 0 now 10 2 = 0 := by
  have hm : may now 10 2 = true := by unfold may; exact decide_eq_true (by omega)
  unfold verdict
  rw [hm]
  rfl
 have hF : inF 2 noS.1 noS.2.1 (rd noS.2.2) [] (now + 10) = fun _ => none := by
  unfold inF
  rw [if_neg (by decide), if_pos (by decide), excF_nil]
 have hQ : inQ 2 noS.1 noS.2.1 (rd noS.2.2) [] (now + 10) = fun _ => false := by
  funext a
  unfold inQ
  rw [if_neg (by decide), if_pos (by decide)]
  rfl
 have hA : ascOf (fun _ : Str => (none : Option Int)) = [] := ascOf_eq asc_empty
 have hR : riseOf (fun _ : Str => false) = [] := riseOf_eq ⟨List.Pairwise.nil, fun a => by simp⟩
 unfold papp
 rw [hv, hs, hF, hQ, hA, hR, soonF_nil, hA]
 simp [inEx, inG, inAt, noS]
theorem prep_live1 : prep 1 10 2 0 (fun _ => none) (fun _ => none) (1, oneG, 3) 2 [] 5 = ((false, []), 0, updS (fun _ => none) (1, oneG, 3) (true, 15, []), fun _ => none) := by
 unfold prep
 rw [show (pexp (oldS (fun _ => none) (1, oneG, 3)) 5).1 = noS from rfl, show ([] : List Str).length = 0 from rfl, papp_live 5 (by decide) (by decide)]
 simp
theorem prep_live2 : prep 1 10 2 1 (updS (fun _ => none) (1, oneG, 3) (true, 15, [])) (fun _ => none) (1, oneG, 4) 2 [] 6 = ((false, []), 5, updS (fun _ => none) (1, oneG, 3) (true, 15, []), updO (fun _ => none) 1 6) := by
 unfold prep
 have h0 : updS (fun _ => none) (1, oneG, 3) (true, 15, []) (1, oneG, 4) = none := by unfold updS; rw [if_neg (by decide)]
 have h1 : oldS (updS (fun _ => none) (1, oneG, 3) (true, 15, [])) (1, oneG, 4) = noS := by unfold oldS; rw [h0]; rfl
 rw [h1, show (pexp noS 6).1 = noS from rfl, show ([] : List Str).length = 0 from rfl, papp_live 6 (by decide) (by decide), h0]
 simp
theorem keys_live0 : KeysS (fun _ => none) [] := ⟨List.Pairwise.nil, fun x => by simp⟩
theorem keys_live1 : KeysS (updS (fun _ => none) (1, oneG, 3) (true, 15, [])) [(1, oneG, 3)] := ⟨by simp, fun x => by
 unfold updS
 by_cases e : x = (1, oneG, 3)
 · simp [e]
 · simp [e]⟩
theorem ports_live : portsS (updS (fun _ => none) (1, oneG, 3) (true, 15, [])) [97] 6 (([(1, oneG, 3)] : List TK).filter (inOf 1 oneG)) = [3] := by decide +kernel
theorem known_live1 : ((([(1, oneG, 3)] : List TK).filter (inOf 1 oneG)).any fun x => liveS (oldS (updS (fun _ => none) (1, oneG, 3) (true, 15, [])) x) 14) = true := by decide +kernel
theorem known_live2 : ((([(1, oneG, 3)] : List TK).filter (inOf 1 oneG)).any fun x => liveS (oldS (updS (fun _ => none) (1, oneG, 3) (true, 15, [])) x) 15) = false := by decide +kernel

set_option maxHeartbeats 8000000 in
theorem tlive_any (w : World) : Calls Tryz.prog 6 #[] w fun e w' => e = .returned (.bool true) ∧ Below w.heap.size w w' := by
 have HN := Lib.hid (tnew_yes 1 10 2 w (by unfold fitsT; omega))
 go_enter Tryz.func6, Tryz.ntmps6
 go_wp2_with fail
 refine HN.out.mono ?_
 rintro e w1 ⟨p, b, o, rfl, hT, hb, ho, hbw⟩
 have HT := Lib.hid hT; have HB := Lib.hid hbw; have HBO := Lib.hid (And.intro hb ho)
 have HZ := Lib.hid (tnew_no 0 10 2 w1 (by unfold fitsT; omega))
 clear hT hb ho hbw HN
 go_wp2_with fail
 refine HZ.out.mono ?_
 rintro e w2 ⟨rfl, hb2⟩
 have HT2 := Lib.hid (HT.out.mono hb2); have HB2 := Lib.hid (HB.out.trans (hb2.mono HB.out.size))
 have HR := Lib.hid (report_go p b o 0 0 1 10 2 1 3 2 5 oneG _ [] _ _ [] w2 HT2.out keys_live0 (by unfold mayT; omega) (by decide +kernel) (Strs.nil _) (by decide) (by decide))
 rw [show ([] : List TK).length = 0 from rfl, prep_live1, ← bOneG] at HR
 clear hb2 HZ HT HB
 go_wp2_with fail
 refine HR.out.mono ?_
 rintro e w3 ⟨⟨u, rfl, hu, hT3, hM3⟩, _⟩
 obtain ⟨uo, uc, hue⟩ := hu.shape
 replace hue : u = .slice uo 0 uc := hue
 subst hue
 dsimp only at hT3
 obtain ⟨W4, hW4⟩ : ∃ W4, W4 = w3.alloc (.cells #[.bool false, .slice uo 0 uc] 51) := ⟨_, rfl⟩
 have hb4 : Below w3.heap.size w3 W4 := by rw [hW4]; exact (Below.refl _ _).alloc (Nat.le_refl _) _
 have HT4 := Lib.hid (hT3.mono hb4)
 have HM4 := Lib.hid (((MTurn.of_below (b := b) (o := o) HB2.out).trans hM3).trans (MTurn.of_below hb4))
 have HW4 := Lib.hid hW4
 have HR2 := Lib.hid (report_go p b o 1 1 1 10 2 1 4 2 6 oneG _ [] _ _ [(1, oneG, 3)] W4 HT4.out keys_live1 (by unfold mayT; omega) (by decide +kernel) (Strs.nil _) (by decide) (by decide))
 rw [show ([(1, oneG, 3)] : List TK).length = 1 from rfl, prep_live2, ← bOneG] at HR2
 rw [hW4] at HR2
 clear hu hT3 hM3 HR HT2 HB2 hb4 hW4
 go_wp2_with fail
 refine HR2.out.mono ?_
 rintro e w5 ⟨⟨u2, rfl, hu2, hT5, hM5⟩, _⟩
 obtain ⟨vo, vc, hve⟩ := hu2.shape
 replace hve : u2 = .slice vo 0 vc := hve
 subst hve
 dsimp only at hT5
 rw [← HW4.out] at hM5
 obtain ⟨W6, hW6⟩ : ∃ W6, W6 = w5.alloc (.cells #[.bool false, .slice vo 0 vc] 51) := ⟨_, rfl⟩
 have hb6 : Below w5.heap.size w5 W6 := by rw [hW6]; exact (Below.refl _ _).alloc (Nat.le_refl _) _
 have HT6 := Lib.hid (hT5.mono hb6)
 have HM6 := Lib.hid ((HM4.out.trans hM5).trans (MTurn.of_below hb6))
 have HW6 := Lib.hid hW6
 have HRD := Lib.hid (show ∀ W, Below W6.heap.size W6 W → TRead W (some ⟨p, 0, none⟩) 2 (updS (fun _ => none) (1, oneG, 3) (true, 15, [])) [(1, oneG, 3)] from fun W hW => ⟨keys_live1, .inr ⟨p, b, o, _, _, _, _, _, rfl, HT6.out.mono hW⟩⟩)
 have HP := Lib.hid (ports_any (some ⟨p, 0, none⟩) 2 1 6 oneG [97] _ _ W6 (HRD.out W6 (Below.refl _ _)) (by decide) (by decide))
 rw [ports_live, ← bOneG, ← bSrcA] at HP
 rw [hW6] at HP
 clear hu2 hT5 hM5 HR2 HT4 HM4 hb6 hW6 HW4
 go_wp2_with fail
 refine HP.out.mono ?_
 rintro e w7 ⟨v, rfl, hv, hb7⟩
 rw [← HW6.out] at hb7
 have hI : Ints w7 v [3] := Ints.own hv (by decide) (by decide)
 obtain ⟨W8, hW8⟩ : ∃ W8, W8 = w7.alloc (.cells #[.int .i64 3] 3) := ⟨_, rfl⟩
 have hb8 : Below w7.heap.size w7 W8 := by rw [hW8]; exact (Below.refl _ _).alloc (Nat.le_refl _) _
 have hb68 : Below W6.heap.size W6 W8 := hb7.trans (hb8.mono hb7.size)
 have hI2 : Ints W8 (.slice (some ⟨w7.heap.size, 0, none⟩) 1 1) [3] := by
  refine ⟨_, 1, w7.heap.size, 0, rfl, .inr rfl, by decide, by decide, fun k hk => ?_⟩
  obtain rfl : k = 0 := by simp at hk; omega
  rw [hW8]
  exact ⟨by simp, ((show CBox (w7.alloc (.cells #[.int .i64 3] 3)) w7.heap.size 3 #[.int .i64 3] from CBox.new _ rfl).at_ 0 _ rfl).1⟩
 have HSA := Lib.hid (same_any v _ [3] [3] W8 (hI.mono hb8) hI2)
 rw [hW8] at HSA
 have H68 := Lib.hid hb68
 have HW8 := Lib.hid hW8
 clear hv hI hb7 hb8 hb68 hI2 hW8 HP HW6
 go_wp2_with fail
 refine HSA.out.mono ?_
 rintro e w9 ⟨rfl, nd, hw9⟩
 rw [← HW8.out] at hw9
 have hb9 : Below W6.heap.size W6 w9 := by rw [hw9]; exact below_draws _ H68.out nd
 have hsame : (([3] : List Int) == [3]) = true := rfl
 rw [hsame]
 have HB9 := Lib.hid hb9
 have HO1 := Lib.hid (over_any p b o _ _ 1 10 2 1 15 _ _ w9 (HT6.out.mono hb9) (by decide) (by decide) (fun v s h => by unfold updO at h; split at h <;> simp at h; omega))
 have HO2 := Lib.hid (over_any p b o _ _ 1 10 2 1 16 _ _ w9 (HT6.out.mono hb9) (by decide) (by decide) (fun v s h => by unfold updO at h; split at h <;> simp at h; omega))
 have ho1 : isOver (updO (fun _ => none) 1 6) 10 1 15 = true := by decide
 have ho2 : isOver (updO (fun _ => none) 1 6) 10 1 16 = false := by decide
 rw [ho1] at HO1
 rw [ho2] at HO2
 have HK1 := Lib.hid (known_any (some ⟨p, 0, none⟩) 2 1 14 oneG _ _ w9 (HRD.out w9 hb9) (by decide))
 rw [known_live1, ← bOneG] at HK1
 clear hw9 hb9 hsame ho1 ho2 HSA HW8 H68
 go_wp2_with (first
  | ((with_reducible refine HO1.out.mono ?_); rintro e w' ⟨rfl, hw'⟩; subst w'; clear HO1)
  | ((with_reducible refine HO2.out.mono ?_); rintro e w' ⟨rfl, hw'⟩; subst w'; clear HO2))
 refine HK1.out.mono ?_
 rintro e wa ⟨rfl, hba⟩
 have HBa := Lib.hid (HB9.out.trans (hba.mono HB9.out.size))
 have HK2 := Lib.hid (known_any (some ⟨p, 0, none⟩) 2 1 15 oneG _ _ wa (HRD.out wa HBa.out) (by decide))
 rw [known_live2, ← bOneG] at HK2
 clear hba HK1
 go_wp2_with fail
 refine HK2.out.mono ?_
 rintro e wb ⟨rfl, hbb⟩
 have HBb := Lib.hid (HBa.out.trans (hbb.mono HBa.out.size))
 clear hbb HK2
 go_wp2_with fail
 go_ret
 exact ⟨rfl, (HM6.out.trans (MTurn.of_below HBb.out)).below (Nat.le_refl _) HBO.out.1 HBO.out.2⟩
end Go.Proofs.YtpibmjkbebkilaaGreat

namespace Go.Proofs.YtpibmjkbebkilaaGreat
open Go.ChangeShapes Go.WideShapes Go.ChangeAt Go.RowKit Go.Joins Go.Deep
set_option maxRecDepth 20000

set_option maxRecDepth 100000

theorem weights_all {H : Type} {P : Program} {e : TypeId} {d : DataW H} : ∀ {l : List (DataW H)}, d ∈ l → ∀ n ∈ DataW.weights P e d, n ∈ DataW.weightsAll P e l
 | x :: l, hd, n, hn => by
   rw [DataW.weightsAll, List.mem_append]
   rcases List.mem_cons.1 hd with rfl | hd
   · exact .inl hn
   · exact .inr (weights_all hd n hn)
theorem weights_elem {H : Type} {P : Program} {t e : TypeId} {elems rest : List (DataW H)} (ht : P.underlying t = some (.slice e)) (h : (DataW.weights P t (.slice elems rest)).all (· ≤ reachBytes) = true) :
 elems.length * P.bytesOf e ≤ reachBytes ∧ ∀ d ∈ elems, (DataW.weights P e d).all (· ≤ reachBytes) = true := by
 simp only [DataW.weights, ht, List.all_cons, Bool.and_eq_true, decide_eq_true_eq, List.all_append] at h
 refine ⟨Nat.le_trans (Nat.mul_le_mul_right _ (Nat.le_add_right _ _)) h.1, fun d hd => List.all_eq_true.2 fun n hn => List.all_eq_true.1 h.2.1 n (weights_all hd n hn)⟩

section
variable {H : Type} {enc : TypeId × Value → H} {w : World} {base : Nat} {spare : Nat → Bool} {held : Bool} {fuel : Nat} {cs : List Value} {x : DataW H × List MemPlace}

theorem open_elems {α : Type} [Inhabited α] {P : Program} {t e : TypeId} {sz : Nat} (ht : P.underlying t = some (.slice e)) (hs : P.cellsOf e = sz) (h0 : 0 < sz) (Q : List Value → α → Prop)
 (hQ : ∀ n cs' y, DataW.trod enc P w base spare held n e cs' = some y → (DataW.weights P e y.1).all (· ≤ reachBytes) = true → ∃ q, Q cs' q)
 (h : DataW.trod enc P w base spare held fuel t cs = some x) (hsz : (DataW.weights P t x.1).all (· ≤ reachBytes) = true) :
 ∃ ao cap b off, ∃ L : List α, cs = [.slice ao L.length cap] ∧ (L = [] ∨ ao = some ⟨b, off, none⟩) ∧ L.length * P.bytesOf e ≤ reachBytes ∧ L.length ≤ cap ∧
   ∀ k, (hk : k < L.length) → ∃ cs', cs'.length = sz ∧ (∀ i, i < sz → w.cell? ⟨b, off + (k * sz + i), none⟩ = cs'[i]?) ∧ b < w.heap.size ∧ Q cs' L[k] := by
 rcases open_slice ht h with ⟨rfl, rfl⟩ | ⟨a, len, cap, m, n, D, Pl, rfl, hb, hl, hm, hmm, rfl, hx⟩
 · exact ⟨none, 0, 0, 0, [], rfl, .inl rfl, by simp, by simp, fun k hk => by simp at hk⟩
 · have hlm : len ≤ m := by rw [hmm]; split <;> omega
   obtain ⟨hw1, hw2⟩ := weights_elem ht hsz
   rw [List.length_map, List.length_range] at hw1
   have each : ∀ k, k < len → ∃ p : α × List Value, p.2.length = sz ∧ (∀ i, i < sz → w.cell? (a.add (k * sz + i)) = p.2[i]?) ∧ Q p.2 p.1 := by
    intro k hk
    obtain ⟨cs', h1, h2⟩ := hx k (by omega)
    rw [hs] at h1
    obtain ⟨_, hlen, hcell⟩ := World.cells?_some h1
    obtain ⟨q, hq⟩ := hQ _ _ _ h2 (hw2 _ (List.mem_map.2 ⟨k, List.mem_range.2 hk, rfl⟩))
    exact ⟨(q, cs'), hlen, fun i hi => by rw [← hcell i hi, add_add], hq⟩
   obtain ⟨q, hq⟩ := choose_lt each
   have hll : ((List.range len).map fun k => (q k).1).length = len := by simp
   obtain ⟨b, off, spot⟩ := a
   by_cases hl0 : len = 0
   · subst hl0
     exact ⟨some ⟨b, off, spot⟩, cap, b, off, [], rfl, .inl rfl, by simp, by simp, fun k hk => by simp at hk⟩
   · have hsome : ∀ k, k < len → ∀ i, i < sz → ∃ u, (q k).2[i]? = some u := fun k hk i hi => ⟨_, List.getElem?_eq_getElem (by rw [(hq k hk).1]; exact hi)⟩
     have hsp : spot = none := by
      cases spot with
      | none => rfl
      | some s =>
        exfalso
        obtain ⟨u, hu⟩ := hsome 0 (by omega) 0 h0
        have := (hq 0 (by omega)).2.1 0 h0
        rw [hu] at this
        simp [Addr.add, World.cell?] at this
        try (split at this <;> simp at this)
        try omega
     subst hsp
     refine ⟨some ⟨b, off, none⟩, cap, b, off, (List.range len).map fun k => (q k).1, by rw [hll], .inr rfl, by rw [hll]; exact hw1, by rw [hll]; exact hl, fun k hk => ?_⟩
     rw [hll] at hk
     obtain ⟨h1, h2, h3⟩ := hq k hk
     refine ⟨(q k).2, h1, fun i hi => by rw [← h2 i hi, add_lit], ?_, by simpa using h3⟩
     obtain ⟨u, hu⟩ := hsome k hk 0 h0
     have h4 := h2 0 h0
     rw [hu, add_lit] at h4
     exact World.block_lt_of_cell? w ⟨b, off + (k * sz + 0), none⟩ h4

end

theorem trod_cell {H : Type} {enc : TypeId × Value → H} {w : World} {base : Nat} {spare : Nat → Bool} {held : Bool} {T : TypeId} {e : TypeId} {r : Reach} {b0 : Nat} {v : Value} {d : DataW H} {p : List MemPlace} (ht : Tryz.prog.underlying T = some (.slice e))
 (hv : Value.okWide Tryz.prog w r b0 T v) (h : DataW.Trod enc Tryz.prog w base spare held T v d p) : ∃ fuel, DataW.trod enc Tryz.prog w base spare held fuel T [v] = some (d, p) := by
 obtain ⟨a, n, c, rfl⟩ := okWide_slice ht hv
 obtain ⟨fuel, hf⟩ := h
 exact ⟨fuel, hf⟩

structure TOp where
 d : Int
 vl : Int
 pt : Int
 kind : Int
 g : Str
 S : List Str
 src : Str
 now : Int
instance : Inhabited TOp := ⟨⟨0, 0, 0, 0, [], [], [], 0⟩⟩
def TOp.cells (o : TOp) (v : Value) : List Value := [.int .i64 o.d, .int .i64 o.vl, .int .i64 o.pt, .int .i64 o.kind, .string (bstr o.g), v, .string (bstr o.src), .int .i64 o.now]
structure TOp.Ok (o : TOp) (w : World) (v : Value) : Prop where
 strs : Strs w v o.S
 gl : o.g.length ≤ maxLen
 sl : o.src.length ≤ maxLen
 wd : (Lit.int .i64 o.d).wf = true
 wvl : (Lit.int .i64 o.vl).wf = true
 wpt : (Lit.int .i64 o.pt).wf = true
 wkind : (Lit.int .i64 o.kind).wf = true
 wnow : (Lit.int .i64 o.now).wf = true

section
variable {H : Type} {enc : TypeId × Value → H} {w : World} {base : Nat} {spare : Nat → Bool} {held : Bool} {fuel : Nat} {cs : List Value} {x : DataW H × List MemPlace}

theorem open_recT (h : DataW.trod enc Tryz.prog w base spare held fuel 39 cs = some x) (hsz : (DataW.weights Tryz.prog 39 x.1).all (· ≤ reachBytes) = true) :
 ∃ kind g v L, cs = [.int .i64 kind, .string (bstr g), v] ∧ Strs w v L ∧ g.length ≤ maxLen ∧ (Lit.int .i64 kind).wf = true := by
 obtain ⟨xs, n, _, rfl, hcl, hlen, hf⟩ := DataW.trod_struct Tryz.underlying39 h
 match xs, hlen with
 | [y0, y1, y2], _ =>
   have hc3 : cs.length = 3 := hcl.trans (by kernel_rfl)
   match cs, hc3 with
   | [c0, c1, c2], _ =>
     have g0 := hf 0 _ rfl
     have g1 := hf 1 _ rfl
     have g2 := hf 2 _ rfl
     have k2 : Tryz.prog.cellsOf 37 = 1 := by kernel_rfl
     simp [cellsIt, cellsAd, k2] at g0 g1 g2
     obtain ⟨k, e0, _, wk⟩ := DataW.trod_int Tryz.underlying3 g0
     obtain ⟨s, e1, _, hs⟩ := DataW.trod_string Tryz.underlying36 g1
     obtain ⟨v, L, e2, hT⟩ := open_Strs g2 (weights_part Tryz.underlying39 hsz 2 _ _ rfl rfl)
     obtain ⟨g, rfl⟩ : ∃ g, s = bstr g := ⟨_, bstr_of _⟩
     rw [bstr_size] at hs
     simp only [List.cons.injEq, and_true] at e0 e1 e2
     subst e0 e1 e2
     exact ⟨k, g, _, L, rfl, hT, hs, wk⟩

theorem open_timesT (h : DataW.trod enc Tryz.prog w base spare held fuel 23 cs = some x) :
 ∃ mem last, cs = [.int .i64 mem, .int .i64 last] ∧ (Lit.int .i64 mem).wf = true ∧ (Lit.int .i64 last).wf = true := by
 obtain ⟨xs, n, _, rfl, hcl, hlen, hf⟩ := DataW.trod_struct Tryz.underlying23 h
 match xs, hlen with
 | [y0, y1], _ =>
   have hc3 : cs.length = 2 := hcl.trans (by kernel_rfl)
   match cs, hc3 with
   | [c0, c1], _ =>
     have g0 := hf 0 _ rfl
     have g1 := hf 1 _ rfl
     simp [cellsIt] at g0 g1
     obtain ⟨k, e0, _, w0⟩ := DataW.trod_int Tryz.underlying3 g0
     obtain ⟨l, e1, _, w1⟩ := DataW.trod_int Tryz.underlying3 g1
     simp only [List.cons.injEq, and_true] at e0 e1
     subst e0 e1
     exact ⟨k, l, rfl, w0, w1⟩

theorem open_top (h : DataW.trod enc Tryz.prog w base spare held fuel 41 cs = some x) (hsz : (DataW.weights Tryz.prog 41 x.1).all (· ≤ reachBytes) = true) :
 ∃ (o : TOp) (v : Value), cs = o.cells v ∧ o.Ok w v := by
 obtain ⟨xs, n, _, rfl, hcl, hlen, hf⟩ := DataW.trod_struct Tryz.underlying41 h
 match xs, hlen with
 | [y0, y1, y2, y3, y4, y5], _ =>
   have hc8 : cs.length = 8 := hcl.trans (by kernel_rfl)
   match cs, hc8 with
   | [c0, c1, c2, c3, c4, c5, c6, c7], _ =>
     have g0 := hf 0 _ rfl
     have g1 := hf 1 _ rfl
     have g2 := hf 2 _ rfl
     have g3 := hf 3 _ rfl
     have g4 := hf 4 _ rfl
     have g5 := hf 5 _ rfl
     have k3 : Tryz.prog.cellsOf 39 = 3 := by kernel_rfl
     simp [cellsIt, cellsAd, k3] at g0 g1 g2 g3 g4 g5
     obtain ⟨d, e0, _, w0⟩ := DataW.trod_int Tryz.underlying3 g0
     obtain ⟨vl, e1, _, w1⟩ := DataW.trod_int Tryz.underlying3 g1
     obtain ⟨pt, e2, _, w2⟩ := DataW.trod_int Tryz.underlying3 g2
     obtain ⟨kind, g, v, L, e3, hT, hg, wk⟩ := open_recT g3 (weights_part Tryz.underlying41 hsz 3 _ _ rfl rfl)
     obtain ⟨s, e4, _, hs⟩ := DataW.trod_string Tryz.underlying36 g4
     obtain ⟨now, e5, _, w5⟩ := DataW.trod_int Tryz.underlying3 g5
     obtain ⟨sr, rfl⟩ : ∃ g, s = bstr g := ⟨_, bstr_of _⟩
     rw [bstr_size] at hs
     simp only [List.cons.injEq, and_true] at e0 e1 e2 e3 e4 e5
     obtain ⟨rfl, rfl, rfl⟩ := e3
     subst e0 e1 e2 e4 e5
     exact ⟨⟨d, vl, pt, kind, g, L, sr, now⟩, _, rfl, hT, hg, hs, w0, w1, w2, wk, w5⟩
end

theorem bytesOpT : Tryz.prog.bytesOf 41 = 96 := by kernel_rfl
theorem cellsOpT : Tryz.prog.cellsOf 41 = 8 := by kernel_rfl

def OpsT (w : World) (v : Value) (R : List TOp) : Prop :=
 ∃ ao cap b off, ∃ src : Nat → Value, v = .slice ao R.length cap ∧ (R = [] ∨ ao = some ⟨b, off, none⟩) ∧ R.length ≤ 2932031007402 ∧
   (∀ k, k < R.length → b < w.heap.size ∧ (∀ i, i < 8 → w.cell? ⟨b, off + (k * 8 + i), none⟩ = ((R.getD k default).cells (src k))[i]?) ∧ (R.getD k default).Ok w (src k))
theorem OpsT.shape {w : World} {v : Value} {R : List TOp} (h : OpsT w v R) : ∃ ao cap, v = .slice ao R.length cap := by
 obtain ⟨ao, cap, _, _, _, h, _⟩ := h
 exact ⟨ao, cap, h⟩
theorem OpsT.facts {w : World} {v : Value} {R : List TOp} (h : OpsT w v R) :
 ∃ b off, ∃ src : Nat → Value, R.length ≤ 2932031007402 ∧ (∀ ty w', (Builtin.len_ #[24] ty #[v]).run Tryz.prog w' = .ok (.int .i64 R.length) w') ∧
   (∀ k, k < R.length → ∀ w', (Instr.indexAt 24 v (.int .i64 k)).run Tryz.prog w' = .ok (.pointer (some ⟨b, off + k * 8, none⟩)) w') ∧
   (∀ k, k < R.length → b < w.heap.size ∧ (∀ i, i < 8 → w.cell? ⟨b, off + (k * 8 + i), none⟩ = ((R.getD k default).cells (src k))[i]?) ∧ (R.getD k default).Ok w (src k)) := by
 obtain ⟨ao, cap, b, off, src, rfl, h0, h1, h2⟩ := h
 refine ⟨b, off, src, h1, fun ty w' => run_len_any Tryz.underlying24 ao R.length cap ty w', fun k hk w' => ?_, h2⟩
 rcases h0 with h0 | rfl
 · subst h0; exact absurd hk (by simp)
 · exact run_index_any (P := Tryz.prog) (s := 8) Tryz.underlying24 (fun w => by kernel_rfl) b off R.length cap k hk w'

theorem TOp.row {q : TOp} {w wr : World} {bs off k B : Nat} {v : Value} (hbr : Below B w wr) (hlb : bs < B) (h : ∀ i, i < 8 → w.cell? ⟨bs, off + (k * 8 + i), none⟩ = (q.cells v)[i]?) :
 wr.cell? ⟨bs, off + k * 8, none⟩ = some (.int .i64 q.d) ∧ wr.cell? ⟨bs, off + k * 8 + 1, none⟩ = some (.int .i64 q.vl) ∧ wr.cell? ⟨bs, off + k * 8 + 2, none⟩ = some (.int .i64 q.pt) ∧ wr.cell? ⟨bs, off + k * 8 + 3, none⟩ = some (.int .i64 q.kind) ∧
 wr.cell? ⟨bs, off + k * 8 + 4, none⟩ = some (.string (bstr q.g)) ∧ wr.cell? ⟨bs, off + k * 8 + 5, none⟩ = some v ∧ wr.cell? ⟨bs, off + k * 8 + 6, none⟩ = some (.string (bstr q.src)) ∧ wr.cell? ⟨bs, off + k * 8 + 7, none⟩ = some (.int .i64 q.now) := by
 have e : ∀ i, i < 8 → wr.cell? ⟨bs, off + k * 8 + i, none⟩ = (q.cells v)[i]? := fun i hi => by rw [Nat.add_assoc]; exact (hbr.cell (p := ⟨bs, off + (k * 8 + i), none⟩) hlb).trans (h i hi)
 exact ⟨e 0 (by decide), e 1 (by decide), e 2 (by decide), e 3 (by decide), e 4 (by decide), e 5 (by decide), e 6 (by decide), e 7 (by decide)⟩

section
variable {H : Type} {enc : TypeId × Value → H} {w : World} {base : Nat} {spare : Nat → Bool} {held : Bool} {fuel : Nat} {cs : List Value} {x : DataW H × List MemPlace}
theorem open_topsC (h : DataW.trod enc Tryz.prog w base spare held fuel 24 cs = some x) (hsz : (DataW.weights Tryz.prog 24 x.1).all (· ≤ reachBytes) = true) : ∃ v R, cs = [v] ∧ OpsT w v R := by
 obtain ⟨ao, cap, b, off, L, rfl, h0, h1, _, h2⟩ := open_elems (α := TOp × Value) (sz := 8) Tryz.underlying24 cellsOpT (by decide)
  (fun cs' q => cs' = q.1.cells q.2 ∧ q.1.Ok w q.2)
  (fun n cs' y hy hw => by
    obtain ⟨o, v, he, ho⟩ := open_top hy hw
    exact ⟨(o, v), he, ho⟩) h hsz
 have hl : (L.map Prod.fst).length = L.length := by simp
 refine ⟨_, L.map Prod.fst, rfl, ao, cap, b, off, fun k => (L.getD k default).2, by rw [hl], ?_, ?_, fun k hk => ?_⟩
 · rcases h0 with rfl | h0
   · exact .inl rfl
   · exact .inr h0
 · rw [bytesOpT] at h1
   rw [hl]
   unfold reachBytes at h1
   omega
 · rw [hl] at hk
   obtain ⟨cs', e1, e2, e3, rfl, hT⟩ := h2 k hk
   have g : (L.map Prod.fst).getD k default = L[k].1 := by simp [List.getD_eq_getElem?_getD, hk]
   have g' : L.getD k default = L[k] := by simp [List.getD_eq_getElem?_getD, hk]
   dsimp only
   rw [g, g']
   exact ⟨e3, e2, hT⟩
end
theorem open_Tops {H : Type} {enc : TypeId × Value → H} {w : World} {base : Nat} {spare : Nat → Bool} {held : Bool} {r : Reach} {b0 : Nat} {v : Value} {d : DataW H} {p : List MemPlace}
 (hv : Value.okWide Tryz.prog w r b0 24 v) (h : DataW.Trod enc Tryz.prog w base spare held 24 v d p) (hsz : (DataW.weights Tryz.prog 24 d).all (· ≤ reachBytes) = true) :
 ∃ R, OpsT w v R := by
 obtain ⟨fuel, hf⟩ := trod_cell Tryz.underlying24 hv h
 obtain ⟨u, R, e, hR⟩ := open_topsC hf hsz
 simp only [List.cons.injEq, and_true] at e
 subst e
 exact ⟨R, hR⟩
theorem open_times {H : Type} {enc : TypeId × Value → H} {w : World} {base : Nat} {spare : Nat → Bool} {held : Bool} {r : Reach} {b0 : Nat} {v : Value} {d : DataW H} {p : List MemPlace}
 (hv : Value.okWide Tryz.prog w r b0 23 v) (h : DataW.Trod enc Tryz.prog w base spare held 23 v d p) :
 ∃ mem last, v = .agg #[.int .i64 mem, .int .i64 last] ∧ (Lit.int .i64 mem).wf = true ∧ (Lit.int .i64 last).wf = true := by
 obtain ⟨cs, rfl, _⟩ := okWide_struct Tryz.underlying23 hv
 obtain ⟨fuel, hf⟩ := h
 obtain ⟨m, l, e, h1, h2⟩ := open_timesT hf
 refine ⟨m, l, ?_, h1, h2⟩
 have : cs.toList = [.int .i64 m, .int .i64 l] := e
 congr 1
 exact Array.toList_inj.1 this
end Go.Proofs.YtpibmjkbebkilaaGreat
