/- Texts joined into one file: GRadm, GFew, GOpen. -/
import Derived.Test.YtpibmjkbebkilaaGreatW16
import Derived.Test.YtpibmjkbebkilaaGreatW12
import Derived.Test.YtpibmjkbebkilaaGreatW15
import Derived.Test.YtpibmjkbebkilaaGreatW05
import Derived.ProofKit
import Derived.OpenShut
import Derived.SizedLaws
import Derived.Lib.SmallJoins
import Derived.Deep.SlicePairs

namespace Go.Proofs.YtpibmjkbebkilaaGreat
open Go.RowKit Go.Lib Go.Maps Go.Sort
set_option maxRecDepth 20000

theorem nm_has {F : Str → Option Int} {L : List Tmd} (h : Asc F L) (blk : Bool) (a : Str) : (nmL L blk).contains a = (match F a with | none => false | some z => (z == 0) == blk) := by
 rw [Bool.eq_iff_iff, List.contains_iff_mem]
 unfold nmL
 constructor
 · intro hm
   obtain ⟨t, ht, rfl⟩ := List.mem_map.1 hm
   obtain ⟨ht, hb⟩ := List.mem_filter.1 ht
   rw [h.2 t ht]
   exact hb
 · intro hm
   cases hF : F a
   · rw [hF] at hm; cases hm
   · rename_i z
     rw [hF] at hm
     obtain ⟨t, ht, rfl⟩ := List.mem_map.1 ((h.1.2 a).2 (by rw [hF]; simp))
     have := h.2 t ht
     rw [hF] at this
     injection this with e
     subst e
     exact List.mem_map.2 ⟨t, List.mem_filter.2 ⟨ht, hm⟩, rfl⟩
theorem nm_blk {F : Str → Option Int} {L : List Tmd} (h : Asc F L) (a : Str) : (nmL L true).contains a = (F a == some 0) := by
 rw [nm_has h]
 cases F a <;> simp
theorem nm_run {F : Str → Option Int} {L : List Tmd} (h : Asc F L) (a : Str) : (nmL L false).contains a = ((F a).getD 0 != 0) := by
 rw [nm_has h]
 cases F a
 · rfl
 · rename_i z
   show ((z == 0) == false) = !(z == 0)
   cases (z == 0) <;> rfl

set_option maxHeartbeats 1000000 in
theorem radmits_any (ex : Bool) (at' : Int) (v : Value) (L : List Tmd) (now : Int) (a : Str) (w : World) (h : Tms w v L) :
 Calls Tryz.prog 43 #[.agg #[.bool ex, .int .i64 at', v], .string (bstr a), .int .i64 now] w fun e w' => e = .returned (.bool (padm ex at' L now a)) ∧ Below w.heap.size w w' := by
 obtain ⟨ao, cap, rfl⟩ := h.shape
 have hb0 : Below w.heap.size w (w.alloc (.cells #[.bool ex, .int .i64 at', .slice ao L.length cap] 71)) := (Below.refl _ _).alloc (Nat.le_refl _) _
 have HE := Lib.hid (rexpire_any ex at' _ L now _ (h.mono hb0))
 have HB := Lib.hid hb0
 obtain ⟨q, hq⟩ : ∃ q, padm ex at' L now a = q := ⟨_, rfl⟩
 rw [hq]
 unfold padm at hq
 generalize (ex && decide (now < at')) = e2 at HE hq
 have HQ := Lib.hid hq
 clear h hb0 hq
 go_enter Tryz.func43, Tryz.ntmps43
 go_wp2_with fail
 refine HE.out.mono ?_
 rintro e w1 (⟨hp, rfl, hb1⟩ | ⟨hp, v1, L1, rfl, hT, hA, _, _, hb1⟩)
 · have HQ' := Lib.hid (show false = q by have := HQ.out; rw [hp] at this; simpa using this)
   have HB1 := Lib.hid (HB.out.trans (hb1.mono (by simp)))
   clear HE HQ hp hb1
   go_wp2
   go_ret
   exact ⟨ret_bool HQ'.out, HB1.out.alloc HB1.out.size _⟩
 · obtain ⟨o1, c1, rfl⟩ := hT.shape
   have HQ' := Lib.hid (show (if e2 then !(exF e2 now (rd L) a == some 0) else (exF e2 now (rd L) a).getD 0 != 0) = q by have := HQ.out; rw [hp] at this; simpa using this)
   have HB1 := Lib.hid (HB.out.trans (hb1.mono (by simp)))
   have HA := Lib.hid hA
   have HT := Lib.hid hT
   generalize (if e2 then at' else 0) = a2
   clear HE HQ hp hb1 hA hT
   cases e2
   · cases hi : L1.isEmpty
     · have HR := Lib.hid (rnames_any false a2 _ L1 false (w1.alloc (.cells #[.bool false, .int .i64 a2, .slice o1 L1.length c1] 71)) (HT.out.mono ((Below.refl _ _).alloc (Nat.le_refl _) _)))
       have HD := Lib.hid (show (nmL L1 false).contains a = q from by rw [nm_run HA.out]; simpa using HQ'.out)
       clear hi
       go_wp2_with fail
       refine HR.out.mono ?_
       rintro e w2 ⟨v2, rfl, hs2, hb2, _⟩
       have HX := Lib.hid (shas_any v2 _ a w2 hs2)
       have HB2 := Lib.hid ((HB1.out.alloc HB1.out.size _).trans (hb2.mono (by have := HB1.out.size; simp; omega)))
       clear HR hb2 hs2
       go_wp2_with fail
       refine HX.out.mono ?_
       rintro e w3 ⟨rfl, rfl⟩
       clear HX
       go_wp2
       go_ret
       exact ⟨ret_bool (by rw [← HD.out]; simp), HB2.out⟩
     · have HD := Lib.hid (show false = q from by
        have h0 : L1 = [] := by simpa using hi
        have := HQ'.out
        rw [← asc_rd HA.out, h0] at this
        simpa [rd] using this)
       have hi' : L1 = [] := by simpa using hi
       subst hi'
       go_wp2
       go_ret
       exact ⟨ret_bool HD.out, HB1.out.alloc HB1.out.size _⟩
   · have HR := Lib.hid (rnames_any true a2 _ L1 true (w1.alloc (.cells #[.bool true, .int .i64 a2, .slice o1 L1.length c1] 71)) (HT.out.mono ((Below.refl _ _).alloc (Nat.le_refl _) _)))
     have HD := Lib.hid (show (!(nmL L1 true).contains a) = q from by rw [nm_blk HA.out]; simpa using HQ'.out)
     go_wp2_with fail
     refine HR.out.mono ?_
     rintro e w2 ⟨v2, rfl, hs2, hb2, _⟩
     have HX := Lib.hid (shas_any v2 _ a w2 hs2)
     have HB2 := Lib.hid ((HB1.out.alloc HB1.out.size _).trans (hb2.mono (by have := HB1.out.size; simp; omega)))
     clear HR hb2 hs2
     go_wp2_with fail
     refine HX.out.mono ?_
     rintro e w3 ⟨rfl, rfl⟩
     clear HX
     go_wp2
     go_ret
     exact ⟨ret_bool (by rw [← HD.out]; simp), HB2.out⟩

theorem tsame_yes (e : Bool) (a : Int) (v u : Value) (A : List Tmd) (w : World) (h : Tms w v A) (h' : Tms w u A) :
 Calls Tryz.prog 28 #[.agg #[.bool e, .int .i64 a, v], .agg #[.bool e, .int .i64 a, u]] w fun e w' => e = .returned (.bool true) ∧ Below w.heap.size w w' :=
 (tsame_any e e a a v u A A w h h').mono (fun _ _ ⟨h1, h2⟩ => ⟨by rw [h1]; simp, h2⟩)

end Go.Proofs.YtpibmjkbebkilaaGreat

namespace Go.Proofs.YtpibmjkbebkilaaGreat
open Go.ChangeShapes Go.WideShapes Go.ChangeAt Go.RowKit Go.Joins Go.Deep
set_option maxRecDepth 20000

set_option maxRecDepth 100000

theorem bytesAd : Tryz.prog.bytesOf 36 = 16 := by kernel_rfl
theorem cellsAd : Tryz.prog.cellsOf 36 = 1 := by kernel_rfl

theorem open_Strs {H : Type} {enc : TypeId × Value → H} {w : World} {base : Nat} {spare : Nat → Bool} {held : Bool} {fuel : Nat} {cs : List Value} {x : DataW H × List MemPlace}
 (h : DataW.trod enc Tryz.prog w base spare held fuel 37 cs = some x) (hsz : (DataW.weights Tryz.prog 37 x.1).all (· ≤ reachBytes) = true) : ∃ v L, cs = [v] ∧ Strs w v L := by
 rcases open_strings Tryz.underlying37 Tryz.underlying36 cellsAd h with ⟨rfl, _⟩ | ⟨a, len, cap, ss, rfl, _, hl, hm, hz, rfl, hc, hwf⟩
 · exact ⟨_, [], rfl, Strs.nil w⟩
 · have hle : len ≤ ss.length := by rw [hz]; split <;> omega
   have hb : len ≤ 8796093022208 := by
    simp only [DataW.weights, Tryz.underlying37, List.all_cons, Bool.and_eq_true, bytesAd, reachBytes] at hsz
    have := hsz.1
    simp [strs] at this
    omega
   have hlen : ((ss.take len).map fun s => s.data.toList).length = len := by simp; omega
   refine ⟨_, (ss.take len).map (fun s => s.data.toList), rfl, some a, cap, a.block, a.off, by rw [hlen], ?_, by rw [hlen]; omega, ?_, fun k hk => ?_⟩
   · by_cases h0 : (ss.take len).map (fun s => s.data.toList) = []
     · exact .inl h0
     · refine .inr ?_
       have h1 : 0 < ss.length := by
        cases ss with
        | nil => simp at h0
        | cons _ _ => simp
       have := hc 0 h1
       obtain ⟨b, off, spot⟩ := a
       cases spot with
       | none => rfl
       | some s => simp [Addr.add, World.cell?] at this; split at this <;> simp at this
   · intro x hx
     obtain ⟨s, hs, rfl⟩ := List.mem_map.1 hx
     exact hwf s (List.mem_of_mem_take hs)
   · rw [hlen] at hk
     have hk' := hc k (by omega)
     have e : (a.add k) = ⟨a.block, a.off + k, none⟩ := by
      obtain ⟨b, off, spot⟩ := a
      unfold Addr.add
      split
      · subst_vars
        cases spot with
        | none => rfl
        | some s => simp [Addr.add, World.cell?] at hk'; split at hk' <;> simp at hk'
      · rfl
     rw [e] at hk'
     refine ⟨World.block_lt_of_cell? w ⟨a.block, a.off + k, none⟩ hk', ?_⟩
     rw [hk']
     have hks : k < ss.length := by omega
     simp [List.getD_eq_getElem?_getD, hks, hk, encStr]

theorem weights_part {H : Type} {P : Program} {t : TypeId} {fs : Array Field} {parts : List (DataW H)} (hs : P.underlying t = some (.struct fs)) (h : (DataW.weights P t (.agg parts)).all (· ≤ reachBytes) = true)
 (j : Nat) (f : Field) (d : DataW H) (hf : fs[j]? = some f) (hd : parts[j]? = some d) : (DataW.weights P f.type d).all (· ≤ reachBytes) = true := by
 simp only [DataW.weights, hs] at h
 exact List.all_eq_true.2 (fun n hn => List.all_eq_true.1 h n (DataW.weights_mem_each (j := j) (t := f.type) (by simp; exact ⟨f, by simpa using hf, rfl⟩) hd n hn))

theorem weights_arg {H : Type} {P : Program} {ts : List TypeId} {ds : List (DataW H)} (h : (DataW.weightsEach P ts ds).all (· ≤ reachBytes) = true) (j : Nat) (t : TypeId) (d : DataW H) (ht : ts[j]? = some t) (hd : ds[j]? = some d) :
 (DataW.weights P t d).all (· ≤ reachBytes) = true :=
 List.all_eq_true.2 (fun n hn => List.all_eq_true.1 h n (DataW.weights_mem_each ht hd n hn))

theorem cellsIt : Tryz.prog.cellsOf 3 = 1 := by kernel_rfl

section
variable {H : Type} {enc : TypeId × Value → H} {w : World} {base : Nat} {spare : Nat → Bool} {held : Bool} {fuel : Nat} {cs : List Value} {x : DataW H × List MemPlace}

end

end Go.Proofs.YtpibmjkbebkilaaGreat
