/- Texts joined into one file: GAdm, GSmall, GWhich. -/
import Derived.Test.YtfloipdkhmgibaaS11

/- group.Admits: whether a source is let through. -/
namespace Go.Proofs.Ytfloipdkhmgibaa
open Go.RowKit Go.Lib Go.Maps Go.Sort
set_option maxRecDepth 20000

theorem rd_fold : ∀ (L : List Tmd) (F0 : Str → Option Int), (L.map Prod.fst).Nodup → (∀ t ∈ L, L.foldl (fun F t => upd F t.1 t.2) F0 t.1 = some t.2) ∧ ∀ a, a ∉ L.map Prod.fst → L.foldl (fun F t => upd F t.1 t.2) F0 a = F0 a
  | [], F0, _ => ⟨by simp, fun _ _ => rfl⟩
  | t :: L, F0, h => by
    rw [List.map_cons, List.nodup_cons] at h
    obtain ⟨i1, i2⟩ := rd_fold L (upd F0 t.1 t.2) h.2
    rw [List.foldl_cons]
    refine ⟨fun u hu => ?_, fun a ha => ?_⟩
    · rcases List.mem_cons.1 hu with rfl | hu
      · rw [i2 u.1 h.1]; simp [upd]
      · exact i1 u hu
    · rw [List.map_cons, List.mem_cons, not_or] at ha
      rw [i2 a ha.2]
      simp [upd, ha.1]

theorem rd_nodup (L : List Tmd) (h : (L.map Prod.fst).Nodup) : (∀ t ∈ L, rd L t.1 = some t.2) ∧ ∀ a, a ∉ L.map Prod.fst → rd L a = none := rd_fold L _ h

theorem asc_rd {F : Str → Option Int} {L : List Tmd} (h : Asc F L) : rd L = F := by
  have hn : (L.map Prod.fst).Nodup := h.1.1.imp (fun {x y} (hlt : x < y) (e : x = y) => by subst e; exact slt_irrefl _ hlt)
  obtain ⟨h1, h2⟩ := rd_nodup L hn
  funext a
  cases hF : F a
  · exact h2 a (fun hm => (h.1.2 a).1 hm hF)
  · obtain ⟨t, ht, rfl⟩ := List.mem_map.1 ((h.1.2 a).2 (by simp [hF]))
    rw [h1 t ht, ← h.2 t ht, hF]

def padm (ex : Bool) (at' : Int) (L : List Tmd) (now : Int) (a : Str) : Bool :=
  pcheck ex at' L && (if (ex && decide (now < at')) then !(exF (ex && decide (now < at')) now (rd L) a == some 0) else (exF (ex && decide (now < at')) now (rd L) a).getD 0 != 0)

set_option maxHeartbeats 1000000 in
theorem gadmits_any (ex : Bool) (at' : Int) (v : Value) (L : List Tmd) (now : Int) (a : Str) (ha : a.length ≤ maxLen) (w : World) (h : Tms w v L) :
    Calls Try.prog 26 #[.agg #[.bool ex, .int .i64 at', v], .string (bstr a), .int .i64 now] w fun e w' => e = .returned (.bool (padm ex at' L now a)) ∧ Below w.heap.size w w' := by
  obtain ⟨ao, cap, rfl⟩ := h.shape
  have hb0 : Below w.heap.size w (w.alloc (.cells #[.bool ex, .int .i64 at', .slice ao L.length cap] 32)) := (Below.refl _ _).alloc (Nat.le_refl _) _
  have HE := Lib.hid (expire_any ex at' _ L now _ (h.mono hb0))
  have HB := Lib.hid hb0
  obtain ⟨q, hq⟩ : ∃ q, padm ex at' L now a = q := ⟨_, rfl⟩
  rw [hq]
  unfold padm at hq
  generalize (ex && decide (now < at')) = e2 at HE hq
  have HQ := Lib.hid hq
  clear h hb0 hq
  go_enter Try.func26, Try.ntmps26
  go_wp2_with fail
  refine HE.out.mono ?_
  rintro e w1 (⟨hp, rfl, hb1⟩ | ⟨hp, v1, L1, rfl, hT, hA, _, _, hb1⟩)
  · have HQ' := Lib.hid (show false = q by have := HQ.out; rw [hp] at this; simpa using this)
    have HB1 := Lib.hid (HB.out.trans (hb1.mono (by simp)))
    clear HE HQ hp hb1
    go_wp2
    go_ret
    exact ⟨ret_bool HQ'.out, HB1.out.alloc HB1.out.size _⟩
  · obtain ⟨o1, c1, rfl⟩ := hT.shape
    have HQ' := Lib.hid (show (if e2 then !(exF e2 now (rd L) a == some 0) else (exF e2 now (rd L) a).getD 0 != 0) = q by have := HQ.out; rw [hp] at this; simpa using this)
    have HB1 := Lib.hid (HB.out.trans (hb1.mono (by simp)))
    have HA := Lib.hid hA
    have HT := Lib.hid hT
    generalize (if e2 then at' else 0) = a2
    clear HE HQ hp hb1 hA hT
    cases e2
    · cases hi : L1.isEmpty
      · have HR := Lib.hid (read_any false a2 _ L1 (w1.alloc (.cells #[.bool false, .int .i64 a2, .slice o1 L1.length c1] 32)) (HT.out.mono ((Below.refl _ _).alloc (Nat.le_refl _) _)))
        have hz : CBox (w1.alloc (.cells #[.bool false, .int .i64 a2, .slice o1 L1.length c1] 32)) w1.heap.size 32 #[.bool false, .int .i64 a2, .slice o1 L1.length c1] := CBox.new _ rfl
        have HZ := Lib.hid hz
        clear hz
        go_wp2_with fail
        refine HR.out.mono ?_
        rintro e w2 ⟨b, rfl, hm2, _, hb2⟩
        have hz2 := (HZ.out.below hb2 (by simp))
        obtain ⟨z0, _⟩ := hz2.at_ 0 _ rfl
        have hz3 := hz2.lt
        have hk : Below w2.heap.size w2 (w2.alloc (.cells #[.bool false, .int .i64 a2, .map (some b)] 92)) := (Below.refl _ _).alloc (Nat.le_refl _) _
        have HX := Lib.hid (runs_any false a2 b L1.length (rd L1) a ha _ (hm2.below hk hm2.lt))
        have HB2 := Lib.hid ((HB1.out.alloc HB1.out.size _).trans (hb2.mono (by have := HB1.out.size; simp; omega)))
        have HB3 := Lib.hid (HB2.out.trans (hk.mono HB2.out.size))
        have HD := Lib.hid (show ((rd L1 a).getD 0 != 0) = q from by rw [asc_rd HA.out]; simpa using HQ'.out)
        clear HR hm2 hb2 hk hi hz2
        go_wp2_with fail
        refine HX.out.mono ?_
        rintro e w3 ⟨rfl, hb3⟩
        have HB4 := Lib.hid (HB3.out.trans (hb3.mono HB3.out.size))
        clear HX hb3
        go_wp2
        go_ret
        exact ⟨ret_bool HD.out, HB4.out⟩
      · have HD := Lib.hid (show false = q from by
          have h0 : L1 = [] := by simpa using hi
          have := HQ'.out
          rw [← asc_rd HA.out, h0] at this
          simpa [rd] using this)
        have hi' : L1 = [] := by simpa using hi
        subst hi'
        go_wp2
        go_ret
        exact ⟨ret_bool HD.out, HB1.out.alloc HB1.out.size _⟩
    · have HR := Lib.hid (read_any true a2 _ L1 (w1.alloc (.cells #[.bool true, .int .i64 a2, .slice o1 L1.length c1] 32)) (HT.out.mono ((Below.refl _ _).alloc (Nat.le_refl _) _)))
      have hz : CBox (w1.alloc (.cells #[.bool true, .int .i64 a2, .slice o1 L1.length c1] 32)) w1.heap.size 32 #[.bool true, .int .i64 a2, .slice o1 L1.length c1] := CBox.new _ rfl
      have HZ := Lib.hid hz
      clear hz
      go_wp2_with fail
      refine HR.out.mono ?_
      rintro e w2 ⟨b, rfl, hm2, _, hb2⟩
      have hk : Below w2.heap.size w2 (w2.alloc (.cells #[.bool true, .int .i64 a2, .map (some b)] 92)) := (Below.refl _ _).alloc (Nat.le_refl _) _
      have HX := Lib.hid (blocks_any true a2 b L1.length (rd L1) a ha _ (hm2.below hk hm2.lt))
      have HB2 := Lib.hid ((HB1.out.alloc HB1.out.size _).trans (hb2.mono (by have := HB1.out.size; simp; omega)))
      have HB3 := Lib.hid (HB2.out.trans (hk.mono HB2.out.size))
      have hz2 := (HZ.out.below hb2 (by simp))
      obtain ⟨z0, _⟩ := hz2.at_ 0 _ rfl
      have hz3 := hz2.lt
      have HD := Lib.hid (show (!(rd L1 a == some 0)) = q from by rw [asc_rd HA.out]; simpa using HQ'.out)
      clear HR hm2 hb2 hk hz2
      go_wp2_with fail
      refine HX.out.mono ?_
      rintro e w3 ⟨rfl, hb3⟩
      have HB4 := Lib.hid (HB3.out.trans (hb3.mono HB3.out.size))
      clear HX hb3
      go_wp2
      go_ret
      exact ⟨ret_bool HD.out, HB4.out⟩
end Go.Proofs.Ytfloipdkhmgibaa

/- Small functions of package group: within, names, lacks. -/
namespace Go.Proofs.Ytfloipdkhmgibaa
open Go.RowKit Go.Lib Go.Maps Go.Sort
set_option maxRecDepth 20000

end Go.Proofs.Ytfloipdkhmgibaa

/- group.which: those of a list of which something holds. -/
namespace Go.Proofs.Ytfloipdkhmgibaa
open Go.RowKit Go.Lib Go.Sort
set_option maxRecDepth 20000

end Go.Proofs.Ytfloipdkhmgibaa
