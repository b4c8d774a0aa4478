/- Texts joined into one file: PAll, PForget, PLive. -/
import Derived.Test.YtfloipdkhmgibaaS21

/- slices.Clone of strings; (*proxy.Proxy).All. -/
namespace Go.Proofs.Ytfloipdkhmgibaa
open Go.RowKit Go.Lib Go.Maps Go.Sort Go.Shelf
set_option maxRecDepth 20000

/-- no string shares the bytes of its block -/
def NoFz (w : World) (u : Value) (A : List Str) : Prop := A ≠ [] → ∀ b, u.ownBlock = some b → b < w.heap.size ∧ ∀ o, w.frozen? ⟨b, o, none⟩ = false
theorem NoFz.empty (w : World) (u : Value) : NoFz w u [] := fun h => absurd rfl h
theorem NoFz.below {w w' : World} {u : Value} {A : List Str} (h : NoFz w u A) (hb : Below w.heap.size w w') : NoFz w' u A := fun hA b hu => by
  obtain ⟨h1, h2⟩ := h hA b hu
  exact ⟨Nat.lt_of_lt_of_le h1 hb.size, fun o => (hb.frozen (p := ⟨b, o, none⟩) h1).trans (h2 o)⟩
theorem NoFz.grown {w w' : World} {u : Value} {A : List Str} {r : Option Nat} (h : NoFz w u A) (hg : w.grownBy w' r) (hn : A ≠ [] → u.ownBlock ≠ r) : NoFz w' u A := fun hA b hu => by
  obtain ⟨h1, h2⟩ := h hA b hu
  exact ⟨Nat.lt_of_lt_of_le h1 hg.size, fun o => (World.frozen?_of_block (a := ⟨b, o, none⟩) (hg.block b h1 fun e => hn hA (hu.trans e))).trans (h2 o)⟩
theorem NoFz.own {w : World} {base : Nat} {e : TypeId} {size : Nat} {v : Value} {n : Nat} {xs : List Value} (h : w.ownsRow base e size v n xs) (A : List Str) : NoFz w v A := fun _ b hb => by
  have hl := (h.lt b hb).2
  rcases h.2 with ⟨rfl, _⟩ | ⟨g, cap, cur, rfl, _, hg, _⟩
  · simp [Value.ownBlock] at hb
  · simp only [Value.ownBlock, Option.some.injEq] at hb
    subst hb
    exact ⟨hl, fun o => by simp [World.frozen?, hg]⟩
def RetClone (w : World) (A : List Str) (e : Ending) (w' : World) : Prop := ∃ u, e = .returned u ∧ Strs w' u A ∧ Lies w.heap.size u ∧ Below w.heap.size w w' ∧ NoFz w' u A
theorem clone_any (v : Value) (A : List Str) (w : World) (h : Strs w v A) : Calls Try.prog 43 #[v] w (RetClone w A) := by
  have hl := h.len
  obtain ⟨ao, cap, b, off, rfl, h0, h1, _, h3⟩ := h
  by_cases hA : A = []
  · subst hA
    cases ao with
    | none =>
      refine (AnyG.slices_Clone_string_nil Try.addrClone 0 cap w).mono ?_
      rintro e w' ⟨rfl, rfl⟩
      exact ⟨_, rfl, Strs.nil _, fun b hb => by simp [Value.ownBlock] at hb, Below.refl _ _, NoFz.empty _ _⟩
    | some a =>
      refine (AnyG.slices_Clone_string_zero Try.addrClone a cap w).mono ?_
      rintro e w' ⟨u, rfl, hu, _, hb⟩
      exact ⟨u, rfl, Strs.own (L := []) hu (by simp) (by simp), Lies.own hu, hb, NoFz.empty _ _⟩
  · rcases h0 with h0 | rfl
    · exact absurd h0 hA
    · refine (AnyG.slices_Clone_string Try.addrClone b off A.length cap (A.map bstr) w (by simp) (by omega) (fun j hj => by
        have hj' : j < A.length := by simpa using hj
        rw [(h3 j hj').2]
        simp [encStr, bstr, List.getD_eq_getElem?_getD, hj'])).mono ?_
      rintro e w' ⟨u, rfl, hu, _, hb⟩
      have hu' : w'.ownsRow w.heap.size 44 1 u A.length (A.map encStr) := by
        rw [List.take_of_length_le (by simp), List.map_map] at hu
        have e : A.map (Value.string ∘ bstr) = A.map encStr := List.map_congr_left fun x _ => by simp [encStr, bstr]
        rw [e] at hu
        exact hu
      exact ⟨u, rfl, Strs.own hu' h1 hl, Lies.own hu', hb, NoFz.own hu' _⟩

/-- the record that All tells of a group -/
def recT (G : Told) (k : Int × Str) : Rec := (if (oldT G k).1 then 2 else 1, k.2, (oldT G k).2)
def RetOwn (G : Told) (v : Int) (n : Nat) (w : World) (e : Ending) (w' : World) : Prop := ∃ r Q K B, e = .returned r ∧ w.heap.size ≤ B ∧ RowQ w' B r Q ∧ OfK G v K ∧ K.length ≤ n ∧ Q.map qrec = K.map (recT G) ∧ Below w.heap.size w w' ∧ ∀ q ∈ Q, NoFz w' q.2.2.1 q.2.2.2
def RetAll (G : Told) (v : Int) (n : Nat) (w : World) (e : Ending) (w' : World) : Prop := ∃ r Q K B, e = .returned r ∧ w.heap.size ≤ B ∧ RowQ w' B r Q ∧ OfK G v K ∧ K.length ≤ n ∧ Q.map qrec = K.map (recT G) ∧ Below w.heap.size w w'

def AllStep (F : Prop) (base : Nat) (wr : World) (Q : List QRec) (x : Rec) (s5 : Value) (w' : World) : Prop := ∃ Q', RowQ w' base s5 Q' ∧ Q'.map qrec = Q.map qrec ++ [x] ∧ Below base wr w' ∧ wr.heap.size ≤ w'.heap.size ∧ (F → (∀ q ∈ Q, NoFz wr q.2.2.1 q.2.2.2) → ∀ q ∈ Q', NoFz w' q.2.2.1 q.2.2.2)
theorem allstep {base : Nat} {wr w3 : World} {r : Value} {Q : List QRec} {kind : Int} {kg : Str} {A : List Str} {co : Option Addr} {cc : Nat} (hq : RowQ wr base r Q) (hb : Below wr.heap.size wr w3) (hbase : base ≤ wr.heap.size) (hs : Strs w3 (.slice co A.length cc) A) (hl : Lies wr.heap.size (.slice co A.length cc)) (hm : kg.length ≤ maxLen)
    {v' : Value} {w4 : World} (hown : w4.ownsRow base 54 3 v' (Q.length + 1) (Q.flatMap qcells ++ [.int .i64 kind, .string (bstr kg), .slice co A.length cc])) (hg : (w3.alloc (.cells #[.int .i64 kind, .string (bstr kg), .slice co A.length cc] 54)).grownBy w4 r.ownBlock)
    (hv : v'.ownBlock = r.ownBlock ∨ v'.ownBlock = some (w3.alloc (.cells #[.int .i64 kind, .string (bstr kg), .slice co A.length cc] 54)).heap.size) : AllStep (NoFz w3 (.slice co A.length cc) A) base wr Q (kind, kg, A) v' w4 := by
  have ha : Below w3.heap.size w3 (w3.alloc (.cells #[.int .i64 kind, .string (bstr kg), .slice co A.length cc] 54)) := (Below.refl _ _).alloc (Nat.le_refl _) _
  have hb' := hb.trans (ha.mono hb.size)
  have hne : A ≠ [] → (Value.slice co A.length cc).ownBlock ≠ r.ownBlock := fun hA e => by
    obtain ⟨c, hc, _⟩ := hs.block hA
    rw [hc] at e
    have h1 := hl c hc
    have h2 := (hq.1.lt c e.symm).2
    omega
  refine ⟨Q ++ [(kind, kg, .slice co A.length cc, A)], (hq.below hb').push (q := (kind, kg, .slice co A.length cc, A)) (hs.mono ha) (hl.mono hbase) hm hne hown hg hv, by simp [qrec], (hb'.mono hbase).grown hg (by have := hb'.size; omega) (fun b e => (hq.1.lt b e).1), Nat.le_trans hb'.size hg.size, fun hfu hf q hm => ?_⟩
  rcases List.mem_append.1 hm with hm | hm
  · exact ((hf q hm).below hb').grown hg (hq.2 q hm).2.2.2
  · rw [List.mem_singleton] at hm
    subst hm
    exact (hfu.below ha).grown hg hne

theorem all_nil (v : Int) (w : World) : Calls Try.prog 22 #[.pointer none, .int .i64 v] w fun e w' => e = .returned (.slice none 0 0) ∧ Below w.heap.size w w' := by
  have HO := Lib.hid (of_nil v w)
  go_enter Try.func22, Try.ntmps22
  go_wp2_with ((with_reducible refine HO.out.mono ?_); rintro e w1 ⟨rfl, hb⟩; have HB := Lib.hid hb; clear hb HO)
  refine wp_loop_rounds 1 ?_
  rw [rounds_succ]
  go_wp2
  go_ret
  exact ⟨rfl, HB.out⟩

set_option maxHeartbeats 8000000 in
theorem all_own (p b n : Nat) (room v : Int) (G : Told) (w : World) (h : Px w p b n room G) (hn : n ≤ 10000) (hG : SmallT G) :
    Calls Try.prog 22 #[.pointer (some ⟨p, 0, none⟩), .int .i64 v] w (RetOwn G v n w) := by
  have hz : ∀ w, (zeroValue 28).run Try.prog w = .ok (.agg #[.bool false, .slice none 0 0]) w := fun w => Try.zeroValue28 w
  obtain ⟨i0, hi, hz0, hz1, hz2⟩ := info_parts infoRec
  have HO := Lib.hid (of_any p b n room v G w h (by omega))
  have HP := Lib.hid h; have HS := Lib.hid hG
  clear h hG
  go_enter Try.func22, Try.ntmps22
  go_wp2_with ((with_reducible refine HO.out.mono ?_); rintro e w1 ⟨u, K, rfl, hk, hok, hkn, hb⟩; obtain ⟨uo, uc, rfl⟩ := hk.shape; have HK := Lib.hid hk; have HOK := Lib.hid hok; have HB := Lib.hid hb; have HKN := Lib.hid hkn; clear hk hok hb HO)
  have hkl : K.length ≤ 9223372036854775807 := by omega
  clear hkn
  go_loopw [5, 14] (fun r i wr => ∃ k Q, k ≤ K.length ∧ i = .int .i64 (k : Nat) ∧ RowQ wr w1.heap.size r Q ∧ Q.map qrec = (K.take k).map (recT G) ∧ Below w1.heap.size w1 wr ∧ ∀ q ∈ Q, NoFz wr q.2.2.1 q.2.2.2) (fun _ i _ => K.length - (intOf i).toNat)
  case atStart => exact ⟨0, [], Nat.zero_le _, rfl, RowQ.nil _ _, by simp, Below.refl _ _, by simp⟩
  case round =>
    obtain ⟨k, Q, hk, rfl, hq, hqr, hb, hnq⟩ := hrel
    have HNQ := Lib.hid hnq
    clear hnq
    have HQL := Lib.hid (show Q.length + 1 ≤ maxLen ∧ (Q.length + 1) * 48 ≤ 140737488355328 from by
      have h1 : Q.length = (K.take k).length := by simpa using congrArg List.length hqr
      have h2 := HKN.out
      rw [List.length_take] at h1
      unfold maxLen
      omega)
    have HQ := Lib.hid hq; have HQR := Lib.hid hqr; have HBR := Lib.hid hb
    clear hq hqr hb
    by_cases hlt : k < K.length
    · obtain ⟨⟨kv, kg⟩, hkey⟩ : ∃ x : Int × Str, x = K.getD k default := ⟨_, rfl⟩
      obtain ⟨ub, uoff, _, hidx, hc⟩ := HK.out.facts
      obtain ⟨hul, c0, c1⟩ := hc k hlt
      have hp := hidx k hlt
      rw [← hkey] at c0 c1
      have hmem : (kv, kg) ∈ K := by rw [hkey]; simp [List.getD_eq_getElem?_getD, hlt]
      have HSN := Lib.hid (show (K.take (k + 1)).map (recT G) = (K.take k).map (recT G) ++ [recT G (kv, kg)] from by rw [take_snoc K k hlt, List.map_append, hkey]; simp [List.getD_eq_getElem?_getD, hlt])
      have hk1 := (HOK.out.2 (kv, kg)).1 hmem
      have d0 := (HBR.out.cell (p := ⟨ub, uoff + k * 2, none⟩) hul).trans c0
      have d1 := (HBR.out.cell (p := ⟨ub, uoff + k * 2 + 1, none⟩) hul).trans c1
      dsimp only at d0 d1
      obtain ⟨W1, hW1⟩ : ∃ W1, W1 = wr.alloc (.cells #[.int .i64 kv, .string (bstr kg)] 78) := ⟨_, rfl⟩
      have hb1 : Below wr.heap.size wr W1 := by rw [hW1]; exact (Below.refl _ _).alloc (Nat.le_refl _) _
      have hsr : w.heap.size ≤ wr.heap.size := Nat.le_trans HB.out.size HBR.out.size
      have hbr : Below w.heap.size w wr := HB.out.trans (HBR.out.mono HB.out.size)
      have hb01 : Below w.heap.size w W1 := hbr.trans (hb1.mono hsr)
      have hs1 : W1.heap.size = wr.heap.size + 1 := by rw [hW1]; simp
      have k1 : CBox W1 wr.heap.size 78 #[.int .i64 kv, .string (bstr kg)] := by rw [hW1]; exact CBox.new _ rfl
      obtain ⟨hpx, V, hV, hH⟩ := (HP.out.below hb01).parts
      have hok : okK (kv, kg) := by
        refine hV.1 _ fun e => hk1.2 ?_
        have := hH (kv, kg)
        cases hG : G (kv, kg)
        · rfl
        · rw [hG] at this
          obtain ⟨v', e', _⟩ := this
          rw [e] at e'
          cases e'
      obtain ⟨ov, ho, hso, _⟩ := hH.at_ (kv, kg)
      obtain ⟨oo, oc, rfl⟩ := hso.shape
      have hd : Below W1.heap.size W1 W1.drew := Below.drew (Below.refl _ _)
      have hd2 : Below W1.heap.size W1 (W1.alloc (.cells #[.bool false, .slice none 0 0] 28)).drew := Below.drew ((Below.refl _ _).alloc (Nat.le_refl _) _)
      have hl1 := (hV.below hd hV.lt).get Try.underlying71 (hz W1.drew) (kv, kg) hok
      have hl2 := (hV.below hd2 hV.lt).get Try.underlying71 (hz (W1.alloc (.cells #[.bool false, .slice none 0 0] 28)).drew) (kv, kg) hok
      have HRT := Lib.hid (show recT G (kv, kg) = (if (oldT G (kv, kg)).1 then 2 else 1, kg, (oldT G (kv, kg)).2) from rfl)
      have HO60 := Lib.hid (HS.out.old (kv, kg))
      rw [ho] at hl1 hl2
      generalize oldT G (kv, kg) = old at hl1 hl2 hso HRT HO60
      have hl3 : (Instr.lookup 71 (.map (some b)) (.agg #[.int .i64 kv, .string (bstr kg)]) false).run Try.prog W1.drew = .ok (.agg #[.bool old.1, .slice oo old.2.length oc]) W1.drew := hl1
      have hl4 : (Instr.lookup 71 (.map (some b)) (.agg #[.int .i64 kv, .string (bstr kg)]) false).run Try.prog (W1.alloc (.cells #[.bool false, .slice none 0 0] 28)).drew = .ok (.agg #[.bool old.1, .slice oo old.2.length oc]) (W1.alloc (.cells #[.bool false, .slice none 0 0] 28)).drew := hl2
      obtain ⟨x1, _⟩ := hpx.at_ 1 _ rfl
      obtain ⟨y0, _⟩ := k1.at_ 0 _ rfl
      obtain ⟨y1, _⟩ := k1.at_ 1 _ rfl
      have q1 : p < W1.heap.size := hpx.lt
      have q2 : wr.heap.size < W1.heap.size := k1.lt
      obtain ⟨W2, hW2⟩ : ∃ W2, W2 = (W1.alloc (.cells #[.bool old.1, .slice oo old.2.length oc] 28)).drew := ⟨_, rfl⟩
      have hb12 : Below W1.heap.size W1 W2 := by rw [hW2]; exact Below.drew ((Below.refl _ _).alloc (Nat.le_refl _) _)
      have hs2 : W2.heap.size = W1.heap.size + 1 := by rw [hW2]; simp
      have F2 := Lib.hid (show CBox W2 W1.heap.size 28 #[.bool old.1, .slice oo old.2.length oc] from by rw [hW2]; exact (show CBox (W1.alloc _) _ _ _ from CBox.new _ rfl))
      have K2 := Lib.hid (k1.below hb12 k1.lt)
      have HC := Lib.hid (clone_any _ _ W2.drew ((hso.mono hb12).mono (Below.drew (Below.refl _ _))))
      have HB2 := Lib.hid (hb1.trans (hb12.mono (by omega)))
      have HR0 := Lib.hid hsr
      have HS2 := Lib.hid (show W1.heap.size + 1 ≤ W2.heap.size ∧ wr.heap.size + 1 ≤ W1.heap.size from by omega)
      have HW1 := Lib.hid hW1; have HW2 := Lib.hid hW2
      have HKL := Lib.hid (show kg.length ≤ maxLen from hok.2)
      clear hkey hidx hc hul c0 c1 hmem hk1 hb1 hbr hb01 hs1 k1 hpx hV hH hok ho hso hd hd2 hl1 hl2 hb12 hs2 hW1 hW2 hsr
      go_upto_region 5 with fail
      rw [← HW1.out]
      clear HW1 d0 d1 hp
      go_cut [8] (fun s8 w' => s8 = .pointer (some ⟨W1.heap.size, 0, none⟩) ∧ W2 = w')
      case first =>
        clear HP HS HK HOK HB HQ HQR HBR HSN HRT HO60 F2 K2 HC HB2 HR0 HS2 HKL
        go_region
        all_goals
          go_wp2_with fail
          go_meet
          case rel => exact ⟨rfl, HW2.out⟩
      case rest =>
      obtain ⟨rfl, rfl⟩ := hcut
      clear hl3 hl4 q1 q2 x1 y0 y1 HW2
      obtain ⟨z0, _⟩ := F2.out.at_ 0 _ rfl
      obtain ⟨z1, _⟩ := F2.out.at_ 1 _ rfl
      obtain ⟨y1, _⟩ := K2.out.at_ 1 _ rfl
      obtain ⟨t, A⟩ := old
      dsimp only at *
      cases t
      · have hc3 := HQL.out.1; have hc4 := HQL.out.2
        have HX := Lib.hid (show (K.take (k + 1)).map (recT G) = Q.map qrec ++ [(1, kg, A)] from by rw [HSN.out, HRT.out, HQR.out]; rfl)
        clear HSN HRT HQR HP HS HK HOK HKN HO60 F2
        go_upto_region 9 with fail
        go_region_law (first
            | (refine step_append_vals (by rfl) (.tmp 26) (.tmp 34) 47 (by rfl) w1.heap.size 54 i0 _ 3 48 Try.underlying47 hi hz0 hz1 hz2 rfl (by decide) _ Q.length (Q.flatMap qcells) (by rfl) T1.out (.slice (some ⟨w3.heap.size, 0, none⟩) 1 1) 1 [.int .i64 1, .string (bstr kg), .slice co A.length cc] (by rfl) T2.out hc3 hc4 T3.out ?_; intro v' w4 hown4 hg4 hv4; have HA4 := Lib.hid (T5.out _ _ hown4 hg4 hv4); clear hown4 hg4 hv4)
            | (go_simp; go_at_call 43; (with_reducible refine HC.out.mono ?_); rintro e w3 ⟨cu, rfl, hcs, hcl, hb3, hnf⟩; obtain ⟨co, cc, rfl⟩ := hcs.shape; have y3 := (hb3.cell (p := ⟨wr.heap.size, 1, none⟩) (by have := HS2.out; simp; omega)).trans y1; have hb03 : Below wr.heap.size wr w3 := HB2.out.trans ((Below.drew (Below.refl _ _)).trans (hb3.mono (by simp)) |>.mono HB2.out.size); have ha : Below w3.heap.size w3 (w3.alloc (.cells #[.int .i64 1, .string (bstr kg), .slice co A.length cc] 54)) := (Below.refl _ _).alloc (Nat.le_refl _) _; have T1 := Lib.hid (HQ.out.below (hb03.trans (ha.mono hb03.size))).1; have T2 := Lib.hid (sliceOf_block (size := 3) (m := 1) (c := 1) (heap_new w3 (.cells #[.int .i64 1, .string (bstr kg), .slice co A.length cc] 54) _ rfl) rfl (by simp [Value.oneCell'])); have T3 := Lib.hid (show w1.heap.size ≤ (w3.alloc (.cells #[.int .i64 1, .string (bstr kg), .slice co A.length cc] 54)).heap.size from by have := HBR.out.size; have := hb03.size; simp; omega); have T5 := Lib.hid (fun (v' : Value) (w4 : World) => allstep (v' := v') (w4 := w4) (kind := 1) HQ.out hb03 HBR.out.size hcs (hcl.mono (by have := HB2.out.size; simp; omega)) HKL.out); have HNW := Lib.hid hnf; have hb33 := hb3.size; clear hcs hcl hb3 hnf hb03 ha HC y1))
        all_goals
          obtain ⟨Q', hq', hqr', hb', _, hnf'⟩ := HA4.out
          have HNF := Lib.hid (hnf' HNW.out HNQ.out)
          clear hnf'
          have HX' := Lib.hid (hqr'.trans HX.out.symm)
          have HQ' := Lib.hid hq'
          have HB' := Lib.hid (HBR.out.trans hb')
          clear hq' hqr' hb' HX
          go_wp2
          go_roundw
          case rel => exact ⟨k + 1, Q', by omega, by go_num, HQ'.out, HX'.out, HB'.out, HNF.out⟩
          case measure => simp [intOf]; omega
      · have hc3 := HQL.out.1; have hc4 := HQL.out.2
        have HX := Lib.hid (show (K.take (k + 1)).map (recT G) = Q.map qrec ++ [(2, kg, A)] from by rw [HSN.out, HRT.out, HQR.out]; rfl)
        clear HSN HRT HQR HP HS HK HOK HKN HO60 F2
        go_upto_region 9 with fail
        go_region_law (first
            | (refine step_append_vals (by rfl) (.tmp 26) (.tmp 34) 47 (by rfl) w1.heap.size 54 i0 _ 3 48 Try.underlying47 hi hz0 hz1 hz2 rfl (by decide) _ Q.length (Q.flatMap qcells) (by rfl) T1.out (.slice (some ⟨w3.heap.size, 0, none⟩) 1 1) 1 [.int .i64 2, .string (bstr kg), .slice co A.length cc] (by rfl) T2.out hc3 hc4 T3.out ?_; intro v' w4 hown4 hg4 hv4; have HA4 := Lib.hid (T5.out _ _ hown4 hg4 hv4); clear hown4 hg4 hv4)
            | (go_simp; go_at_call 43; (with_reducible refine HC.out.mono ?_); rintro e w3 ⟨cu, rfl, hcs, hcl, hb3, hnf⟩; obtain ⟨co, cc, rfl⟩ := hcs.shape; have y3 := (hb3.cell (p := ⟨wr.heap.size, 1, none⟩) (by have := HS2.out; simp; omega)).trans y1; have hb03 : Below wr.heap.size wr w3 := HB2.out.trans ((Below.drew (Below.refl _ _)).trans (hb3.mono (by simp)) |>.mono HB2.out.size); have ha : Below w3.heap.size w3 (w3.alloc (.cells #[.int .i64 2, .string (bstr kg), .slice co A.length cc] 54)) := (Below.refl _ _).alloc (Nat.le_refl _) _; have T1 := Lib.hid (HQ.out.below (hb03.trans (ha.mono hb03.size))).1; have T2 := Lib.hid (sliceOf_block (size := 3) (m := 1) (c := 1) (heap_new w3 (.cells #[.int .i64 2, .string (bstr kg), .slice co A.length cc] 54) _ rfl) rfl (by simp [Value.oneCell'])); have T3 := Lib.hid (show w1.heap.size ≤ (w3.alloc (.cells #[.int .i64 2, .string (bstr kg), .slice co A.length cc] 54)).heap.size from by have := HBR.out.size; have := hb03.size; simp; omega); have T5 := Lib.hid (fun (v' : Value) (w4 : World) => allstep (v' := v') (w4 := w4) (kind := 2) HQ.out hb03 HBR.out.size hcs (hcl.mono (by have := HB2.out.size; simp; omega)) HKL.out); have HNW := Lib.hid hnf; have hb33 := hb3.size; clear hcs hcl hb3 hnf hb03 ha HC y1))
        all_goals
          obtain ⟨Q', hq', hqr', hb', _, hnf'⟩ := HA4.out
          have HNF := Lib.hid (hnf' HNW.out HNQ.out)
          clear hnf'
          have HX' := Lib.hid (hqr'.trans HX.out.symm)
          have HQ' := Lib.hid hq'
          have HB' := Lib.hid (HBR.out.trans hb')
          clear hq' hqr' hb' HX
          go_wp2
          go_roundw
          case rel => exact ⟨k + 1, Q', by omega, by go_num, HQ'.out, HX'.out, HB'.out, HNF.out⟩
          case measure => simp [intOf]; omega
    · obtain rfl : k = K.length := by omega
      have HE := Lib.hid (show K.take K.length = K from List.take_length)
      go_wp2
      go_ret
      exact ⟨_, Q, K, w1.heap.size, rfl, HB.out.size, HQ.out, HOK.out, HKN.out, by rw [HQR.out, HE.out], HB.out.trans (HBR.out.mono HB.out.size), HNQ.out⟩

theorem all_any (p b n : Nat) (room v : Int) (G : Told) (w : World) (h : Px w p b n room G) (hn : n ≤ 10000) (hG : SmallT G) :
    Calls Try.prog 22 #[.pointer (some ⟨p, 0, none⟩), .int .i64 v] w (RetAll G v n w) :=
  (all_own p b n room v G w h hn hG).mono fun _ _ ⟨r, Q, K, B, h1, h2, h3, h4, h5, h6, h7, _⟩ => ⟨r, Q, K, B, h1, h2, h3, h4, h5, h6, h7⟩
end Go.Proofs.Ytfloipdkhmgibaa

/- (*proxy.Proxy).Forget. -/
namespace Go.Proofs.Ytfloipdkhmgibaa
open Go.RowKit Go.Lib Go.Maps Go.Sort Go.Shelf
set_option maxRecDepth 20000

def cutT (G : Told) (K : List (Int × Str)) : Told := fun x => if x ∈ K then none else G x
theorem cutT_nil (G : Told) : cutT G [] = G := by funext x; simp [cutT]
theorem cutT_snoc (G : Told) (K : List (Int × Str)) (k : Int × Str) : delT (cutT G K) k = cutT G (K ++ [k]) := by
  funext x
  unfold delT cutT
  by_cases h1 : x = k
  · simp [h1]
  · by_cases h2 : x ∈ K <;> simp [h1, h2]
def forgetT (G : Told) (v : Int) : Told := fun k => if k.1 = v then none else G k
theorem cutT_all {G : Told} {v : Int} {K : List (Int × Str)} (h : OfK G v K) : cutT G K = forgetT G v := by
  funext x
  unfold cutT forgetT
  by_cases h1 : x.1 = v
  · rw [if_pos h1]
    by_cases h2 : x ∈ K
    · rw [if_pos h2]
    · rw [if_neg h2]
      cases hG : G x
      · rfl
      · exact absurd ((h.2 x).2 ⟨h1, by rw [hG]; simp⟩) h2
  · rw [if_neg h1, if_neg (fun h2 => h1 ((h.2 x).1 h2).1)]

theorem forget_nil (v : Int) (w : World) : Calls Try.prog 20 #[.pointer none, .int .i64 v] w fun e w' => e = .returned (.int .i64 0) ∧ Below w.heap.size w w' := by
  have HO := Lib.hid (of_nil v w)
  go_enter Try.func20, Try.ntmps20
  go_wp2_with ((with_reducible refine HO.out.mono ?_); rintro e w1 ⟨rfl, hb⟩; have HB := Lib.hid hb; clear hb HO)
  refine wp_loop_rounds 1 ?_
  rw [rounds_succ]
  go_wp2
  go_ret
  exact ⟨rfl, HB.out⟩

def RetForget (p b n : Nat) (room v : Int) (G : Told) (w : World) (e : Ending) (w' : World) : Prop := ∃ K, e = .returned (.int .i64 K.length) ∧ OfK G v K ∧ Px w' p b n room (forgetT G v) ∧ CKeep w w' ∧ w.grownBy w' (some b)

set_option maxHeartbeats 8000000 in
theorem forget_any (p b n : Nat) (room v : Int) (G : Told) (w : World) (h : Px w p b n room G) (hn : n ≤ 10000) :
    Calls Try.prog 20 #[.pointer (some ⟨p, 0, none⟩), .int .i64 v] w (RetForget p b n room v G w) := by
  have HO := Lib.hid (of_any p b n room v G w h (by omega))
  have HP := Lib.hid h
  clear h
  go_enter Try.func20, Try.ntmps20
  go_wp2_with ((with_reducible refine HO.out.mono ?_); rintro e w1 ⟨u, K, rfl, hk, hok, hkn, hb⟩; obtain ⟨uo, uc, rfl⟩ := hk.shape; have HK := Lib.hid hk; have HOK := Lib.hid hok; have HB := Lib.hid hb; have HKN := Lib.hid hkn; clear hk hok hb HO)
  have hkl : K.length ≤ 9223372036854775807 := by omega
  clear hkn
  go_loopw [13] (fun i wr => ∃ k, k ≤ K.length ∧ i = .int .i64 (k : Nat) ∧ Px wr p b n room (cutT G (K.take k)) ∧ CKeep w1 wr ∧ w1.grownBy wr (some b)) (fun i _ => K.length - (intOf i).toNat)
  case atStart => exact ⟨0, Nat.zero_le _, rfl, by rw [List.take_zero, cutT_nil]; exact HP.out.below HB.out, CKeep.refl _, World.grownBy.refl _ _⟩
  case round =>
    obtain ⟨k, hk, rfl, hpx, hck, hg⟩ := hrel
    have HPX := Lib.hid hpx; have HCK := Lib.hid hck; have HG := Lib.hid hg
    clear hpx hck hg
    by_cases hlt : k < K.length
    · obtain ⟨⟨kv, kg⟩, hkey⟩ : ∃ x : Int × Str, x = K.getD k default := ⟨_, rfl⟩
      obtain ⟨ub, uoff, _, hidx, hc⟩ := HK.out.facts
      obtain ⟨_, c0, c1⟩ := hc k hlt
      have hp := hidx k hlt
      rw [← hkey] at c0 c1
      have hmem : (kv, kg) ∈ K := by rw [hkey]; simp [List.getD_eq_getElem?_getD, hlt]
      have HSN := Lib.hid (show cutT G (K.take (k + 1)) = delT (cutT G (K.take k)) (kv, kg) from by rw [take_snoc K k hlt, cutT_snoc, hkey]; simp [List.getD_eq_getElem?_getD, hlt])
      have hk1 := (HOK.out.2 (kv, kg)).1 hmem
      have d0 := HCK.out.cell c0
      have d1 := HCK.out.cell c1
      dsimp only at d0 d1
      have hok : okK (kv, kg) := by
        obtain ⟨_, V, hV, hH⟩ := HP.out.parts
        refine hV.1 _ fun e => hk1.2 ?_
        have := hH (kv, kg)
        cases hG : G (kv, kg)
        · rfl
        · rw [hG] at this
          obtain ⟨v', e', _⟩ := this
          rw [e] at e'
          cases e'
      generalize cutT G (K.take k) = G' at HPX HSN
      obtain ⟨W1, hW1⟩ : ∃ W1, W1 = wr.alloc (.cells #[.int .i64 kv, .string (bstr kg)] 78) := ⟨_, rfl⟩
      have hb1 : Below wr.heap.size wr W1 := by rw [hW1]; exact (Below.refl _ _).alloc (Nat.le_refl _) _
      have k1 : CBox W1 wr.heap.size 78 #[.int .i64 kv, .string (bstr kg)] := by rw [hW1]; exact CBox.new _ rfl
      obtain ⟨hpx, V, hV, hH⟩ := (HPX.out.below hb1).parts
      have hd : Below W1.heap.size W1 W1.drew := Below.drew (Below.refl _ _)
      obtain ⟨w7, hrun, hv7, hg7⟩ := (hV.below hd hV.lt).drop Try.underlying71 (kv, kg) hok 0
      have hrun' : (Builtin.delete_ #[71, 78] 0 #[.map (some b), .agg #[.int .i64 kv, .string (bstr kg)]]).run Try.prog W1.drew = .ok (.tuple #[]) w7 := hrun
      replace hg7 := hg7.grown
      have hc7 : CKeep W1 w7 := (CKeep.of_below hd).trans (CKeep.of_map (hV.below hd hV.lt) hg7)
      have HX := Lib.hid (show Px w7 p b n room (delT G' (kv, kg)) from Px.of (hc7.box hpx) hv7 ((hH.keep hc7).del (kv, kg)))
      have HC7 := Lib.hid (HCK.out.trans ((CKeep.of_below hb1).trans hc7))
      have HG7 := Lib.hid (show w1.grownBy w7 (some b) from (grown_below HG.out (hb1.trans (hd.mono hb1.size))).trans hg7)
      obtain ⟨x1, _⟩ := hpx.at_ 1 _ rfl
      obtain ⟨y0, _⟩ := k1.at_ 0 _ rfl
      obtain ⟨y1, _⟩ := k1.at_ 1 _ rfl
      have HW1 := Lib.hid hW1
      clear hrun hkey hidx hc c0 c1 hmem hk1 hok hb1 k1 hpx hV hH hd hv7 hg7 hc7 hW1
      go_upto_region 5 with fail
      rw [← HW1.out]
      clear d0 d1 hp HW1
      go_region
      clear hrun' x1 y0 y1
      go_wp2
      go_roundw
      case rel => exact ⟨k + 1, by omega, by go_num, by rw [HSN.out]; exact HX.out, HC7.out, HG7.out⟩
      case measure => simp [intOf]; omega
    · obtain rfl : k = K.length := by omega
      have HE := Lib.hid (show cutT G (K.take K.length) = forgetT G v from by rw [List.take_length]; exact cutT_all HOK.out)
      go_wp2
      go_ret
      exact ⟨K, rfl, HOK.out, by rw [← HE.out]; exact HPX.out, (CKeep.of_below HB.out).trans HCK.out, (grown_below (World.grownBy.refl w (some b)) HB.out).trans HG.out⟩
end Go.Proofs.Ytfloipdkhmgibaa

/- siphonlaw21.live. -/
namespace Go.Proofs.Ytfloipdkhmgibaa
open Go.RowKit Go.Lib Go.Maps Go.Sort
set_option maxRecDepth 20000

def pA : Str := [97]
def pB : Str := [98]
def pOne : Str := [224, 1, 2, 3]
def pStates : List Stt := [(false, 0, [(pA, 9)]), (true, 9, [(pA, 0), (pB, 0)])]
theorem pbA : (⟨#[97]⟩ : ByteArray) = bstr pA := bstr_of _
theorem pbB : (⟨#[98]⟩ : ByteArray) = bstr pB := bstr_of _
theorem pbOne : (⟨#[224, 1, 2, 3]⟩ : ByteArray) = bstr pOne := bstr_of _
theorem plive_m : pmerge 5 pStates = (true, [pB]) := by decide +kernel
theorem plive_s : sasc [pB] = [pB] := by decide +kernel
theorem plive_d : pdiff pOne false [] true [pB] = [(4, pOne, [pB])] := by decide +kernel

theorem strs_one {w : World} {b : Nat} {x : Str} (h : w.heap[b]? = some (.cells #[encStr x] 44 (0, 0))) (hx : x.length ≤ maxLen) (c : Nat) : Strs w (.slice (some ⟨b, 0, none⟩) 1 c) [x] := by
  refine ⟨_, c, b, 0, rfl, .inr rfl, by simp, fun y hy => by rw [List.mem_singleton] at hy; subst hy; exact hx, fun k hk => ?_⟩
  obtain rfl : k = 0 := by simp at hk; omega
  exact ⟨(Array.getElem?_eq_some_iff.1 h).1, by simp [World.cell?, h]⟩

theorem tms_cells {w : World} {b : Nat} {cs : Array Value} {T : TypeId} (h : CBox w b T cs) (L : List Tmd) (n c : Nat) (hn : n = L.length) (hl : L.length ≤ 5864062014634) (hw : ∀ t ∈ L, t.1.length ≤ maxLen ∧ (Lit.int .i64 t.2).wf = true)
    (hc : ∀ k, k < L.length → cs[k * 2]? = some (.string (bstr (L.getD k default).1)) ∧ cs[k * 2 + 1]? = some (.int .i64 (L.getD k default).2)) : Tms w (.slice (some ⟨b, 0, none⟩) n c) L := by
  subst hn
  exact ⟨_, c, b, 0, rfl, .inr rfl, hl, hw, fun k hk => ⟨h.lt, by rw [Nat.zero_add]; exact (h.at_ _ _ (hc k hk).1).1, by rw [Nat.zero_add]; exact (h.at_ _ _ (hc k hk).2).1⟩⟩

theorem TKeys.none {L : List (Int × Str)} (h : TKeys (fun _ => none) L) : L = [] := List.eq_nil_iff_forall_not_mem.2 fun k hk => (h.2 k).1 hk rfl
theorem OfK.one {f : Bool × List Str} {k : Int × Str} {K : List (Int × Str)} (h : OfK (updT (fun _ => none) k f) k.1 K) : K = [k] := by
  have hm : ∀ x, x ∈ K ↔ x = k := fun x => by
    rw [h.2 x]
    unfold updT
    by_cases e : x = k
    · simp [e]
    · simp [e]
  have hn : K.Nodup := by
    refine h.1.imp fun {a b} q e => ?_
    rw [e] at q
    exact slt_irrefl _ q
  have := (List.perm_ext_iff_of_nodup hn (show [k].Nodup from by simp)).2 fun x => (hm x).trans List.mem_singleton.symm
  exact List.perm_singleton.1 this

theorem live_states (w : World) : ∀ W0, W0 = ((((w.alloc (.cells #[.string ⟨#[97]⟩, .int .i64 9] 65)).alloc (.cells #[.bool false, .int .i64 0, .slice (some ⟨w.heap.size, 0, none⟩) 1 1] 32)).alloc (.cells #[.string ⟨#[97]⟩, .int .i64 0, .string ⟨#[98]⟩, .int .i64 0] 65)).alloc (.cells #[.bool true, .int .i64 9, .slice (some ⟨w.heap.size + 1 + 1, 0, none⟩) 2 2] 32)).alloc (.cells #[.bool false, .int .i64 0, .slice (some ⟨w.heap.size, 0, none⟩) 1 1, .bool true, .int .i64 9, .slice (some ⟨w.heap.size + 1 + 1, 0, none⟩) 2 2] 32) →
    Below w.heap.size w W0 ∧ Sts W0 (.slice (some ⟨w.heap.size + 1 + 1 + 1 + 1, 0, none⟩) 2 2) pStates := by
  intro W0 hW0
  have a0 : CBox W0 w.heap.size 65 #[.string ⟨#[97]⟩, .int .i64 9] := by rw [hW0]; exact ((((CBox.new _ rfl).old _).old _).old _).old _
  have a2 : CBox W0 (w.heap.size + 1 + 1) 65 #[.string ⟨#[97]⟩, .int .i64 0, .string ⟨#[98]⟩, .int .i64 0] := by rw [hW0]; exact ((CBox.new _ (by simp)).old _).old _
  have a4 : CBox W0 (w.heap.size + 1 + 1 + 1 + 1) 32 #[.bool false, .int .i64 0, .slice (some ⟨w.heap.size, 0, none⟩) 1 1, .bool true, .int .i64 9, .slice (some ⟨w.heap.size + 1 + 1, 0, none⟩) 2 2] := by rw [hW0]; exact CBox.new _ (by simp)
  have hb : Below w.heap.size w W0 := by rw [hW0]; exact (((((Below.refl _ _).alloc (Nat.le_refl _) _).alloc (by simp) _).alloc (by simp <;> omega) _).alloc (by simp <;> omega) _).alloc (by simp <;> omega) _
  have t0 : Tms W0 (.slice (some ⟨w.heap.size, 0, none⟩) 1 1) [(pA, 9)] := by
    refine tms_cells a0 _ 1 1 rfl (by simp) (by decide) fun k hk => ?_
    obtain rfl : k = 0 := by simp at hk; omega
    exact ⟨by simp [pA, bstr], by simp⟩
  have t2 : Tms W0 (.slice (some ⟨w.heap.size + 1 + 1, 0, none⟩) 2 2) [(pA, 0), (pB, 0)] := by
    refine tms_cells a2 _ 2 2 rfl (by simp) (by decide) fun k hk => ?_
    have hk' : k = 0 ∨ k = 1 := by simp at hk; omega
    rcases hk' with rfl | rfl <;> exact ⟨by simp [pA, pB, bstr], by simp⟩
  refine ⟨hb, _, 2, w.heap.size + 1 + 1 + 1 + 1, 0, fun k => if k = 0 then .slice (some ⟨w.heap.size, 0, none⟩) 1 1 else .slice (some ⟨w.heap.size + 1 + 1, 0, none⟩) 2 2, rfl, .inr rfl, by decide, fun k hk => ?_⟩
  have hk' : k = 0 ∨ k = 1 := by simp [pStates] at hk; omega
  rcases hk' with rfl | rfl
  · exact ⟨a4.lt, (a4.at_ 0 _ rfl).1, (a4.at_ 1 _ rfl).1, (a4.at_ 2 _ rfl).1, t0, rfl⟩
  · exact ⟨a4.lt, (a4.at_ 3 _ rfl).1, (a4.at_ 4 _ rfl).1, (a4.at_ 5 _ rfl).1, t2, rfl⟩

set_option maxHeartbeats 4000000 in
theorem live_yes (w : World) : Calls Try.prog 10 #[] w fun e w' => e = .returned (.bool true) ∧ Below w.heap.size w w' := by
  have hz : ∀ w, (zeroValue 28).run Try.prog w = .ok (.agg #[.bool false, .slice none 0 0]) w := fun w => Try.zeroValue28 w
  obtain ⟨W0, hW0⟩ : ∃ W0, W0 = ((((w.alloc (.cells #[.string ⟨#[97]⟩, .int .i64 9] 65)).alloc (.cells #[.bool false, .int .i64 0, .slice (some ⟨w.heap.size, 0, none⟩) 1 1] 32)).alloc (.cells #[.string ⟨#[97]⟩, .int .i64 0, .string ⟨#[98]⟩, .int .i64 0] 65)).alloc (.cells #[.bool true, .int .i64 9, .slice (some ⟨w.heap.size + 1 + 1, 0, none⟩) 2 2] 32)).alloc (.cells #[.bool false, .int .i64 0, .slice (some ⟨w.heap.size, 0, none⟩) 1 1, .bool true, .int .i64 9, .slice (some ⟨w.heap.size + 1 + 1, 0, none⟩) 2 2] 32) := ⟨_, rfl⟩
  obtain ⟨hb0, hsts⟩ := live_states w W0 hW0
  have HM := Lib.hid (merge_any _ pStates 5 W0 hsts (by decide) (by decide))
  rw [plive_m] at HM
  have HB0 := Lib.hid hb0; have HW0 := Lib.hid hW0
  clear hb0 hsts hW0
  go_enter Try.func10, Try.ntmps10
  go_upto_region 4 with ((rw [← HW0.out]); (with_reducible refine HM.out.mono ?_); rintro e w1 ⟨fv, rfl, hfs, hb1, hfl⟩; obtain ⟨fo, fc, hfe⟩ := hfs.shape; rw [show [pB].length = 1 from rfl] at hfe; subst hfe; have HB1 := Lib.hid (HB0.out.trans (hb1.mono HB0.out.size)); have HFS := Lib.hid hfs; clear hb1 hfs hfl HM HW0 HB0)
  obtain ⟨W1, hW1⟩ : ∃ W1, W1 = w1.alloc (.cells #[.bool true, .slice fo 1 fc] 28) := ⟨_, rfl⟩
  have hb1 : Below w1.heap.size w1 W1 := by rw [hW1]; exact (Below.refl _ _).alloc (Nat.le_refl _) _
  have F1 := Lib.hid (show CBox W1 w1.heap.size 28 #[.bool true, .slice fo 1 fc] from by rw [hW1]; exact CBox.new _ rfl)
  have FS := Lib.hid (HFS.out.mono hb1)
  have B1 := Lib.hid (HB1.out.trans (hb1.mono HB1.out.size))
  have HN := Lib.hid (new_yes 9 W1 (by decide) (by decide))
  rw [← hW1]
  clear hb1 hW1 HFS HB1
  go_wp2_with fail
  refine HN.out.mono ?_
  rintro e w2 ⟨p, b, rfl, hpx, _, hbb, _, hb2⟩
  have HBB := Lib.hid (Nat.le_trans B1.out.size hbb)
  have F2 := Lib.hid (F1.out.below hb2 F1.out.lt); have FS2 := Lib.hid (FS.out.mono hb2); have B2 := Lib.hid (B1.out.trans (hb2.mono B1.out.size)); have PX := Lib.hid hpx
  clear hb2 hpx HN F1 FS B1
  obtain ⟨x0, _⟩ := F2.out.at_ 0 _ rfl
  obtain ⟨x1, _⟩ := F2.out.at_ 1 _ rfl
  have HT := Lib.hid (show Calls Try.prog 17 #[.pointer (some ⟨p, 0, none⟩), .int .i64 1, .string ⟨#[224, 1, 2, 3]⟩, .agg #[.bool true, .slice fo 1 fc]] w2 _ from by
    rw [pbOne]
    exact tell_put2 p b 0 9 1 pOne true _ [pB] _ w2 PX.out (by omega) (by omega) (by omega) (by decide) FS2.out (by decide) (fun _ _ h => by cases h) (by decide) rfl (fun L hL => by rw [hL.none]; decide))
  go_wp2_with fail
  refine HT.out.mono ?_
  rintro e w3 hr
  obtain ⟨rv, he, hrv, hpx, hck, hgr⟩ := hr
  dsimp only at he hrv hpx
  subst he
  have hrv' : Recs w3 rv [(4, pOne, [pB])] := by
    rw [plive_s] at hrv
    rw [← plive_d]
    exact hrv
  obtain ⟨G, hG⟩ : ∃ G, G = updT (fun _ => none) (1, pOne) (true, [pB]) := ⟨_, rfl⟩
  rw [plive_s, ← hG] at hpx
  have HG1 := Lib.hid (show ∀ K, OfK G 1 K → K = [(1, pOne)] from fun K hK => OfK.one (k := (1, pOne)) (f := (true, [pB])) (by rw [← hG]; exact hK))
  have HG2 := Lib.hid (show recT G (1, pOne) = (2, pOne, [pB]) from by rw [hG]; decide)
  have HG3 := Lib.hid (show SmallT G from by rw [hG]; exact SmallT.upd (fun _ _ h => by cases h) _ _ (by decide))
  have F3 := Lib.hid (hck.box F2.out); have FS3 := Lib.hid (hck.strs FS2.out); have PX3 := Lib.hid hpx; have RV := Lib.hid hrv'
  have B3 := Lib.hid (B2.out.grown hgr B2.out.size (fun k e => by injection e with e; subst e; exact HBB.out))
  clear hrv hrv' hpx hck hgr HT x0 x1 F2 FS2 B2 PX hG
  have HA := Lib.hid (all_any p b 1 9 1 G w3 PX3.out (by omega) HG3.out)
  go_wp2_with fail
  refine HA.out.mono ?_
  rintro e w4 ⟨r, Q, K, _, rfl, _, hq, hok, _, hqr, hb4⟩
  have hR : Recs w4 r [(2, pOne, [pB])] := by
    have hk := HG1.out K hok
    have h1 := hq.recs (by rw [show Q.length = (K.map (recT G)).length from by rw [← hqr]; simp]; rw [hk]; simp)
    rw [hqr, hk] at h1
    simpa [HG2.out] using h1
  have F4 := Lib.hid (F3.out.below hb4 F3.out.lt); have FS4 := Lib.hid (FS3.out.mono hb4); have RV4 := Lib.hid (RV.out.mono hb4); have R4 := Lib.hid hR; have PX4 := Lib.hid (PX3.out.below hb4); have B4 := Lib.hid (B3.out.trans (hb4.mono B3.out.size))
  clear hq hok hqr hb4 hR HA F3 FS3 RV PX3 B3
  obtain ⟨W5, hW5⟩ : ∃ W5, W5 = w4.alloc (.cells #[.string ⟨#[98]⟩] 44) := ⟨_, rfl⟩
  have hb5 : Below w4.heap.size w4 W5 := by rw [hW5]; exact (Below.refl _ _).alloc (Nat.le_refl _) _
  have hs5 : Strs W5 (.slice (some ⟨w4.heap.size, 0, none⟩) 1 1) [pB] := by rw [hW5]; exact strs_one (heap_new _ _ _ rfl) (by decide) _
  have HS := Lib.hid (psame_yes true true _ _ [pB] [pB] W5 (FS4.out.mono hb5) hs5 rfl rfl)
  have HB5 := Lib.hid hb5
  obtain ⟨x0, _⟩ := F4.out.at_ 0 _ rfl
  obtain ⟨x1, _⟩ := F4.out.at_ 1 _ rfl
  rw [hW5] at HS
  have HW5 := Lib.hid hW5
  clear hb5 hs5 hW5
  go_wp2_with fail
  refine HS.out.mono ?_
  rintro e w6 ⟨rfl, hb6⟩
  rw [← HW5.out] at hb6
  have hb46 := HB5.out.trans (hb6.mono HB5.out.size)
  obtain ⟨rb, roff, _, _, rlen, rix, rc⟩ := (RV4.out.mono hb46).facts
  obtain ⟨ab, aoff, _, _, alen, aix, ac⟩ := (R4.out.mono hb46).facts
  obtain ⟨_, rc0, _⟩ := rc 0 (by decide)
  obtain ⟨_, ac0, _⟩ := ac 0 (by decide)
  have rix' : ∀ w', (Instr.indexAt 47 rv (.int .i64 0)).run Try.prog w' = .ok (.pointer (some ⟨rb, roff, none⟩)) w' := rix 0 (by decide)
  have aix' : ∀ w', (Instr.indexAt 47 r (.int .i64 0)).run Try.prog w' = .ok (.pointer (some ⟨ab, aoff, none⟩)) w' := aix 0 (by decide)
  have rlen' : ∀ ty w', (Builtin.len_ #[47] ty #[rv]).run Try.prog w' = .ok (.int .i64 1) w' := rlen
  have alen' : ∀ ty w', (Builtin.len_ #[47] ty #[r]).run Try.prog w' = .ok (.int .i64 1) w' := alen
  have rc1 : w6.cell? ⟨rb, roff, none⟩ = some (.int .i64 4) := rc0
  have ac1 : w6.cell? ⟨ab, aoff, none⟩ = some (.int .i64 2) := ac0
  clear rix aix rlen alen rc0 ac0
  have PX6 := Lib.hid (PX4.out.below hb46); have B6 := Lib.hid (B4.out.trans (hb46.mono B4.out.size))
  have HF := Lib.hid (forget_any p b 1 9 1 G w6 PX6.out (by omega))
  clear hb6 hb46 rc ac x0 x1 HS HW5 HB5 F4 FS4 RV4 R4 PX4 B4
  go_wp2_with fail
  refine HF.out.mono ?_
  rintro e w7 ⟨K, rfl, hok, _, _, hgr⟩
  have hK : (K.length : Int) = 1 := by rw [HG1.out K hok]; rfl
  have B7 := Lib.hid (B6.out.grown hgr B6.out.size (fun k e => by injection e with e; subst e; exact HBB.out))
  rw [hK]
  clear hok hgr hK HF
  go_wp2_with fail
  go_ret
  exact ⟨rfl, B7.out⟩
end Go.Proofs.Ytfloipdkhmgibaa
