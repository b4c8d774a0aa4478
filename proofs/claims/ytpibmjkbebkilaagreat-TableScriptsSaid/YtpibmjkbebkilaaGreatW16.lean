/- Texts joined into one file: GStep, GRapp, GRexp. -/
import Derived.Test.YtpibmjkbebkilaaGreatW15
import Derived.Test.YtpibmjkbebkilaaGreatW14
import Derived.Test.YtpibmjkbebkilaaGreatW12
import Derived.Test.YtpibmjkbebkilaaGreatW13

namespace Go.Proofs.YtpibmjkbebkilaaGreat
open Go.RowKit Go.Lib Go.Maps Go.Sort
set_option maxRecDepth 20000

def RetStep (w : World) (ex : Bool) (at' : Int) (F : Str → Option Int) (g : Bool) (q : Str → Bool) (e : Ending) (w' : World) : Prop :=
 ∃ v L u R, e = .returned (.tuple #[.agg #[.bool ex, .int .i64 at', v], .agg #[.bool g, u]]) ∧ Tms w' v L ∧ Asc F L ∧ Strs w' u R ∧ Rises q R ∧ R.length ≤ 60 ∧ Below w.heap.size w w'
theorem RetSA.step {w : World} {ex : Bool} {at' : Int} {F : Str → Option Int} {g : Bool} {R : List Str} {q : Str → Bool} {e : Ending} {w' : World} (h : RetSA w ex at' F g R e w') (hR : Rises q R) (hl : R.length ≤ 60) : RetStep w ex at' F g q e w' := by
 obtain ⟨v, L, u, h1, h2, h3, h4, h5⟩ := h
 exact ⟨v, L, u, R, h1, h2, h3, h4, hR, hl, h5⟩

theorem rsome_in (v : Value) (L : List Tmd) {F : Str → Option Int} (kind : Int) (rv : Value) (C : List Str) (m : Int) (w : World) (hk1 : 1 ≤ kind) (hk2 : kind ≤ 6) (h : Tms w v L) (hA : Asc F L) (hg : GoodF false F) (hr : Strs w rv C) (hL : L.length ≤ 60) (hC : C.length ≤ 60) (hm : (Lit.int .i64 m).wf = true) :
 Calls Tryz.prog 64 #[.agg #[.bool false, .int .i64 0, v], .int .i64 kind, rv, .int .i64 m] w (RetStep w (inEx kind false) (inAt kind 0 m) (inF kind false 0 F C m) (inG kind false) (fun a => inQ kind false 0 F C m a)) := by
 have n1 := nmL_len L false
 rcases kind_six hk1 hk2 with rfl | rfl | rfl | rfl | rfl | rfl
 · exact (some_1 false 0 v L rv C m w h hA hr hL hC hm).mono fun e w' hs => by rw [plain_some_in hA hg] at hs; simpa [inEx, inAt, inF, inG, inQ] using hs.step (q := fun _ => false) ⟨List.Pairwise.nil, by simp⟩ (by simp)
 · exact (some_2 false 0 v L rv C m w h hA hr hL hC hm).mono fun e w' hs => by rw [plain_some_ex hA hg] at hs; simpa [inEx, inAt, inF, inG, inQ, freshOf] using hs.step (q := fun _ => false) ⟨List.Pairwise.nil, by simp⟩ (by simp)
 · exact (some_3 false 0 v L rv C m w h hA hr hL hC hm).mono fun e w' hs => by rw [plain_some_in hA hg] at hs; simpa [inEx, inAt, inF, inG, inQ] using hs.step (ask_in hA) (Nat.le_trans (lessF_len _ _) (by omega))
 · exact (some_4 false 0 v L rv C m w h hA hr hL hC hm).mono fun e w' hs => by rw [plain_some_ex hA hg] at hs; simpa [inEx, inAt, inF, inG, inQ, freshOf] using hs.step (ask_ex hA) (Nat.le_trans (bothL_len _ _) (by omega))
 · exact (some_5 false 0 v L rv C m w h hA hr hL hC hm).mono fun e w' hs => by rw [plain_some_in hA hg] at hs; simpa [inEx, inAt, inF, inG, inQ] using hs.step (q := fun _ => false) ⟨List.Pairwise.nil, by simp⟩ (by simp)
 · exact (some_6 false 0 v L rv C m w h hA hr hL hC hm).mono fun e w' hs => by rw [plain_keep hA hg] at hs; simpa [inEx, inAt, inF, inG, inQ] using hs.step (ask_block hA) (Nat.le_trans (bothL_len _ _) (by omega))

theorem rsome_any (ex : Bool) (at' : Int) (v : Value) (L : List Tmd) {F : Str → Option Int} (kind : Int) (rv : Value) (C : List Str) (m : Int) (w : World) (hk1 : 1 ≤ kind) (hk2 : kind ≤ 6) (h : Tms w v L) (hA : Asc F L) (hr : Strs w rv C) (hL : L.length ≤ 60) (hC : C.length ≤ 60) (hm : (Lit.int .i64 m).wf = true) :
 Calls Tryz.prog 64 #[.agg #[.bool ex, .int .i64 at', v], .int .i64 kind, rv, .int .i64 m] w (fun e w' => ∃ x a F' g R v L u, e = .returned (.tuple #[.agg #[.bool x, .int .i64 a, v], .agg #[.bool g, u]]) ∧ Tms w' v L ∧ Asc F' L ∧ Strs w' u R ∧ Below w.heap.size w w') := by
 rcases kind_six hk1 hk2 with rfl | rfl | rfl | rfl | rfl | rfl
 · exact (some_1 ex at' v L rv C m w h hA hr hL hC hm).mono fun e w' hs => ⟨_, _, _, _, _, hs⟩
 · exact (some_2 ex at' v L rv C m w h hA hr hL hC hm).mono fun e w' hs => ⟨_, _, _, _, _, hs⟩
 · exact (some_3 ex at' v L rv C m w h hA hr hL hC hm).mono fun e w' hs => ⟨_, _, _, _, _, hs⟩
 · exact (some_4 ex at' v L rv C m w h hA hr hL hC hm).mono fun e w' hs => ⟨_, _, _, _, _, hs⟩
 · exact (some_5 ex at' v L rv C m w h hA hr hL hC hm).mono fun e w' hs => ⟨_, _, _, _, _, hs⟩
 · exact (some_6 ex at' v L rv C m w h hA hr hL hC hm).mono fun e w' hs => ⟨_, _, _, _, _, hs⟩

theorem rbut_in (at' : Int) (v : Value) (L : List Tmd) {F : Str → Option Int} (kind : Int) (rv : Value) (C : List Str) (m : Int) (w : World) (hk1 : 1 ≤ kind) (hk2 : kind ≤ 6) (h : Tms w v L) (hA : Asc F L) (h1 : 1 ≤ at') (hr : Strs w rv C) (hL : L.length ≤ 60) (hC : C.length ≤ 60) (hm : (Lit.int .i64 m).wf = true) (ha : (Lit.int .i64 at').wf = true) :
 Calls Tryz.prog 65 #[.agg #[.bool true, .int .i64 at', v], .int .i64 kind, rv, .int .i64 m] w (RetStep w (inEx kind true) (inAt kind at' m) (inF kind true at' F C m) (inG kind true) (fun a => inQ kind true at' F C m a)) := by
 have n1 := nmL_len L false
 have n2 := nmL_len L true
 rcases kind_six hk1 hk2 with rfl | rfl | rfl | rfl | rfl | rfl
 · exact (but_1 true at' v L rv C m w h hA hr hL hC hm ha).mono fun e w' hs => by rw [plain_but_in hA] at hs; simpa [inEx, inAt, inF, inG, inQ] using hs.step (q := fun _ => false) ⟨List.Pairwise.nil, by simp⟩ (by simp)
 · exact (but_2 true at' v L rv C m w h hA hr hL hC hm ha).mono fun e w' hs => by rw [plain_but_ex hA] at hs; simpa [inEx, inAt, inF, inG, inQ, freshOf] using hs.step (q := fun _ => false) ⟨List.Pairwise.nil, by simp⟩ (by simp)
 · exact (but_3 true at' v L rv C m w h hA hr hL hC hm ha).mono fun e w' hs => by rw [plain_but_in hA] at hs; simpa [inEx, inAt, inF, inG, inQ] using hs.step (ask_in hA) (Nat.le_trans (lessF_len _ _) (by omega))
 · exact (but_4 true at' v L rv C m w h hA hr hL hC hm ha).mono fun e w' hs => by rw [plain_but_to hA] at hs; simpa [inEx, inAt, inF, inG, inQ, freshOf] using hs.step (ask_to hA h1) (Nat.le_trans (lessF_len _ _) (by omega))
 · exact (but_5 true at' v L rv C m w h hA hr hL hC hm ha).mono fun e w' hs => by rw [plain_but_in hA] at hs; simpa [inEx, inAt, inF, inG, inQ] using hs.step (q := fun _ => false) ⟨List.Pairwise.nil, by simp⟩ (by simp)
 · exact (but_6 true at' v L rv C m w h hA hr hL hC hm ha).mono fun e w' hs => by rw [plain_but_block hA] at hs; simpa [inEx, inAt, inF, inG, inQ] using hs.step (ask_blk hA) (Nat.le_trans (lessF_len _ _) (by omega))

def RetRapp (w : World) (ex : Bool) (at' : Int) (L : List Tmd) (kind : Int) (S : List Str) (n : Nat) (now mem last : Int) (e : Ending) (w' : World) : Prop :=
 Below w.heap.size w w' ∧
 ((verdict (pcheck ex at' L) kind n now mem last ≠ 0 ∧ e = .returned (.tuple #[noState, .bool false, noAsk, .int .i64 (verdict (pcheck ex at' L) kind n now mem last)])) ∨
  (verdict (pcheck ex at' L) kind n now mem last = 0 ∧ ∃ M : List Tmd, Asc (inF kind ex at' (rd L) S (now + mem)) M ∧
    ((60 < M.length ∧ e = .returned (.tuple #[noState, .bool false, noAsk, .int .i64 1])) ∨
     (M.length ≤ 60 ∧ (inEx kind ex = false ∧ M = []) ∧ e = .returned (.tuple #[noState, .bool false, noAsk, .int .i64 0])) ∨
     (M.length ≤ 60 ∧ ¬ (inEx kind ex = false ∧ M = []) ∧ ∃ v L' u R, e = .returned (.tuple #[.agg #[.bool (inEx kind ex), .int .i64 (if inG kind ex then min (inAt kind at' (now + mem)) (now + last) else inAt kind at' (now + mem)), v], .bool true, .agg #[.bool (inG kind ex), u], .int .i64 0]) ∧
       Tms w' v L' ∧ Strs w' u R ∧ Rises (fun a => inQ kind ex at' (rd L) S (now + mem) a) R ∧ Asc (soonF (inF kind ex at' (rd L) S (now + mem)) R (now + last)) L'))))

theorem rcheck_no (ex : Bool) (at' : Int) (v : Value) (L : List Tmd) (w : World) (h : Tms w v L) (hp : pcheck ex at' L = false) :
 Calls Tryz.prog 61 #[.agg #[.bool ex, .int .i64 at', v]] w fun e w' => e = .returned (.int .i64 3) ∧ Below w.heap.size w w' := by
 have := rcheck_any ex at' v L w h
 rwa [hp] at this
theorem rcheck_yes (ex : Bool) (at' : Int) (v : Value) (L : List Tmd) (w : World) (h : Tms w v L) (hp : pcheck ex at' L = true) :
 Calls Tryz.prog 61 #[.agg #[.bool ex, .int .i64 at', v]] w fun e w' => e = .returned (.int .i64 0) ∧ Below w.heap.size w w' := by
 have := rcheck_any ex at' v L w h
 rwa [hp] at this
theorem CBox.inv {w : World} {b : Nat} {T : TypeId} {cs : Array Value} (h : CBox w b T cs) {i : Nat} {u : Value} (hc : w.cell? ⟨b, i, none⟩ = some u) : cs[i]? = some u := by
 have h' : w.heap[b]? = some (.cells cs T (0, 0)) := h
 simpa [World.cell?, h'] using hc
theorem Tms.ne_box {w : World} {v : Value} {L : List Tmd} {b : Nat} {T : TypeId} {cs : Array Value} (h : Tms w v L) (hb : CBox w b T cs) (hs : ∀ (i : Nat) (s : ByteArray), cs[i]? ≠ some (Value.string s)) : L ≠ [] → ∀ c, v.ownBlock = some c → c ≠ b := by
 intro hL c e he
 subst he
 obtain ⟨ao, cap, d, off, rfl, h0, h1, h2, h3⟩ := h
 rcases h0 with h0 | rfl
 · exact absurd h0 hL
 · obtain ⟨_, q, _⟩ := h3 0 (List.length_pos_iff.2 hL)
   simp [Value.ownBlock] at e
   subst e
   exact hs _ _ (hb.inv q)
theorem Strs.ne_box {w : World} {v : Value} {L : List Str} {b : Nat} {T : TypeId} {cs : Array Value} (h : Strs w v L) (hb : CBox w b T cs) (hs : ∀ (i : Nat) (s : ByteArray), cs[i]? ≠ some (Value.string s)) : L ≠ [] → ∀ c, v.ownBlock = some c → c ≠ b := by
 intro hL c e he
 subst he
 obtain ⟨ao, cap, d, off, rfl, h0, h1, h2, h3⟩ := h
 rcases h0 with h0 | rfl
 · exact absurd h0 hL
 · obtain ⟨_, q⟩ := h3 0 (List.length_pos_iff.2 hL)
   simp [Value.ownBlock] at e
   subst e
   exact hs _ _ (hb.inv q)
theorem ns3 (a : Bool) (z : Int) (o : Option Addr) (n c : Nat) : ∀ (i : Nat) (s : ByteArray), (#[.bool a, .int .i64 z, .slice o n c] : Array Value)[i]? ≠ some (Value.string s) := by
 intro i s
 match i with
 | 0 => simp
 | 1 => simp
 | 2 => simp
 | _ + 3 => simp
theorem ns2 (a : Bool) (o : Option Addr) (n c : Nat) : ∀ (i : Nat) (s : ByteArray), (#[.bool a, .slice o n c] : Array Value)[i]? ≠ some (Value.string s) := by
 intro i s
 match i with
 | 0 => simp
 | 1 => simp
 | _ + 2 => simp
theorem soon_nil {F : Str → Option Int} {Q : List Str} {z : Int} {M M' : List Tmd} (h : Asc F M) (h' : Asc (soonF F Q z) M') : M = [] ↔ M' = [] := by
 have : M.map Prod.fst = M'.map Prod.fst := keys_unique h.1 ⟨h'.1.1, fun a => by rw [h'.1.2, Ne, Ne, soonF_keys]⟩
 have h2 := congrArg List.length this
 rw [List.length_map, List.length_map] at h2
 rw [← List.length_eq_zero_iff, ← List.length_eq_zero_iff, h2]
theorem bn_own (a : Nat) : (a + 1 ≠ a ∧ a + 1 + 1 ≠ a ∧ a + 1 + 1 + 1 ≠ a) := by omega
theorem bn_far {a b : Nat} (h : a + 1 + 1 + 1 < b) : (a ≠ b ∧ a + 1 ≠ b ∧ a + 1 + 1 ≠ b ∧ a + 1 + 1 + 1 ≠ b) ∧ (a ≠ b + 1 ∧ a + 1 ≠ b + 1 ∧ a + 1 + 1 ≠ b + 1 ∧ a + 1 + 1 + 1 ≠ b + 1) ∧ (b + 1 ≠ b ∧ b ≠ b + 1) ∧ (a ≤ b ∧ a ≤ b + 1) := by omega
theorem pcheck_nil : pcheck false 0 [] = true := rfl
theorem rmay_yes (now mem last : Int) (w : World) (m : Bool) (h : may now mem last = m) :
 Calls Tryz.prog 62 #[.int .i64 now, .int .i64 mem, .int .i64 last] w fun e w' => e = .returned (.bool m) ∧ w' = w := by
 have := rmay_any now mem last w
 rwa [h] at this

set_option maxRecDepth 20000 in
set_option maxHeartbeats 24000000 in
theorem rapply_any (ex : Bool) (at' : Int) (v : Value) (L : List Tmd) (is : Bool) (kind : Int) (g : ByteArray) (rv : Value) (C : List Str) (now mem last : Int) (w : World) (h : Tms w v L) (hr : Strs w rv C) (wa : (Lit.int .i64 at').wf = true) :
 Calls Tryz.prog 38 #[.agg #[.bool ex, .int .i64 at', v], .bool is, .agg #[.int .i64 kind, .string g, rv], .int .i64 now, .int .i64 mem, .int .i64 last] w
  (RetRapp w (is && ex) (if is then at' else 0) (if is then L else []) kind (sasc C) C.length now mem last) := by
 obtain ⟨vo, vc, rfl⟩ := h.shape
 obtain ⟨ro, rc, rfl⟩ := hr.shape
 have HB := Lib.hid (Below.refl w.heap.size w)
 have TL := Lib.hid h
 have SC := Lib.hid hr
 have HWA := Lib.hid wa
 clear h hr wa
 have hba : Below w.heap.size w ((((w.alloc (.cells #[.bool ex, .int .i64 at', .slice vo L.length vc] 71)).alloc (.cells #[.int .i64 kind, .string g, .slice ro C.length rc] 39)).alloc (.cells #[.bool false, .int .i64 0, .slice none 0 0] 71)).alloc (.cells #[.bool false, .slice none 0 0] 59)) := (((((Below.refl _ _).alloc (Nat.le_refl _) _).alloc (by simp <;> omega) _).alloc (by simp <;> omega) _).alloc (by simp <;> omega) _)
 replace TL := Lib.hid (TL.out.mono hba)
 replace SC := Lib.hid (SC.out.mono hba)
 replace HB := Lib.hid (HB.out.trans (hba.mono HB.out.size))
 have Xs := Lib.hid (show CBox ((((w.alloc (.cells #[.bool ex, .int .i64 at', .slice vo L.length vc] 71)).alloc (.cells #[.int .i64 kind, .string g, .slice ro C.length rc] 39)).alloc (.cells #[.bool false, .int .i64 0, .slice none 0 0] 71)).alloc (.cells #[.bool false, .slice none 0 0] 59)) (w.heap.size) 71 #[.bool ex, .int .i64 at', .slice vo L.length vc] from ((((CBox.new _ (by simp)).old _).old _).old _))
 have Xc := Lib.hid (show CBox ((((w.alloc (.cells #[.bool ex, .int .i64 at', .slice vo L.length vc] 71)).alloc (.cells #[.int .i64 kind, .string g, .slice ro C.length rc] 39)).alloc (.cells #[.bool false, .int .i64 0, .slice none 0 0] 71)).alloc (.cells #[.bool false, .slice none 0 0] 59)) (w.heap.size + 1) 39 #[.int .i64 kind, .string g, .slice ro C.length rc] from (((CBox.new _ (by simp)).old _).old _))
 have Xo := Lib.hid (show CBox ((((w.alloc (.cells #[.bool ex, .int .i64 at', .slice vo L.length vc] 71)).alloc (.cells #[.int .i64 kind, .string g, .slice ro C.length rc] 39)).alloc (.cells #[.bool false, .int .i64 0, .slice none 0 0] 71)).alloc (.cells #[.bool false, .slice none 0 0] 59)) (w.heap.size + 1 + 1) 71 #[.bool false, .int .i64 0, .slice none 0 0] from ((CBox.new _ (by simp)).old _))
 have Xk := Lib.hid (show CBox ((((w.alloc (.cells #[.bool ex, .int .i64 at', .slice vo L.length vc] 71)).alloc (.cells #[.int .i64 kind, .string g, .slice ro C.length rc] 39)).alloc (.cells #[.bool false, .int .i64 0, .slice none 0 0] 71)).alloc (.cells #[.bool false, .slice none 0 0] 59)) (w.heap.size + 1 + 1 + 1) 59 #[.bool false, .slice none 0 0] from (CBox.new _ (by simp)))
 clear hba
 obtain ⟨W0, hW0⟩ : ∃ W0, W0 = ((((w.alloc (.cells #[.bool ex, .int .i64 at', .slice vo L.length vc] 71)).alloc (.cells #[.int .i64 kind, .string g, .slice ro C.length rc] 39)).alloc (.cells #[.bool false, .int .i64 0, .slice none 0 0] 71)).alloc (.cells #[.bool false, .slice none 0 0] 59)) := ⟨_, rfl⟩
 rw [← hW0] at HB TL SC Xs Xc Xo Xk
 have HW0 := Lib.hid (show w.heap.size + 1 + 1 + 1 < W0.heap.size from Xk.out.lt)
 cases is
 · have HVP := Lib.hid pcheck_nil
   have HRW := Lib.hid hW0; clear hW0
   go_enter Tryz.func38, Tryz.ntmps38
   go_wp2_with fail
   rw [← HRW.out]
   clear HRW
   have HD1 := Lib.hid (show decide (kind < 1) = true ↔ kind < 1 from decide_eq_true_iff)
   cases hm : may now mem last
   · have HM := Lib.hid (fun W => rmay_yes now mem last W false hm)
     have hv : verdict true kind C.length now mem last = 1 := by simp [verdict, hm]
     have x1 := (Xc.out.at_ 0 (.int .i64 kind) rfl).1
     have x2 := (Xc.out.at_ 1 (.string g) rfl).1
     have x3 := (Xc.out.at_ 2 (.slice ro C.length rc) rfl).1
     have HV := Lib.hid hv; clear hv
     obtain ⟨x4, f4⟩ := Xo.out.at_ 0 (.bool false) rfl
     obtain ⟨x5, f5⟩ := Xo.out.at_ 1 (.int .i64 0) rfl
     obtain ⟨x6, f6⟩ := Xo.out.at_ 2 (.slice none 0 0) rfl
     obtain ⟨x7, f7⟩ := Xk.out.at_ 0 (.bool false) rfl
     obtain ⟨x8, f8⟩ := Xk.out.at_ 1 (.slice none 0 0) rfl
     go_wp2_with ((with_reducible refine (HM.out _).mono ?_); rintro e w2 ⟨rfl, hw2⟩; subst w2)
     obtain ⟨r0, r1, r2, r3, r4⟩ := boxes_end5 Xo.out Xk.out (.bool false) (.int .i64 0) (.slice none 0 0) (.bool false) (.slice none 0 0)
     have hBB := below_end5' HB.out (lo := w.heap.size + 1 + 1) (Nat.le_add_right_of_le (Nat.le_add_right _ _)) (.bool false) (.int .i64 0) (.slice none 0 0) (.bool false) (.slice none 0 0)
     refine bodyPost_ret (v := .tuple #[noState, .bool false, noAsk, .int .i64 1]) (by simp only [results, Tryz.results38, go_sem, noState, noAsk]; simp [go_sem, r0, r1, r2, r3, r4]) rfl ⟨hBB, by refine .inl ⟨?_, ?_⟩ <;> simp [HVP.out, HV.out]⟩
   · have HM := Lib.hid (fun W => rmay_yes now mem last W true hm)
     have hm' := hm; clear hm
     cases d1 : decide (kind < 1)
     · cases d2 : decide (6 < kind)
       · cases d3 : decide ((60 : Int) < (C.length : Int))
         · have hk1 : 1 ≤ kind := by have := of_decide_eq_false d1; omega
           have hk2 : kind ≤ 6 := by have := of_decide_eq_false d2; omega
           have hC : C.length ≤ 60 := by have := of_decide_eq_false d3; omega
           have hv : verdict true kind C.length now mem last = 0 := by simp [verdict, hm', hk1, hk2, hC]
           have hvo := verdict_ok hv
           have HV := Lib.hid hv; clear hv
           clear hm' HD1
           have hsum : IntKind.i64.wrap (now + mem) = now + mem := IntWalk.i64_in _ (by omega)
           have hsum2 : IntKind.i64.wrap (now + last) = now + last := IntWalk.i64_in _ (by omega)
           have WFM := Lib.hid (show (Lit.int .i64 (now + mem)).wf = true from WalkArith.wf_i64 (n := now + mem) (by omega))
           have WFL := Lib.hid (show (Lit.int .i64 (now + last)).wf = true from WalkArith.wf_i64 (n := now + last) (by omega))
           have HL0 := Lib.hid (show 0 < now + last from by omega)
           have HCS := Lib.hid (Nat.le_trans (sasc_length C) hC)
           clear hvo
           clear TL
           obtain ⟨x1, f1⟩ := Xs.out.at_ 0 (.bool ex) rfl
           obtain ⟨x2, f2⟩ := Xs.out.at_ 1 (.int .i64 at') rfl
           obtain ⟨x3, f3⟩ := Xs.out.at_ 2 (.slice vo L.length vc) rfl
           have x4 := (Xc.out.at_ 0 (.int .i64 kind) rfl).1
           have x5 := (Xc.out.at_ 1 (.string g) rfl).1
           have x6 := (Xc.out.at_ 2 (.slice ro C.length rc) rfl).1
           go_wp2_with ((with_reducible refine (HM.out _).mono ?_); rintro e w2 ⟨rfl, hw2⟩; subst w2)
           clear x1 f1 x2 f2 x3 f3 x4 x5 x6
           clear HM
           obtain ⟨V1, hV1⟩ : ∃ V1, V1 = (((W0.setCell ⟨w.heap.size, 0, none⟩ (.bool false)).setCell ⟨w.heap.size, 1, none⟩ (.int .i64 0)).setCell ⟨w.heap.size, 2, none⟩ (.slice none 0 0)) := ⟨_, rfl⟩
           rw [← hV1]
           have nSCs := SC.out.ne_box Xs.out (ns3 _ _ _ _ _)
           replace SC := Lib.hid (show Strs V1 _ _ from by rw [hV1]; exact (((SC.out.apart' (p := ⟨w.heap.size, 0, none⟩) nSCs (.bool false)).apart' (p := ⟨w.heap.size, 1, none⟩) nSCs (.int .i64 0)).apart' (p := ⟨w.heap.size, 2, none⟩) nSCs (.slice none 0 0)))
           clear nSCs
           have HBn := Lib.hid (show Below w.heap.size w V1 from by rw [hV1]; exact (((HB.out.setCell (p := ⟨w.heap.size, 0, none⟩) (Nat.le_refl _) (.bool false)).setCell (p := ⟨w.heap.size, 1, none⟩) (Nat.le_refl _) (.int .i64 0)).setCell (p := ⟨w.heap.size, 2, none⟩) (Nat.le_refl _) (.slice none 0 0)))
           have Xns := Lib.hid (show CBox V1 (w.heap.size) 71 #[.bool false, .int .i64 0, .slice none 0 0] from by rw [hV1]; simpa using (((Xs.out.set 0 (.bool false)).set 1 (.int .i64 0)).set 2 (.slice none 0 0)))
           have Xnc := Lib.hid (show CBox V1 (w.heap.size + 1) 39 #[.int .i64 kind, .string g, .slice ro C.length rc] from by rw [hV1]; simpa using (((Xc.out.far (p := ⟨w.heap.size, 0, none⟩) (bn_own _).1 (.bool false)).far (p := ⟨w.heap.size, 1, none⟩) (bn_own _).1 (.int .i64 0)).far (p := ⟨w.heap.size, 2, none⟩) (bn_own _).1 (.slice none 0 0)))
           have Xno := Lib.hid (show CBox V1 (w.heap.size + 1 + 1) 71 #[.bool false, .int .i64 0, .slice none 0 0] from by rw [hV1]; simpa using (((Xo.out.far (p := ⟨w.heap.size, 0, none⟩) (bn_own _).2.1 (.bool false)).far (p := ⟨w.heap.size, 1, none⟩) (bn_own _).2.1 (.int .i64 0)).far (p := ⟨w.heap.size, 2, none⟩) (bn_own _).2.1 (.slice none 0 0)))
           have Xnk := Lib.hid (show CBox V1 (w.heap.size + 1 + 1 + 1) 59 #[.bool false, .slice none 0 0] from by rw [hV1]; simpa using (((Xk.out.far (p := ⟨w.heap.size, 0, none⟩) (bn_own _).2.2 (.bool false)).far (p := ⟨w.heap.size, 1, none⟩) (bn_own _).2.2 (.int .i64 0)).far (p := ⟨w.heap.size, 2, none⟩) (bn_own _).2.2 (.slice none 0 0)))
           replace Xs := Xns; clear Xns
           replace Xc := Xnc; clear Xnc
           replace Xo := Xno; clear Xno
           replace Xk := Xnk; clear Xnk
           replace HB := HBn; clear HBn
           clear hV1
           have TL := Lib.hid (Tms.nil V1)
           have RR := Lib.hid (show ∀ e w', RetRapp w false 0 [] kind (sasc C) C.length now mem last e w' → RetRapp w (false && ex) (if false = true then at' else 0) (if false = true then L else []) kind (sasc C) C.length now mem last e w' from fun e w' h => by simpa using h)
           have HPK := Lib.hid (pcheck_iff.1 HVP.out).1
           have HAS := Lib.hid (pcheck_asc HVP.out)
           have HGD := Lib.hid (pcheck_good HVP.out)
           have HVV := Lib.hid (show verdict (pcheck false (0) []) kind C.length now mem last = 0 from by rw [HVP.out]; exact HV.out)
           have x7 := (Xc.out.at_ 0 (.int .i64 kind) rfl).1
           have x8 := (Xc.out.at_ 1 (.string g) rfl).1
           have x9 := (Xc.out.at_ 2 (.slice ro C.length rc) rfl).1
           have HC := Lib.hid (srising_any _ C _ SC.out)
           go_wp2_with fail
           refine HC.out.mono ?_
           clear HC
           clear x7 x8 x9
           rintro e w1 ⟨o, rfl, hs, hb, _⟩
           obtain ⟨so, sc, rfl⟩ := hs.shape
           have SS := Lib.hid hs
           clear hs
           replace Xs := Lib.hid (Xs.out.below hb Xs.out.lt)
           replace Xc := Lib.hid (Xc.out.below hb Xc.out.lt)
           replace Xo := Lib.hid (Xo.out.below hb Xo.out.lt)
           replace Xk := Lib.hid (Xk.out.below hb Xk.out.lt)
           replace TL := Lib.hid (TL.out.mono hb)
           replace SC := Lib.hid (SC.out.mono hb)
           replace HB := Lib.hid (HB.out.trans (hb.mono HB.out.size))
           clear hb
           have x10 := (Xs.out.at_ 0 (.bool false) rfl).1
           have x11 := (Xs.out.at_ 1 (.int .i64 0) rfl).1
           have x12 := (Xs.out.at_ 2 (.slice none 0 0) rfl).1
           have x13 := (Xc.out.at_ 0 (.int .i64 kind) rfl).1
           have x14 := (Xc.out.at_ 1 (.string g) rfl).1
           have x15 := (Xc.out.at_ 2 (.slice ro C.length rc) rfl).1
           have HC := Lib.hid (rsome_in _ [] kind _ (sasc C) (now + mem) _ hk1 hk2 TL.out HAS.out HGD.out SS.out HPK.out HCS.out WFM.out)
           go_wp2_with fail
           refine HC.out.mono ?_
           clear HC
           clear x10 x11 x12 x13 x14 x15
           rintro e w2 ⟨v3, L3, u3, R3, rfl, hT3, hA3, hU3, hR3, hl3, hb⟩
           obtain ⟨v3o, v3c, rfl⟩ := hT3.shape
           obtain ⟨u3o, u3c, rfl⟩ := hU3.shape
           have T3 := Lib.hid hT3; have S3 := Lib.hid hU3; have A3 := Lib.hid hA3; have R3' := Lib.hid hR3; have L3' := Lib.hid hl3
           clear hT3 hU3 hA3 hR3 hl3
           obtain ⟨e3, he3⟩ : ∃ e3, inEx kind false = e3 := ⟨_, rfl⟩
           obtain ⟨a3, ha3⟩ : ∃ a3, inAt kind 0 (now + mem) = a3 := ⟨_, rfl⟩
           obtain ⟨g3, hg3⟩ : ∃ g3, inG kind false = g3 := ⟨_, rfl⟩
           rw [he3, ha3, hg3]
           have HE3 := Lib.hid he3; have HA3 := Lib.hid ha3; have HG3 := Lib.hid hg3
           clear he3 ha3 hg3
           replace Xs := Lib.hid (Xs.out.below hb Xs.out.lt)
           replace Xc := Lib.hid (Xc.out.below hb Xc.out.lt)
           replace Xo := Lib.hid (Xo.out.below hb Xo.out.lt)
           replace Xk := Lib.hid (Xk.out.below hb Xk.out.lt)
           replace TL := Lib.hid (TL.out.mono hb)
           replace SC := Lib.hid (SC.out.mono hb)
           replace SS := Lib.hid (SS.out.mono hb)
           replace HB := Lib.hid (HB.out.trans (hb.mono HB.out.size))
           clear hb
           have HQB := Lib.hid (bn_far (a := w.heap.size) (b := w2.heap.size) Xk.out.lt)
           have hba : Below w2.heap.size w2 ((w2.alloc (.cells #[.bool e3, .int .i64 a3, .slice v3o L3.length v3c] 71)).alloc (.cells #[.bool g3, .slice u3o R3.length u3c] 59)) := (((Below.refl _ _).alloc (Nat.le_refl _) _).alloc (by simp <;> omega) _)
           replace Xs := Lib.hid (Xs.out.below hba Xs.out.lt)
           replace Xc := Lib.hid (Xc.out.below hba Xc.out.lt)
           replace Xo := Lib.hid (Xo.out.below hba Xo.out.lt)
           replace Xk := Lib.hid (Xk.out.below hba Xk.out.lt)
           replace TL := Lib.hid (TL.out.mono hba)
           replace T3 := Lib.hid (T3.out.mono hba)
           replace SC := Lib.hid (SC.out.mono hba)
           replace SS := Lib.hid (SS.out.mono hba)
           replace S3 := Lib.hid (S3.out.mono hba)
           replace HB := Lib.hid (HB.out.trans (hba.mono HB.out.size))
           have Xq := Lib.hid (show CBox ((w2.alloc (.cells #[.bool e3, .int .i64 a3, .slice v3o L3.length v3c] 71)).alloc (.cells #[.bool g3, .slice u3o R3.length u3c] 59)) (w2.heap.size) 71 #[.bool e3, .int .i64 a3, .slice v3o L3.length v3c] from ((CBox.new _ (by simp)).old _))
           have Xr := Lib.hid (show CBox ((w2.alloc (.cells #[.bool e3, .int .i64 a3, .slice v3o L3.length v3c] 71)).alloc (.cells #[.bool g3, .slice u3o R3.length u3c] 59)) (w2.heap.size + 1) 59 #[.bool g3, .slice u3o R3.length u3c] from (CBox.new _ (by simp)))
           clear hba
           clear hsum
           cases d4 : decide ((60 : Int) < (L3.length : Int))
           · have hL3 : L3.length ≤ 60 := by have := of_decide_eq_false d4; omega
             have x16 := (Xs.out.at_ 0 (.bool false) rfl).1
             have x17 := (Xs.out.at_ 1 (.int .i64 0) rfl).1
             have x18 := (Xs.out.at_ 2 (.slice none 0 0) rfl).1
             have x19 := (Xq.out.at_ 0 (.bool e3) rfl).1
             have x20 := (Xq.out.at_ 1 (.int .i64 a3) rfl).1
             have x21 := (Xq.out.at_ 2 (.slice v3o L3.length v3c) rfl).1
             have x22 := (Xr.out.at_ 0 (.bool g3) rfl).1
             have x23 := (Xr.out.at_ 1 (.slice u3o R3.length u3c) rfl).1
             have HC := Lib.hid (asked_any e3 a3 _ L3 _ g3 _ R3 (now + last) _ T3.out A3.out S3.out (by have := L3'.out; omega) WFL.out HL0.out)
             go_wp2_with fail
             refine HC.out.mono ?_
             clear HC
             clear x16 x17 x18 x19 x20 x21 x22 x23
             rintro e w3 ⟨v5, L5, rfl, hT5, hA5, hb⟩
             obtain ⟨v5o, v5c, rfl⟩ := hT5.shape
             have T5 := Lib.hid hT5; have A5 := Lib.hid hA5; clear hT5 hA5
             obtain ⟨a5, ha5⟩ : ∃ a5, (if g3 = true then min a3 (now + last) else a3) = a5 := ⟨_, rfl⟩
             rw [ha5]
             have HA5 := Lib.hid ha5; clear ha5
             replace Xs := Lib.hid (Xs.out.below hb Xs.out.lt)
             replace Xc := Lib.hid (Xc.out.below hb Xc.out.lt)
             replace Xo := Lib.hid (Xo.out.below hb Xo.out.lt)
             replace Xk := Lib.hid (Xk.out.below hb Xk.out.lt)
             replace Xq := Lib.hid (Xq.out.below hb Xq.out.lt)
             replace Xr := Lib.hid (Xr.out.below hb Xr.out.lt)
             replace TL := Lib.hid (TL.out.mono hb)
             replace T3 := Lib.hid (T3.out.mono hb)
             replace SC := Lib.hid (SC.out.mono hb)
             replace SS := Lib.hid (SS.out.mono hb)
             replace S3 := Lib.hid (S3.out.mono hb)
             replace HB := Lib.hid (HB.out.trans (hb.mono HB.out.size))
             clear hb
             cases e3
             · have d5 := Lib.hid (soon_nil A3.out A5.out)
               cases hn : ((L5.length : Int) == 0)
               · have HNE := Lib.hid (show ¬ (inEx kind false = false ∧ L3 = []) from fun h => by have h5 := d5.out.1 h.2; rw [h5] at hn; simp at hn)
                 clear d5
                 obtain ⟨x24, f24⟩ := Xq.out.at_ 0 (.bool false) rfl
                 obtain ⟨x25, f25⟩ := Xq.out.at_ 1 (.int .i64 a3) rfl
                 obtain ⟨x26, f26⟩ := Xq.out.at_ 2 (.slice v3o L3.length v3c) rfl
                 have x27 := (Xr.out.at_ 0 (.bool g3) rfl).1
                 have x28 := (Xr.out.at_ 1 (.slice u3o R3.length u3c) rfl).1
                 go_wp2_with fail
                 clear x24 f24 x25 f25 x26 f26 x27 x28
                 obtain ⟨V2, hV2⟩ : ∃ V2, V2 = (((w3.setCell ⟨w2.heap.size, 0, none⟩ (.bool false)).setCell ⟨w2.heap.size, 1, none⟩ (.int .i64 a5)).setCell ⟨w2.heap.size, 2, none⟩ (.slice v5o L5.length v5c)) := ⟨_, rfl⟩
                 rw [← hV2]
                 have nTLq := TL.out.ne_box Xq.out (ns3 _ _ _ _ _)
                 have nT3q := T3.out.ne_box Xq.out (ns3 _ _ _ _ _)
                 have nT5q := T5.out.ne_box Xq.out (ns3 _ _ _ _ _)
                 have nSCq := SC.out.ne_box Xq.out (ns3 _ _ _ _ _)
                 have nSSq := SS.out.ne_box Xq.out (ns3 _ _ _ _ _)
                 have nS3q := S3.out.ne_box Xq.out (ns3 _ _ _ _ _)
                 replace TL := Lib.hid (show Tms V2 _ _ from by rw [hV2]; exact (((TL.out.apart (p := ⟨w2.heap.size, 0, none⟩) nTLq (.bool false)).apart (p := ⟨w2.heap.size, 1, none⟩) nTLq (.int .i64 a5)).apart (p := ⟨w2.heap.size, 2, none⟩) nTLq (.slice v5o L5.length v5c)))
                 clear nTLq
                 replace T3 := Lib.hid (show Tms V2 _ _ from by rw [hV2]; exact (((T3.out.apart (p := ⟨w2.heap.size, 0, none⟩) nT3q (.bool false)).apart (p := ⟨w2.heap.size, 1, none⟩) nT3q (.int .i64 a5)).apart (p := ⟨w2.heap.size, 2, none⟩) nT3q (.slice v5o L5.length v5c)))
                 clear nT3q
                 replace T5 := Lib.hid (show Tms V2 _ _ from by rw [hV2]; exact (((T5.out.apart (p := ⟨w2.heap.size, 0, none⟩) nT5q (.bool false)).apart (p := ⟨w2.heap.size, 1, none⟩) nT5q (.int .i64 a5)).apart (p := ⟨w2.heap.size, 2, none⟩) nT5q (.slice v5o L5.length v5c)))
                 clear nT5q
                 replace SC := Lib.hid (show Strs V2 _ _ from by rw [hV2]; exact (((SC.out.apart' (p := ⟨w2.heap.size, 0, none⟩) nSCq (.bool false)).apart' (p := ⟨w2.heap.size, 1, none⟩) nSCq (.int .i64 a5)).apart' (p := ⟨w2.heap.size, 2, none⟩) nSCq (.slice v5o L5.length v5c)))
                 clear nSCq
                 replace SS := Lib.hid (show Strs V2 _ _ from by rw [hV2]; exact (((SS.out.apart' (p := ⟨w2.heap.size, 0, none⟩) nSSq (.bool false)).apart' (p := ⟨w2.heap.size, 1, none⟩) nSSq (.int .i64 a5)).apart' (p := ⟨w2.heap.size, 2, none⟩) nSSq (.slice v5o L5.length v5c)))
                 clear nSSq
                 replace S3 := Lib.hid (show Strs V2 _ _ from by rw [hV2]; exact (((S3.out.apart' (p := ⟨w2.heap.size, 0, none⟩) nS3q (.bool false)).apart' (p := ⟨w2.heap.size, 1, none⟩) nS3q (.int .i64 a5)).apart' (p := ⟨w2.heap.size, 2, none⟩) nS3q (.slice v5o L5.length v5c)))
                 clear nS3q
                 have HBn := Lib.hid (show Below w.heap.size w V2 from by rw [hV2]; exact (((HB.out.setCell (p := ⟨w2.heap.size, 0, none⟩) HQB.out.2.2.2.1 (.bool false)).setCell (p := ⟨w2.heap.size, 1, none⟩) HQB.out.2.2.2.1 (.int .i64 a5)).setCell (p := ⟨w2.heap.size, 2, none⟩) HQB.out.2.2.2.1 (.slice v5o L5.length v5c)))
                 have Xns := Lib.hid (show CBox V2 (w.heap.size) 71 #[.bool false, .int .i64 0, .slice none 0 0] from by rw [hV2]; simpa using (((Xs.out.far (p := ⟨w2.heap.size, 0, none⟩) HQB.out.1.1 (.bool false)).far (p := ⟨w2.heap.size, 1, none⟩) HQB.out.1.1 (.int .i64 a5)).far (p := ⟨w2.heap.size, 2, none⟩) HQB.out.1.1 (.slice v5o L5.length v5c)))
                 have Xnc := Lib.hid (show CBox V2 (w.heap.size + 1) 39 #[.int .i64 kind, .string g, .slice ro C.length rc] from by rw [hV2]; simpa using (((Xc.out.far (p := ⟨w2.heap.size, 0, none⟩) HQB.out.1.2.1 (.bool false)).far (p := ⟨w2.heap.size, 1, none⟩) HQB.out.1.2.1 (.int .i64 a5)).far (p := ⟨w2.heap.size, 2, none⟩) HQB.out.1.2.1 (.slice v5o L5.length v5c)))
                 have Xno := Lib.hid (show CBox V2 (w.heap.size + 1 + 1) 71 #[.bool false, .int .i64 0, .slice none 0 0] from by rw [hV2]; simpa using (((Xo.out.far (p := ⟨w2.heap.size, 0, none⟩) HQB.out.1.2.2.1 (.bool false)).far (p := ⟨w2.heap.size, 1, none⟩) HQB.out.1.2.2.1 (.int .i64 a5)).far (p := ⟨w2.heap.size, 2, none⟩) HQB.out.1.2.2.1 (.slice v5o L5.length v5c)))
                 have Xnk := Lib.hid (show CBox V2 (w.heap.size + 1 + 1 + 1) 59 #[.bool false, .slice none 0 0] from by rw [hV2]; simpa using (((Xk.out.far (p := ⟨w2.heap.size, 0, none⟩) HQB.out.1.2.2.2 (.bool false)).far (p := ⟨w2.heap.size, 1, none⟩) HQB.out.1.2.2.2 (.int .i64 a5)).far (p := ⟨w2.heap.size, 2, none⟩) HQB.out.1.2.2.2 (.slice v5o L5.length v5c)))
                 have Xnq := Lib.hid (show CBox V2 (w2.heap.size) 71 #[.bool false, .int .i64 a5, .slice v5o L5.length v5c] from by rw [hV2]; simpa using (((Xq.out.set 0 (.bool false)).set 1 (.int .i64 a5)).set 2 (.slice v5o L5.length v5c)))
                 have Xnr := Lib.hid (show CBox V2 (w2.heap.size + 1) 59 #[.bool g3, .slice u3o R3.length u3c] from by rw [hV2]; simpa using (((Xr.out.far (p := ⟨w2.heap.size, 0, none⟩) HQB.out.2.2.1.1 (.bool false)).far (p := ⟨w2.heap.size, 1, none⟩) HQB.out.2.2.1.1 (.int .i64 a5)).far (p := ⟨w2.heap.size, 2, none⟩) HQB.out.2.2.1.1 (.slice v5o L5.length v5c)))
                 replace Xs := Xns; clear Xns
                 replace Xc := Xnc; clear Xnc
                 replace Xo := Xno; clear Xno
                 replace Xk := Xnk; clear Xnk
                 replace Xq := Xnq; clear Xnq
                 replace Xr := Xnr; clear Xnr
                 replace HB := HBn; clear HBn
                 clear hV2
                 have x29 := (Xq.out.at_ 0 (.bool false) rfl).1
                 have x30 := (Xq.out.at_ 1 (.int .i64 a5) rfl).1
                 have x31 := (Xq.out.at_ 2 (.slice v5o L5.length v5c) rfl).1
                 have x32 := (Xr.out.at_ 0 (.bool g3) rfl).1
                 have x33 := (Xr.out.at_ 1 (.slice u3o R3.length u3c) rfl).1
                 obtain ⟨x34, f34⟩ := Xo.out.at_ 0 (.bool false) rfl
                 obtain ⟨x35, f35⟩ := Xo.out.at_ 1 (.int .i64 0) rfl
                 obtain ⟨x36, f36⟩ := Xo.out.at_ 2 (.slice none 0 0) rfl
                 obtain ⟨x37, f37⟩ := Xk.out.at_ 0 (.bool false) rfl
                 obtain ⟨x38, f38⟩ := Xk.out.at_ 1 (.slice none 0 0) rfl
                 have nTo := T5.out.ne_box Xo.out (ns3 _ _ _ _ _); have nTk := T5.out.ne_box Xk.out (ns2 _ _ _ _); have nSo := S3.out.ne_box Xo.out (ns3 _ _ _ _ _); have nSk := S3.out.ne_box Xk.out (ns2 _ _ _ _)
                 have NT := Lib.hid (fun hL b hb => And.intro (nTo hL b hb) (nTk hL b hb)); have NS := Lib.hid (fun hL b hb => And.intro (nSo hL b hb) (nSk hL b hb)); clear nTo nTk nSo nSk
                 obtain ⟨_, N1, N2, N3⟩ := HQB.out.1
                 have M1 := N1.symm; have M2 := N2.symm; have M3 := N3.symm
                 go_wp2_with fail
                 go_region
                 all_goals
                  go_wp2_with fail
                  obtain ⟨r0, r1, r2, r3, r4⟩ := boxes_end5 Xo.out Xk.out (.bool false) (.int .i64 a5) (.slice v5o L5.length v5c) (.bool g3) (.slice u3o R3.length u3c)
                  have hT := T5.out.end5' (lo := w.heap.size + 1 + 1) NT.out (.bool false) (.int .i64 a5) (.slice v5o L5.length v5c) (.bool g3) (.slice u3o R3.length u3c)
                  have hU := S3.out.end5' (lo := w.heap.size + 1 + 1) NS.out (.bool false) (.int .i64 a5) (.slice v5o L5.length v5c) (.bool g3) (.slice u3o R3.length u3c)
                  have hBB := below_end5' HB.out (lo := w.heap.size + 1 + 1) (Nat.le_add_right_of_le (Nat.le_add_right _ _)) (.bool false) (.int .i64 a5) (.slice v5o L5.length v5c) (.bool g3) (.slice u3o R3.length u3c)
                  refine bodyPost_ret (v := .tuple #[.agg #[.bool false, .int .i64 a5, .slice v5o L5.length v5c], .bool true, .agg #[.bool g3, .slice u3o R3.length u3c], .int .i64 0]) (by simp [results, Tryz.results38, go_sem, r0, r1, r2, r3, r4]) rfl (RR.out _ _ ⟨?_, .inr ⟨HVV.out, L3, A3.out, .inr (.inr ⟨hL3, HNE.out, _, L5, _, R3, by rw [HE3.out, HG3.out, HA3.out, HA5.out], ?_, ?_, R3'.out, A5.out⟩)⟩⟩)
                  · first | with_reducible exact hBB | with_reducible exact hBB.drew
                  · first | with_reducible exact hT | with_reducible exact hT.drew
                  · first | with_reducible exact hU | with_reducible exact hU.drew
               · have HNN := Lib.hid (show inEx kind false = false ∧ L3 = [] from ⟨HE3.out, d5.out.2 (by simpa using hn)⟩)
                 clear d5
                 obtain ⟨x24, f24⟩ := Xq.out.at_ 0 (.bool false) rfl
                 obtain ⟨x25, f25⟩ := Xq.out.at_ 1 (.int .i64 a3) rfl
                 obtain ⟨x26, f26⟩ := Xq.out.at_ 2 (.slice v3o L3.length v3c) rfl
                 have x27 := (Xr.out.at_ 0 (.bool g3) rfl).1
                 have x28 := (Xr.out.at_ 1 (.slice u3o R3.length u3c) rfl).1
                 go_upto_region 15 with fail
                 clear x24 f24 x25 f25 x26 f26 x27 x28
                 obtain ⟨V2, hV2⟩ : ∃ V2, V2 = (((w3.setCell ⟨w2.heap.size, 0, none⟩ (.bool false)).setCell ⟨w2.heap.size, 1, none⟩ (.int .i64 a5)).setCell ⟨w2.heap.size, 2, none⟩ (.slice v5o L5.length v5c)) := ⟨_, rfl⟩
                 rw [← hV2]
                 have nTLq := TL.out.ne_box Xq.out (ns3 _ _ _ _ _)
                 have nT3q := T3.out.ne_box Xq.out (ns3 _ _ _ _ _)
                 have nT5q := T5.out.ne_box Xq.out (ns3 _ _ _ _ _)
                 have nSCq := SC.out.ne_box Xq.out (ns3 _ _ _ _ _)
                 have nSSq := SS.out.ne_box Xq.out (ns3 _ _ _ _ _)
                 have nS3q := S3.out.ne_box Xq.out (ns3 _ _ _ _ _)
                 replace TL := Lib.hid (show Tms V2 _ _ from by rw [hV2]; exact (((TL.out.apart (p := ⟨w2.heap.size, 0, none⟩) nTLq (.bool false)).apart (p := ⟨w2.heap.size, 1, none⟩) nTLq (.int .i64 a5)).apart (p := ⟨w2.heap.size, 2, none⟩) nTLq (.slice v5o L5.length v5c)))
                 clear nTLq
                 replace T3 := Lib.hid (show Tms V2 _ _ from by rw [hV2]; exact (((T3.out.apart (p := ⟨w2.heap.size, 0, none⟩) nT3q (.bool false)).apart (p := ⟨w2.heap.size, 1, none⟩) nT3q (.int .i64 a5)).apart (p := ⟨w2.heap.size, 2, none⟩) nT3q (.slice v5o L5.length v5c)))
                 clear nT3q
                 replace T5 := Lib.hid (show Tms V2 _ _ from by rw [hV2]; exact (((T5.out.apart (p := ⟨w2.heap.size, 0, none⟩) nT5q (.bool false)).apart (p := ⟨w2.heap.size, 1, none⟩) nT5q (.int .i64 a5)).apart (p := ⟨w2.heap.size, 2, none⟩) nT5q (.slice v5o L5.length v5c)))
                 clear nT5q
                 replace SC := Lib.hid (show Strs V2 _ _ from by rw [hV2]; exact (((SC.out.apart' (p := ⟨w2.heap.size, 0, none⟩) nSCq (.bool false)).apart' (p := ⟨w2.heap.size, 1, none⟩) nSCq (.int .i64 a5)).apart' (p := ⟨w2.heap.size, 2, none⟩) nSCq (.slice v5o L5.length v5c)))
                 clear nSCq
                 replace SS := Lib.hid (show Strs V2 _ _ from by rw [hV2]; exact (((SS.out.apart' (p := ⟨w2.heap.size, 0, none⟩) nSSq (.bool false)).apart' (p := ⟨w2.heap.size, 1, none⟩) nSSq (.int .i64 a5)).apart' (p := ⟨w2.heap.size, 2, none⟩) nSSq (.slice v5o L5.length v5c)))
                 clear nSSq
                 replace S3 := Lib.hid (show Strs V2 _ _ from by rw [hV2]; exact (((S3.out.apart' (p := ⟨w2.heap.size, 0, none⟩) nS3q (.bool false)).apart' (p := ⟨w2.heap.size, 1, none⟩) nS3q (.int .i64 a5)).apart' (p := ⟨w2.heap.size, 2, none⟩) nS3q (.slice v5o L5.length v5c)))
                 clear nS3q
                 have HBn := Lib.hid (show Below w.heap.size w V2 from by rw [hV2]; exact (((HB.out.setCell (p := ⟨w2.heap.size, 0, none⟩) HQB.out.2.2.2.1 (.bool false)).setCell (p := ⟨w2.heap.size, 1, none⟩) HQB.out.2.2.2.1 (.int .i64 a5)).setCell (p := ⟨w2.heap.size, 2, none⟩) HQB.out.2.2.2.1 (.slice v5o L5.length v5c)))
                 have Xns := Lib.hid (show CBox V2 (w.heap.size) 71 #[.bool false, .int .i64 0, .slice none 0 0] from by rw [hV2]; simpa using (((Xs.out.far (p := ⟨w2.heap.size, 0, none⟩) HQB.out.1.1 (.bool false)).far (p := ⟨w2.heap.size, 1, none⟩) HQB.out.1.1 (.int .i64 a5)).far (p := ⟨w2.heap.size, 2, none⟩) HQB.out.1.1 (.slice v5o L5.length v5c)))
                 have Xnc := Lib.hid (show CBox V2 (w.heap.size + 1) 39 #[.int .i64 kind, .string g, .slice ro C.length rc] from by rw [hV2]; simpa using (((Xc.out.far (p := ⟨w2.heap.size, 0, none⟩) HQB.out.1.2.1 (.bool false)).far (p := ⟨w2.heap.size, 1, none⟩) HQB.out.1.2.1 (.int .i64 a5)).far (p := ⟨w2.heap.size, 2, none⟩) HQB.out.1.2.1 (.slice v5o L5.length v5c)))
                 have Xno := Lib.hid (show CBox V2 (w.heap.size + 1 + 1) 71 #[.bool false, .int .i64 0, .slice none 0 0] from by rw [hV2]; simpa using (((Xo.out.far (p := ⟨w2.heap.size, 0, none⟩) HQB.out.1.2.2.1 (.bool false)).far (p := ⟨w2.heap.size, 1, none⟩) HQB.out.1.2.2.1 (.int .i64 a5)).far (p := ⟨w2.heap.size, 2, none⟩) HQB.out.1.2.2.1 (.slice v5o L5.length v5c)))
                 have Xnk := Lib.hid (show CBox V2 (w.heap.size + 1 + 1 + 1) 59 #[.bool false, .slice none 0 0] from by rw [hV2]; simpa using (((Xk.out.far (p := ⟨w2.heap.size, 0, none⟩) HQB.out.1.2.2.2 (.bool false)).far (p := ⟨w2.heap.size, 1, none⟩) HQB.out.1.2.2.2 (.int .i64 a5)).far (p := ⟨w2.heap.size, 2, none⟩) HQB.out.1.2.2.2 (.slice v5o L5.length v5c)))
                 have Xnq := Lib.hid (show CBox V2 (w2.heap.size) 71 #[.bool false, .int .i64 a5, .slice v5o L5.length v5c] from by rw [hV2]; simpa using (((Xq.out.set 0 (.bool false)).set 1 (.int .i64 a5)).set 2 (.slice v5o L5.length v5c)))
                 have Xnr := Lib.hid (show CBox V2 (w2.heap.size + 1) 59 #[.bool g3, .slice u3o R3.length u3c] from by rw [hV2]; simpa using (((Xr.out.far (p := ⟨w2.heap.size, 0, none⟩) HQB.out.2.2.1.1 (.bool false)).far (p := ⟨w2.heap.size, 1, none⟩) HQB.out.2.2.1.1 (.int .i64 a5)).far (p := ⟨w2.heap.size, 2, none⟩) HQB.out.2.2.1.1 (.slice v5o L5.length v5c)))
                 replace Xs := Xns; clear Xns
                 replace Xc := Xnc; clear Xnc
                 replace Xo := Xno; clear Xno
                 replace Xk := Xnk; clear Xnk
                 replace Xq := Xnq; clear Xnq
                 replace Xr := Xnr; clear Xnr
                 replace HB := HBn; clear HBn
                 clear hV2
                 obtain ⟨x29, f29⟩ := Xo.out.at_ 0 (.bool false) rfl
                 obtain ⟨x30, f30⟩ := Xo.out.at_ 1 (.int .i64 0) rfl
                 obtain ⟨x31, f31⟩ := Xo.out.at_ 2 (.slice none 0 0) rfl
                 obtain ⟨x32, f32⟩ := Xk.out.at_ 0 (.bool false) rfl
                 obtain ⟨x33, f33⟩ := Xk.out.at_ 1 (.slice none 0 0) rfl
                 go_wp2
                 obtain ⟨r0, r1, r2, r3, r4⟩ := boxes_end5 Xo.out Xk.out (.bool false) (.int .i64 0) (.slice none 0 0) (.bool false) (.slice none 0 0)
                 have hBB := below_end5' HB.out (lo := w.heap.size + 1 + 1) (Nat.le_add_right_of_le (Nat.le_add_right _ _)) (.bool false) (.int .i64 0) (.slice none 0 0) (.bool false) (.slice none 0 0)
                 refine bodyPost_ret (v := .tuple #[noState, .bool false, noAsk, .int .i64 0]) (by simp only [results, Tryz.results38, go_sem, noState, noAsk]; simp [go_sem, r0, r1, r2, r3, r4]) rfl (RR.out _ _ ⟨hBB, .inr ⟨HVV.out, L3, A3.out, .inr (.inl ⟨hL3, HNN.out, rfl⟩)⟩⟩)
             · have HNE := Lib.hid (show ¬ (inEx kind false = false ∧ L3 = []) from fun h => by have := HE3.out; rw [h.1] at this; cases this)
               obtain ⟨x24, f24⟩ := Xq.out.at_ 0 (.bool true) rfl
               obtain ⟨x25, f25⟩ := Xq.out.at_ 1 (.int .i64 a3) rfl
               obtain ⟨x26, f26⟩ := Xq.out.at_ 2 (.slice v3o L3.length v3c) rfl
               have x27 := (Xr.out.at_ 0 (.bool g3) rfl).1
               have x28 := (Xr.out.at_ 1 (.slice u3o R3.length u3c) rfl).1
               go_wp2_with fail
               clear x24 f24 x25 f25 x26 f26 x27 x28
               obtain ⟨V2, hV2⟩ : ∃ V2, V2 = (((w3.setCell ⟨w2.heap.size, 0, none⟩ (.bool true)).setCell ⟨w2.heap.size, 1, none⟩ (.int .i64 a5)).setCell ⟨w2.heap.size, 2, none⟩ (.slice v5o L5.length v5c)) := ⟨_, rfl⟩
               rw [← hV2]
               have nTLq := TL.out.ne_box Xq.out (ns3 _ _ _ _ _)
               have nT3q := T3.out.ne_box Xq.out (ns3 _ _ _ _ _)
               have nT5q := T5.out.ne_box Xq.out (ns3 _ _ _ _ _)
               have nSCq := SC.out.ne_box Xq.out (ns3 _ _ _ _ _)
               have nSSq := SS.out.ne_box Xq.out (ns3 _ _ _ _ _)
               have nS3q := S3.out.ne_box Xq.out (ns3 _ _ _ _ _)
               replace TL := Lib.hid (show Tms V2 _ _ from by rw [hV2]; exact (((TL.out.apart (p := ⟨w2.heap.size, 0, none⟩) nTLq (.bool true)).apart (p := ⟨w2.heap.size, 1, none⟩) nTLq (.int .i64 a5)).apart (p := ⟨w2.heap.size, 2, none⟩) nTLq (.slice v5o L5.length v5c)))
               clear nTLq
               replace T3 := Lib.hid (show Tms V2 _ _ from by rw [hV2]; exact (((T3.out.apart (p := ⟨w2.heap.size, 0, none⟩) nT3q (.bool true)).apart (p := ⟨w2.heap.size, 1, none⟩) nT3q (.int .i64 a5)).apart (p := ⟨w2.heap.size, 2, none⟩) nT3q (.slice v5o L5.length v5c)))
               clear nT3q
               replace T5 := Lib.hid (show Tms V2 _ _ from by rw [hV2]; exact (((T5.out.apart (p := ⟨w2.heap.size, 0, none⟩) nT5q (.bool true)).apart (p := ⟨w2.heap.size, 1, none⟩) nT5q (.int .i64 a5)).apart (p := ⟨w2.heap.size, 2, none⟩) nT5q (.slice v5o L5.length v5c)))
               clear nT5q
               replace SC := Lib.hid (show Strs V2 _ _ from by rw [hV2]; exact (((SC.out.apart' (p := ⟨w2.heap.size, 0, none⟩) nSCq (.bool true)).apart' (p := ⟨w2.heap.size, 1, none⟩) nSCq (.int .i64 a5)).apart' (p := ⟨w2.heap.size, 2, none⟩) nSCq (.slice v5o L5.length v5c)))
               clear nSCq
               replace SS := Lib.hid (show Strs V2 _ _ from by rw [hV2]; exact (((SS.out.apart' (p := ⟨w2.heap.size, 0, none⟩) nSSq (.bool true)).apart' (p := ⟨w2.heap.size, 1, none⟩) nSSq (.int .i64 a5)).apart' (p := ⟨w2.heap.size, 2, none⟩) nSSq (.slice v5o L5.length v5c)))
               clear nSSq
               replace S3 := Lib.hid (show Strs V2 _ _ from by rw [hV2]; exact (((S3.out.apart' (p := ⟨w2.heap.size, 0, none⟩) nS3q (.bool true)).apart' (p := ⟨w2.heap.size, 1, none⟩) nS3q (.int .i64 a5)).apart' (p := ⟨w2.heap.size, 2, none⟩) nS3q (.slice v5o L5.length v5c)))
               clear nS3q
               have HBn := Lib.hid (show Below w.heap.size w V2 from by rw [hV2]; exact (((HB.out.setCell (p := ⟨w2.heap.size, 0, none⟩) HQB.out.2.2.2.1 (.bool true)).setCell (p := ⟨w2.heap.size, 1, none⟩) HQB.out.2.2.2.1 (.int .i64 a5)).setCell (p := ⟨w2.heap.size, 2, none⟩) HQB.out.2.2.2.1 (.slice v5o L5.length v5c)))
               have Xns := Lib.hid (show CBox V2 (w.heap.size) 71 #[.bool false, .int .i64 0, .slice none 0 0] from by rw [hV2]; simpa using (((Xs.out.far (p := ⟨w2.heap.size, 0, none⟩) HQB.out.1.1 (.bool true)).far (p := ⟨w2.heap.size, 1, none⟩) HQB.out.1.1 (.int .i64 a5)).far (p := ⟨w2.heap.size, 2, none⟩) HQB.out.1.1 (.slice v5o L5.length v5c)))
               have Xnc := Lib.hid (show CBox V2 (w.heap.size + 1) 39 #[.int .i64 kind, .string g, .slice ro C.length rc] from by rw [hV2]; simpa using (((Xc.out.far (p := ⟨w2.heap.size, 0, none⟩) HQB.out.1.2.1 (.bool true)).far (p := ⟨w2.heap.size, 1, none⟩) HQB.out.1.2.1 (.int .i64 a5)).far (p := ⟨w2.heap.size, 2, none⟩) HQB.out.1.2.1 (.slice v5o L5.length v5c)))
               have Xno := Lib.hid (show CBox V2 (w.heap.size + 1 + 1) 71 #[.bool false, .int .i64 0, .slice none 0 0] from by rw [hV2]; simpa using (((Xo.out.far (p := ⟨w2.heap.size, 0, none⟩) HQB.out.1.2.2.1 (.bool true)).far (p := ⟨w2.heap.size, 1, none⟩) HQB.out.1.2.2.1 (.int .i64 a5)).far (p := ⟨w2.heap.size, 2, none⟩) HQB.out.1.2.2.1 (.slice v5o L5.length v5c)))
               have Xnk := Lib.hid (show CBox V2 (w.heap.size + 1 + 1 + 1) 59 #[.bool false, .slice none 0 0] from by rw [hV2]; simpa using (((Xk.out.far (p := ⟨w2.heap.size, 0, none⟩) HQB.out.1.2.2.2 (.bool true)).far (p := ⟨w2.heap.size, 1, none⟩) HQB.out.1.2.2.2 (.int .i64 a5)).far (p := ⟨w2.heap.size, 2, none⟩) HQB.out.1.2.2.2 (.slice v5o L5.length v5c)))
               have Xnq := Lib.hid (show CBox V2 (w2.heap.size) 71 #[.bool true, .int .i64 a5, .slice v5o L5.length v5c] from by rw [hV2]; simpa using (((Xq.out.set 0 (.bool true)).set 1 (.int .i64 a5)).set 2 (.slice v5o L5.length v5c)))
               have Xnr := Lib.hid (show CBox V2 (w2.heap.size + 1) 59 #[.bool g3, .slice u3o R3.length u3c] from by rw [hV2]; simpa using (((Xr.out.far (p := ⟨w2.heap.size, 0, none⟩) HQB.out.2.2.1.1 (.bool true)).far (p := ⟨w2.heap.size, 1, none⟩) HQB.out.2.2.1.1 (.int .i64 a5)).far (p := ⟨w2.heap.size, 2, none⟩) HQB.out.2.2.1.1 (.slice v5o L5.length v5c)))
               replace Xs := Xns; clear Xns
               replace Xc := Xnc; clear Xnc
               replace Xo := Xno; clear Xno
               replace Xk := Xnk; clear Xnk
               replace Xq := Xnq; clear Xnq
               replace Xr := Xnr; clear Xnr
               replace HB := HBn; clear HBn
               clear hV2
               have x29 := (Xq.out.at_ 0 (.bool true) rfl).1
               have x30 := (Xq.out.at_ 1 (.int .i64 a5) rfl).1
               have x31 := (Xq.out.at_ 2 (.slice v5o L5.length v5c) rfl).1
               have x32 := (Xr.out.at_ 0 (.bool g3) rfl).1
               have x33 := (Xr.out.at_ 1 (.slice u3o R3.length u3c) rfl).1
               obtain ⟨x34, f34⟩ := Xo.out.at_ 0 (.bool false) rfl
               obtain ⟨x35, f35⟩ := Xo.out.at_ 1 (.int .i64 0) rfl
               obtain ⟨x36, f36⟩ := Xo.out.at_ 2 (.slice none 0 0) rfl
               obtain ⟨x37, f37⟩ := Xk.out.at_ 0 (.bool false) rfl
               obtain ⟨x38, f38⟩ := Xk.out.at_ 1 (.slice none 0 0) rfl
               have nTo := T5.out.ne_box Xo.out (ns3 _ _ _ _ _); have nTk := T5.out.ne_box Xk.out (ns2 _ _ _ _); have nSo := S3.out.ne_box Xo.out (ns3 _ _ _ _ _); have nSk := S3.out.ne_box Xk.out (ns2 _ _ _ _)
               have NT := Lib.hid (fun hL b hb => And.intro (nTo hL b hb) (nTk hL b hb)); have NS := Lib.hid (fun hL b hb => And.intro (nSo hL b hb) (nSk hL b hb)); clear nTo nTk nSo nSk
               obtain ⟨_, N1, N2, N3⟩ := HQB.out.1
               have M1 := N1.symm; have M2 := N2.symm; have M3 := N3.symm
               go_wp2_with fail
               go_region
               all_goals
                go_wp2_with fail
                obtain ⟨r0, r1, r2, r3, r4⟩ := boxes_end5 Xo.out Xk.out (.bool true) (.int .i64 a5) (.slice v5o L5.length v5c) (.bool g3) (.slice u3o R3.length u3c)
                have hT := T5.out.end5' (lo := w.heap.size + 1 + 1) NT.out (.bool true) (.int .i64 a5) (.slice v5o L5.length v5c) (.bool g3) (.slice u3o R3.length u3c)
                have hU := S3.out.end5' (lo := w.heap.size + 1 + 1) NS.out (.bool true) (.int .i64 a5) (.slice v5o L5.length v5c) (.bool g3) (.slice u3o R3.length u3c)
                have hBB := below_end5' HB.out (lo := w.heap.size + 1 + 1) (Nat.le_add_right_of_le (Nat.le_add_right _ _)) (.bool true) (.int .i64 a5) (.slice v5o L5.length v5c) (.bool g3) (.slice u3o R3.length u3c)
                refine bodyPost_ret (v := .tuple #[.agg #[.bool true, .int .i64 a5, .slice v5o L5.length v5c], .bool true, .agg #[.bool g3, .slice u3o R3.length u3c], .int .i64 0]) (by simp [results, Tryz.results38, go_sem, r0, r1, r2, r3, r4]) rfl (RR.out _ _ ⟨?_, .inr ⟨HVV.out, L3, A3.out, .inr (.inr ⟨hL3, HNE.out, _, L5, _, R3, by rw [HE3.out, HG3.out, HA3.out, HA5.out], ?_, ?_, R3'.out, A5.out⟩)⟩⟩)
                · first | with_reducible exact hBB | with_reducible exact hBB.drew
                · first | with_reducible exact hT | with_reducible exact hT.drew
                · first | with_reducible exact hU | with_reducible exact hU.drew
           · have hL3 : 60 < L3.length := by have := of_decide_eq_true d4; omega
             have x16 := (Xs.out.at_ 0 (.bool false) rfl).1
             have x17 := (Xs.out.at_ 1 (.int .i64 0) rfl).1
             have x18 := (Xs.out.at_ 2 (.slice none 0 0) rfl).1
             have x19 := (Xq.out.at_ 0 (.bool e3) rfl).1
             have x20 := (Xq.out.at_ 1 (.int .i64 a3) rfl).1
             have x21 := (Xq.out.at_ 2 (.slice v3o L3.length v3c) rfl).1
             have x22 := (Xr.out.at_ 0 (.bool g3) rfl).1
             have x23 := (Xr.out.at_ 1 (.slice u3o R3.length u3c) rfl).1
             obtain ⟨x24, f24⟩ := Xo.out.at_ 0 (.bool false) rfl
             obtain ⟨x25, f25⟩ := Xo.out.at_ 1 (.int .i64 0) rfl
             obtain ⟨x26, f26⟩ := Xo.out.at_ 2 (.slice none 0 0) rfl
             obtain ⟨x27, f27⟩ := Xk.out.at_ 0 (.bool false) rfl
             obtain ⟨x28, f28⟩ := Xk.out.at_ 1 (.slice none 0 0) rfl
             go_wp2
             obtain ⟨r0, r1, r2, r3, r4⟩ := boxes_end5 Xo.out Xk.out (.bool false) (.int .i64 0) (.slice none 0 0) (.bool false) (.slice none 0 0)
             have hBB := below_end5' HB.out (lo := w.heap.size + 1 + 1) (Nat.le_add_right_of_le (Nat.le_add_right _ _)) (.bool false) (.int .i64 0) (.slice none 0 0) (.bool false) (.slice none 0 0)
             refine bodyPost_ret (v := .tuple #[noState, .bool false, noAsk, .int .i64 1]) (by simp only [results, Tryz.results38, go_sem, noState, noAsk]; simp [go_sem, r0, r1, r2, r3, r4]) rfl (RR.out _ _ ⟨hBB, .inr ⟨HVV.out, L3, A3.out, .inl ⟨hL3, rfl⟩⟩⟩)
         · have hv : verdict true kind C.length now mem last = 1 := by have := of_decide_eq_true d3; simp [verdict, hm']; omega
           clear HD1 hm'
           have x1 := (Xc.out.at_ 0 (.int .i64 kind) rfl).1
           have x2 := (Xc.out.at_ 1 (.string g) rfl).1
           have x3 := (Xc.out.at_ 2 (.slice ro C.length rc) rfl).1
           have HV := Lib.hid hv; clear hv
           obtain ⟨x4, f4⟩ := Xo.out.at_ 0 (.bool false) rfl
           obtain ⟨x5, f5⟩ := Xo.out.at_ 1 (.int .i64 0) rfl
           obtain ⟨x6, f6⟩ := Xo.out.at_ 2 (.slice none 0 0) rfl
           obtain ⟨x7, f7⟩ := Xk.out.at_ 0 (.bool false) rfl
           obtain ⟨x8, f8⟩ := Xk.out.at_ 1 (.slice none 0 0) rfl
           go_wp2_with ((with_reducible refine (HM.out _).mono ?_); rintro e w2 ⟨rfl, hw2⟩; subst w2)
           obtain ⟨r0, r1, r2, r3, r4⟩ := boxes_end5 Xo.out Xk.out (.bool false) (.int .i64 0) (.slice none 0 0) (.bool false) (.slice none 0 0)
           have hBB := below_end5' HB.out (lo := w.heap.size + 1 + 1) (Nat.le_add_right_of_le (Nat.le_add_right _ _)) (.bool false) (.int .i64 0) (.slice none 0 0) (.bool false) (.slice none 0 0)
           refine bodyPost_ret (v := .tuple #[noState, .bool false, noAsk, .int .i64 1]) (by simp only [results, Tryz.results38, go_sem, noState, noAsk]; simp [go_sem, r0, r1, r2, r3, r4]) rfl ⟨hBB, by refine .inl ⟨?_, ?_⟩ <;> simp [HVP.out, HV.out]⟩
       · have hv : verdict true kind C.length now mem last = 1 := by have := of_decide_eq_true d2; simp [verdict, hm']; omega
         clear HD1 hm'
         have x1 := (Xc.out.at_ 0 (.int .i64 kind) rfl).1
         have x2 := (Xc.out.at_ 1 (.string g) rfl).1
         have x3 := (Xc.out.at_ 2 (.slice ro C.length rc) rfl).1
         have HV := Lib.hid hv; clear hv
         obtain ⟨x4, f4⟩ := Xo.out.at_ 0 (.bool false) rfl
         obtain ⟨x5, f5⟩ := Xo.out.at_ 1 (.int .i64 0) rfl
         obtain ⟨x6, f6⟩ := Xo.out.at_ 2 (.slice none 0 0) rfl
         obtain ⟨x7, f7⟩ := Xk.out.at_ 0 (.bool false) rfl
         obtain ⟨x8, f8⟩ := Xk.out.at_ 1 (.slice none 0 0) rfl
         go_wp2_with ((with_reducible refine (HM.out _).mono ?_); rintro e w2 ⟨rfl, hw2⟩; subst w2)
         obtain ⟨r0, r1, r2, r3, r4⟩ := boxes_end5 Xo.out Xk.out (.bool false) (.int .i64 0) (.slice none 0 0) (.bool false) (.slice none 0 0)
         have hBB := below_end5' HB.out (lo := w.heap.size + 1 + 1) (Nat.le_add_right_of_le (Nat.le_add_right _ _)) (.bool false) (.int .i64 0) (.slice none 0 0) (.bool false) (.slice none 0 0)
         refine bodyPost_ret (v := .tuple #[noState, .bool false, noAsk, .int .i64 1]) (by simp only [results, Tryz.results38, go_sem, noState, noAsk]; simp [go_sem, r0, r1, r2, r3, r4]) rfl ⟨hBB, by refine .inl ⟨?_, ?_⟩ <;> simp [HVP.out, HV.out]⟩
     · have hv : verdict true kind C.length now mem last = 1 := by have := of_decide_eq_true d1; simp [verdict, hm']; omega
       clear HD1 hm'
       have x1 := (Xc.out.at_ 0 (.int .i64 kind) rfl).1
       have x2 := (Xc.out.at_ 1 (.string g) rfl).1
       have x3 := (Xc.out.at_ 2 (.slice ro C.length rc) rfl).1
       have HV := Lib.hid hv; clear hv
       obtain ⟨x4, f4⟩ := Xo.out.at_ 0 (.bool false) rfl
       obtain ⟨x5, f5⟩ := Xo.out.at_ 1 (.int .i64 0) rfl
       obtain ⟨x6, f6⟩ := Xo.out.at_ 2 (.slice none 0 0) rfl
       obtain ⟨x7, f7⟩ := Xk.out.at_ 0 (.bool false) rfl
       obtain ⟨x8, f8⟩ := Xk.out.at_ 1 (.slice none 0 0) rfl
       go_wp2_with ((with_reducible refine (HM.out _).mono ?_); rintro e w2 ⟨rfl, hw2⟩; subst w2)
       obtain ⟨r0, r1, r2, r3, r4⟩ := boxes_end5 Xo.out Xk.out (.bool false) (.int .i64 0) (.slice none 0 0) (.bool false) (.slice none 0 0)
       have hBB := below_end5' HB.out (lo := w.heap.size + 1 + 1) (Nat.le_add_right_of_le (Nat.le_add_right _ _)) (.bool false) (.int .i64 0) (.slice none 0 0) (.bool false) (.slice none 0 0)
       refine bodyPost_ret (v := .tuple #[noState, .bool false, noAsk, .int .i64 1]) (by simp only [results, Tryz.results38, go_sem, noState, noAsk]; simp [go_sem, r0, r1, r2, r3, r4]) rfl ⟨hBB, by refine .inl ⟨?_, ?_⟩ <;> simp [HVP.out, HV.out]⟩
 · cases hp : pcheck ex at' L
   · have HP := Lib.hid hp; clear hp
     have HRW := Lib.hid hW0; clear hW0
     go_enter Tryz.func38, Tryz.ntmps38
     go_wp2_with fail
     rw [← HRW.out]
     clear HRW
     have x1 := (Xs.out.at_ 0 (.bool ex) rfl).1
     have x2 := (Xs.out.at_ 1 (.int .i64 at') rfl).1
     have x3 := (Xs.out.at_ 2 (.slice vo L.length vc) rfl).1
     have HC := Lib.hid (rcheck_no ex at' _ L _ TL.out HP.out)
     go_wp2_with fail
     refine HC.out.mono ?_
     clear HC
     clear x1 x2 x3
     rintro e w1 ⟨rfl, hb⟩
     replace Xs := Lib.hid (Xs.out.below hb Xs.out.lt)
     replace Xc := Lib.hid (Xc.out.below hb Xc.out.lt)
     replace Xo := Lib.hid (Xo.out.below hb Xo.out.lt)
     replace Xk := Lib.hid (Xk.out.below hb Xk.out.lt)
     replace TL := Lib.hid (TL.out.mono hb)
     replace SC := Lib.hid (SC.out.mono hb)
     replace HB := Lib.hid (HB.out.trans (hb.mono HB.out.size))
     clear hb
     obtain ⟨x4, f4⟩ := Xo.out.at_ 0 (.bool false) rfl
     obtain ⟨x5, f5⟩ := Xo.out.at_ 1 (.int .i64 0) rfl
     obtain ⟨x6, f6⟩ := Xo.out.at_ 2 (.slice none 0 0) rfl
     obtain ⟨x7, f7⟩ := Xk.out.at_ 0 (.bool false) rfl
     obtain ⟨x8, f8⟩ := Xk.out.at_ 1 (.slice none 0 0) rfl
     go_wp2
     obtain ⟨r0, r1, r2, r3, r4⟩ := boxes_end5 Xo.out Xk.out (.bool false) (.int .i64 0) (.slice none 0 0) (.bool false) (.slice none 0 0)
     have hBB := below_end5' HB.out (lo := w.heap.size + 1 + 1) (Nat.le_add_right_of_le (Nat.le_add_right _ _)) (.bool false) (.int .i64 0) (.slice none 0 0) (.bool false) (.slice none 0 0)
     refine bodyPost_ret (v := .tuple #[noState, .bool false, noAsk, .int .i64 3]) (by simp only [results, Tryz.results38, go_sem, noState, noAsk]; simp [go_sem, r0, r1, r2, r3, r4]) rfl ⟨hBB, by refine .inl ⟨?_, ?_⟩ <;> simp [HP.out, verdict]⟩
   · have HP := Lib.hid hp; clear hp
     have HRW := Lib.hid hW0; clear hW0
     go_enter Tryz.func38, Tryz.ntmps38
     go_wp2_with fail
     rw [← HRW.out]
     clear HRW
     have x1 := (Xs.out.at_ 0 (.bool ex) rfl).1
     have x2 := (Xs.out.at_ 1 (.int .i64 at') rfl).1
     have x3 := (Xs.out.at_ 2 (.slice vo L.length vc) rfl).1
     have HC := Lib.hid (rcheck_yes ex at' _ L _ TL.out HP.out)
     go_wp2_with fail
     refine HC.out.mono ?_
     clear HC
     clear x1 x2 x3
     rintro e w1 ⟨rfl, hb⟩
     replace Xs := Lib.hid (Xs.out.below hb Xs.out.lt)
     replace Xc := Lib.hid (Xc.out.below hb Xc.out.lt)
     replace Xo := Lib.hid (Xo.out.below hb Xo.out.lt)
     replace Xk := Lib.hid (Xk.out.below hb Xk.out.lt)
     replace TL := Lib.hid (TL.out.mono hb)
     replace SC := Lib.hid (SC.out.mono hb)
     replace HB := Lib.hid (HB.out.trans (hb.mono HB.out.size))
     clear hb
     have HVP := Lib.hid HP.out
     have HD1 := Lib.hid (show decide (kind < 1) = true ↔ kind < 1 from decide_eq_true_iff)
     cases hm : may now mem last
     · have HM := Lib.hid (fun W => rmay_yes now mem last W false hm)
       have hv : verdict true kind C.length now mem last = 1 := by simp [verdict, hm]
       have x4 := (Xc.out.at_ 0 (.int .i64 kind) rfl).1
       have x5 := (Xc.out.at_ 1 (.string g) rfl).1
       have x6 := (Xc.out.at_ 2 (.slice ro C.length rc) rfl).1
       have HV := Lib.hid hv; clear hv
       obtain ⟨x7, f7⟩ := Xo.out.at_ 0 (.bool false) rfl
       obtain ⟨x8, f8⟩ := Xo.out.at_ 1 (.int .i64 0) rfl
       obtain ⟨x9, f9⟩ := Xo.out.at_ 2 (.slice none 0 0) rfl
       obtain ⟨x10, f10⟩ := Xk.out.at_ 0 (.bool false) rfl
       obtain ⟨x11, f11⟩ := Xk.out.at_ 1 (.slice none 0 0) rfl
       go_wp2_with ((with_reducible refine (HM.out _).mono ?_); rintro e w2 ⟨rfl, hw2⟩; subst w2)
       obtain ⟨r0, r1, r2, r3, r4⟩ := boxes_end5 Xo.out Xk.out (.bool false) (.int .i64 0) (.slice none 0 0) (.bool false) (.slice none 0 0)
       have hBB := below_end5' HB.out (lo := w.heap.size + 1 + 1) (Nat.le_add_right_of_le (Nat.le_add_right _ _)) (.bool false) (.int .i64 0) (.slice none 0 0) (.bool false) (.slice none 0 0)
       refine bodyPost_ret (v := .tuple #[noState, .bool false, noAsk, .int .i64 1]) (by simp only [results, Tryz.results38, go_sem, noState, noAsk]; simp [go_sem, r0, r1, r2, r3, r4]) rfl ⟨hBB, by refine .inl ⟨?_, ?_⟩ <;> simp [HVP.out, HV.out]⟩
     · have HM := Lib.hid (fun W => rmay_yes now mem last W true hm)
       have hm' := hm; clear hm
       cases d1 : decide (kind < 1)
       · cases d2 : decide (6 < kind)
         · cases d3 : decide ((60 : Int) < (C.length : Int))
           · have hk1 : 1 ≤ kind := by have := of_decide_eq_false d1; omega
             have hk2 : kind ≤ 6 := by have := of_decide_eq_false d2; omega
             have hC : C.length ≤ 60 := by have := of_decide_eq_false d3; omega
             have hv : verdict true kind C.length now mem last = 0 := by simp [verdict, hm', hk1, hk2, hC]
             have hvo := verdict_ok hv
             have HV := Lib.hid hv; clear hv
             clear hm' HD1
             have hsum : IntKind.i64.wrap (now + mem) = now + mem := IntWalk.i64_in _ (by omega)
             have hsum2 : IntKind.i64.wrap (now + last) = now + last := IntWalk.i64_in _ (by omega)
             have WFM := Lib.hid (show (Lit.int .i64 (now + mem)).wf = true from WalkArith.wf_i64 (n := now + mem) (by omega))
             have WFL := Lib.hid (show (Lit.int .i64 (now + last)).wf = true from WalkArith.wf_i64 (n := now + last) (by omega))
             have HL0 := Lib.hid (show 0 < now + last from by omega)
             have HCS := Lib.hid (Nat.le_trans (sasc_length C) hC)
             clear hvo
             cases ex
             · obtain rfl : at' = 0 := by have h0 := pcheck_iff.1 HP.out; have h1 := h0.2.1; have h2 := h0.2.2.1; simp at h2; omega
               have RR := Lib.hid (show ∀ e w', RetRapp w false 0 L kind (sasc C) C.length now mem last e w' → RetRapp w (true && false) (if true = true then 0 else 0) (if true = true then L else []) kind (sasc C) C.length now mem last e w' from fun e w' h => by simpa using h)
               have x4 := (Xs.out.at_ 0 (.bool false) rfl).1
               have x5 := (Xs.out.at_ 1 (.int .i64 0) rfl).1
               have x6 := (Xs.out.at_ 2 (.slice vo L.length vc) rfl).1
               have x7 := (Xc.out.at_ 0 (.int .i64 kind) rfl).1
               have x8 := (Xc.out.at_ 1 (.string g) rfl).1
               have x9 := (Xc.out.at_ 2 (.slice ro C.length rc) rfl).1
               go_wp2_with ((with_reducible refine (HM.out _).mono ?_); rintro e w2 ⟨rfl, hw2⟩; subst w2)
               clear x4 x5 x6 x7 x8 x9
               clear HM
               have HPK := Lib.hid (pcheck_iff.1 HVP.out).1
               have HAS := Lib.hid (pcheck_asc HVP.out)
               have HGD := Lib.hid (pcheck_good HVP.out)
               have HVV := Lib.hid (show verdict (pcheck false (0) L) kind C.length now mem last = 0 from by rw [HVP.out]; exact HV.out)
               have x10 := (Xc.out.at_ 0 (.int .i64 kind) rfl).1
               have x11 := (Xc.out.at_ 1 (.string g) rfl).1
               have x12 := (Xc.out.at_ 2 (.slice ro C.length rc) rfl).1
               have HC := Lib.hid (srising_any _ C _ SC.out)
               go_wp2_with fail
               refine HC.out.mono ?_
               clear HC
               clear x10 x11 x12
               rintro e w2 ⟨o, rfl, hs, hb, _⟩
               obtain ⟨so, sc, rfl⟩ := hs.shape
               have SS := Lib.hid hs
               clear hs
               replace Xs := Lib.hid (Xs.out.below hb Xs.out.lt)
               replace Xc := Lib.hid (Xc.out.below hb Xc.out.lt)
               replace Xo := Lib.hid (Xo.out.below hb Xo.out.lt)
               replace Xk := Lib.hid (Xk.out.below hb Xk.out.lt)
               replace TL := Lib.hid (TL.out.mono hb)
               replace SC := Lib.hid (SC.out.mono hb)
               replace HB := Lib.hid (HB.out.trans (hb.mono HB.out.size))
               clear hb
               have x13 := (Xs.out.at_ 0 (.bool false) rfl).1
               have x14 := (Xs.out.at_ 1 (.int .i64 0) rfl).1
               have x15 := (Xs.out.at_ 2 (.slice vo L.length vc) rfl).1
               have x16 := (Xc.out.at_ 0 (.int .i64 kind) rfl).1
               have x17 := (Xc.out.at_ 1 (.string g) rfl).1
               have x18 := (Xc.out.at_ 2 (.slice ro C.length rc) rfl).1
               have HC := Lib.hid (rsome_in _ L kind _ (sasc C) (now + mem) _ hk1 hk2 TL.out HAS.out HGD.out SS.out HPK.out HCS.out WFM.out)
               go_wp2_with fail
               refine HC.out.mono ?_
               clear HC
               clear x13 x14 x15 x16 x17 x18
               rintro e w3 ⟨v3, L3, u3, R3, rfl, hT3, hA3, hU3, hR3, hl3, hb⟩
               obtain ⟨v3o, v3c, rfl⟩ := hT3.shape
               obtain ⟨u3o, u3c, rfl⟩ := hU3.shape
               have T3 := Lib.hid hT3; have S3 := Lib.hid hU3; have A3 := Lib.hid hA3; have R3' := Lib.hid hR3; have L3' := Lib.hid hl3
               clear hT3 hU3 hA3 hR3 hl3
               obtain ⟨e3, he3⟩ : ∃ e3, inEx kind false = e3 := ⟨_, rfl⟩
               obtain ⟨a3, ha3⟩ : ∃ a3, inAt kind 0 (now + mem) = a3 := ⟨_, rfl⟩
               obtain ⟨g3, hg3⟩ : ∃ g3, inG kind false = g3 := ⟨_, rfl⟩
               rw [he3, ha3, hg3]
               have HE3 := Lib.hid he3; have HA3 := Lib.hid ha3; have HG3 := Lib.hid hg3
               clear he3 ha3 hg3
               replace Xs := Lib.hid (Xs.out.below hb Xs.out.lt)
               replace Xc := Lib.hid (Xc.out.below hb Xc.out.lt)
               replace Xo := Lib.hid (Xo.out.below hb Xo.out.lt)
               replace Xk := Lib.hid (Xk.out.below hb Xk.out.lt)
               replace TL := Lib.hid (TL.out.mono hb)
               replace SC := Lib.hid (SC.out.mono hb)
               replace SS := Lib.hid (SS.out.mono hb)
               replace HB := Lib.hid (HB.out.trans (hb.mono HB.out.size))
               clear hb
               have HQB := Lib.hid (bn_far (a := w.heap.size) (b := w3.heap.size) Xk.out.lt)
               have hba : Below w3.heap.size w3 ((w3.alloc (.cells #[.bool e3, .int .i64 a3, .slice v3o L3.length v3c] 71)).alloc (.cells #[.bool g3, .slice u3o R3.length u3c] 59)) := (((Below.refl _ _).alloc (Nat.le_refl _) _).alloc (by simp <;> omega) _)
               replace Xs := Lib.hid (Xs.out.below hba Xs.out.lt)
               replace Xc := Lib.hid (Xc.out.below hba Xc.out.lt)
               replace Xo := Lib.hid (Xo.out.below hba Xo.out.lt)
               replace Xk := Lib.hid (Xk.out.below hba Xk.out.lt)
               replace TL := Lib.hid (TL.out.mono hba)
               replace T3 := Lib.hid (T3.out.mono hba)
               replace SC := Lib.hid (SC.out.mono hba)
               replace SS := Lib.hid (SS.out.mono hba)
               replace S3 := Lib.hid (S3.out.mono hba)
               replace HB := Lib.hid (HB.out.trans (hba.mono HB.out.size))
               have Xq := Lib.hid (show CBox ((w3.alloc (.cells #[.bool e3, .int .i64 a3, .slice v3o L3.length v3c] 71)).alloc (.cells #[.bool g3, .slice u3o R3.length u3c] 59)) (w3.heap.size) 71 #[.bool e3, .int .i64 a3, .slice v3o L3.length v3c] from ((CBox.new _ (by simp)).old _))
               have Xr := Lib.hid (show CBox ((w3.alloc (.cells #[.bool e3, .int .i64 a3, .slice v3o L3.length v3c] 71)).alloc (.cells #[.bool g3, .slice u3o R3.length u3c] 59)) (w3.heap.size + 1) 59 #[.bool g3, .slice u3o R3.length u3c] from (CBox.new _ (by simp)))
               clear hba
               clear hsum
               cases d4 : decide ((60 : Int) < (L3.length : Int))
               · have hL3 : L3.length ≤ 60 := by have := of_decide_eq_false d4; omega
                 have x19 := (Xs.out.at_ 0 (.bool false) rfl).1
                 have x20 := (Xs.out.at_ 1 (.int .i64 0) rfl).1
                 have x21 := (Xs.out.at_ 2 (.slice vo L.length vc) rfl).1
                 have x22 := (Xq.out.at_ 0 (.bool e3) rfl).1
                 have x23 := (Xq.out.at_ 1 (.int .i64 a3) rfl).1
                 have x24 := (Xq.out.at_ 2 (.slice v3o L3.length v3c) rfl).1
                 have x25 := (Xr.out.at_ 0 (.bool g3) rfl).1
                 have x26 := (Xr.out.at_ 1 (.slice u3o R3.length u3c) rfl).1
                 have HC := Lib.hid (asked_any e3 a3 _ L3 _ g3 _ R3 (now + last) _ T3.out A3.out S3.out (by have := L3'.out; omega) WFL.out HL0.out)
                 go_wp2_with fail
                 refine HC.out.mono ?_
                 clear HC
                 clear x19 x20 x21 x22 x23 x24 x25 x26
                 rintro e w4 ⟨v5, L5, rfl, hT5, hA5, hb⟩
                 obtain ⟨v5o, v5c, rfl⟩ := hT5.shape
                 have T5 := Lib.hid hT5; have A5 := Lib.hid hA5; clear hT5 hA5
                 obtain ⟨a5, ha5⟩ : ∃ a5, (if g3 = true then min a3 (now + last) else a3) = a5 := ⟨_, rfl⟩
                 rw [ha5]
                 have HA5 := Lib.hid ha5; clear ha5
                 replace Xs := Lib.hid (Xs.out.below hb Xs.out.lt)
                 replace Xc := Lib.hid (Xc.out.below hb Xc.out.lt)
                 replace Xo := Lib.hid (Xo.out.below hb Xo.out.lt)
                 replace Xk := Lib.hid (Xk.out.below hb Xk.out.lt)
                 replace Xq := Lib.hid (Xq.out.below hb Xq.out.lt)
                 replace Xr := Lib.hid (Xr.out.below hb Xr.out.lt)
                 replace TL := Lib.hid (TL.out.mono hb)
                 replace T3 := Lib.hid (T3.out.mono hb)
                 replace SC := Lib.hid (SC.out.mono hb)
                 replace SS := Lib.hid (SS.out.mono hb)
                 replace S3 := Lib.hid (S3.out.mono hb)
                 replace HB := Lib.hid (HB.out.trans (hb.mono HB.out.size))
                 clear hb
                 cases e3
                 · have d5 := Lib.hid (soon_nil A3.out A5.out)
                   cases hn : ((L5.length : Int) == 0)
                   · have HNE := Lib.hid (show ¬ (inEx kind false = false ∧ L3 = []) from fun h => by have h5 := d5.out.1 h.2; rw [h5] at hn; simp at hn)
                     clear d5
                     obtain ⟨x27, f27⟩ := Xq.out.at_ 0 (.bool false) rfl
                     obtain ⟨x28, f28⟩ := Xq.out.at_ 1 (.int .i64 a3) rfl
                     obtain ⟨x29, f29⟩ := Xq.out.at_ 2 (.slice v3o L3.length v3c) rfl
                     have x30 := (Xr.out.at_ 0 (.bool g3) rfl).1
                     have x31 := (Xr.out.at_ 1 (.slice u3o R3.length u3c) rfl).1
                     go_wp2_with fail
                     clear x27 f27 x28 f28 x29 f29 x30 x31
                     obtain ⟨V1, hV1⟩ : ∃ V1, V1 = (((w4.setCell ⟨w3.heap.size, 0, none⟩ (.bool false)).setCell ⟨w3.heap.size, 1, none⟩ (.int .i64 a5)).setCell ⟨w3.heap.size, 2, none⟩ (.slice v5o L5.length v5c)) := ⟨_, rfl⟩
                     rw [← hV1]
                     have nTLq := TL.out.ne_box Xq.out (ns3 _ _ _ _ _)
                     have nT3q := T3.out.ne_box Xq.out (ns3 _ _ _ _ _)
                     have nT5q := T5.out.ne_box Xq.out (ns3 _ _ _ _ _)
                     have nSCq := SC.out.ne_box Xq.out (ns3 _ _ _ _ _)
                     have nSSq := SS.out.ne_box Xq.out (ns3 _ _ _ _ _)
                     have nS3q := S3.out.ne_box Xq.out (ns3 _ _ _ _ _)
                     replace TL := Lib.hid (show Tms V1 _ _ from by rw [hV1]; exact (((TL.out.apart (p := ⟨w3.heap.size, 0, none⟩) nTLq (.bool false)).apart (p := ⟨w3.heap.size, 1, none⟩) nTLq (.int .i64 a5)).apart (p := ⟨w3.heap.size, 2, none⟩) nTLq (.slice v5o L5.length v5c)))
                     clear nTLq
                     replace T3 := Lib.hid (show Tms V1 _ _ from by rw [hV1]; exact (((T3.out.apart (p := ⟨w3.heap.size, 0, none⟩) nT3q (.bool false)).apart (p := ⟨w3.heap.size, 1, none⟩) nT3q (.int .i64 a5)).apart (p := ⟨w3.heap.size, 2, none⟩) nT3q (.slice v5o L5.length v5c)))
                     clear nT3q
                     replace T5 := Lib.hid (show Tms V1 _ _ from by rw [hV1]; exact (((T5.out.apart (p := ⟨w3.heap.size, 0, none⟩) nT5q (.bool false)).apart (p := ⟨w3.heap.size, 1, none⟩) nT5q (.int .i64 a5)).apart (p := ⟨w3.heap.size, 2, none⟩) nT5q (.slice v5o L5.length v5c)))
                     clear nT5q
                     replace SC := Lib.hid (show Strs V1 _ _ from by rw [hV1]; exact (((SC.out.apart' (p := ⟨w3.heap.size, 0, none⟩) nSCq (.bool false)).apart' (p := ⟨w3.heap.size, 1, none⟩) nSCq (.int .i64 a5)).apart' (p := ⟨w3.heap.size, 2, none⟩) nSCq (.slice v5o L5.length v5c)))
                     clear nSCq
                     replace SS := Lib.hid (show Strs V1 _ _ from by rw [hV1]; exact (((SS.out.apart' (p := ⟨w3.heap.size, 0, none⟩) nSSq (.bool false)).apart' (p := ⟨w3.heap.size, 1, none⟩) nSSq (.int .i64 a5)).apart' (p := ⟨w3.heap.size, 2, none⟩) nSSq (.slice v5o L5.length v5c)))
                     clear nSSq
                     replace S3 := Lib.hid (show Strs V1 _ _ from by rw [hV1]; exact (((S3.out.apart' (p := ⟨w3.heap.size, 0, none⟩) nS3q (.bool false)).apart' (p := ⟨w3.heap.size, 1, none⟩) nS3q (.int .i64 a5)).apart' (p := ⟨w3.heap.size, 2, none⟩) nS3q (.slice v5o L5.length v5c)))
                     clear nS3q
                     have HBn := Lib.hid (show Below w.heap.size w V1 from by rw [hV1]; exact (((HB.out.setCell (p := ⟨w3.heap.size, 0, none⟩) HQB.out.2.2.2.1 (.bool false)).setCell (p := ⟨w3.heap.size, 1, none⟩) HQB.out.2.2.2.1 (.int .i64 a5)).setCell (p := ⟨w3.heap.size, 2, none⟩) HQB.out.2.2.2.1 (.slice v5o L5.length v5c)))
                     have Xns := Lib.hid (show CBox V1 (w.heap.size) 71 #[.bool false, .int .i64 0, .slice vo L.length vc] from by rw [hV1]; simpa using (((Xs.out.far (p := ⟨w3.heap.size, 0, none⟩) HQB.out.1.1 (.bool false)).far (p := ⟨w3.heap.size, 1, none⟩) HQB.out.1.1 (.int .i64 a5)).far (p := ⟨w3.heap.size, 2, none⟩) HQB.out.1.1 (.slice v5o L5.length v5c)))
                     have Xnc := Lib.hid (show CBox V1 (w.heap.size + 1) 39 #[.int .i64 kind, .string g, .slice ro C.length rc] from by rw [hV1]; simpa using (((Xc.out.far (p := ⟨w3.heap.size, 0, none⟩) HQB.out.1.2.1 (.bool false)).far (p := ⟨w3.heap.size, 1, none⟩) HQB.out.1.2.1 (.int .i64 a5)).far (p := ⟨w3.heap.size, 2, none⟩) HQB.out.1.2.1 (.slice v5o L5.length v5c)))
                     have Xno := Lib.hid (show CBox V1 (w.heap.size + 1 + 1) 71 #[.bool false, .int .i64 0, .slice none 0 0] from by rw [hV1]; simpa using (((Xo.out.far (p := ⟨w3.heap.size, 0, none⟩) HQB.out.1.2.2.1 (.bool false)).far (p := ⟨w3.heap.size, 1, none⟩) HQB.out.1.2.2.1 (.int .i64 a5)).far (p := ⟨w3.heap.size, 2, none⟩) HQB.out.1.2.2.1 (.slice v5o L5.length v5c)))
                     have Xnk := Lib.hid (show CBox V1 (w.heap.size + 1 + 1 + 1) 59 #[.bool false, .slice none 0 0] from by rw [hV1]; simpa using (((Xk.out.far (p := ⟨w3.heap.size, 0, none⟩) HQB.out.1.2.2.2 (.bool false)).far (p := ⟨w3.heap.size, 1, none⟩) HQB.out.1.2.2.2 (.int .i64 a5)).far (p := ⟨w3.heap.size, 2, none⟩) HQB.out.1.2.2.2 (.slice v5o L5.length v5c)))
                     have Xnq := Lib.hid (show CBox V1 (w3.heap.size) 71 #[.bool false, .int .i64 a5, .slice v5o L5.length v5c] from by rw [hV1]; simpa using (((Xq.out.set 0 (.bool false)).set 1 (.int .i64 a5)).set 2 (.slice v5o L5.length v5c)))
                     have Xnr := Lib.hid (show CBox V1 (w3.heap.size + 1) 59 #[.bool g3, .slice u3o R3.length u3c] from by rw [hV1]; simpa using (((Xr.out.far (p := ⟨w3.heap.size, 0, none⟩) HQB.out.2.2.1.1 (.bool false)).far (p := ⟨w3.heap.size, 1, none⟩) HQB.out.2.2.1.1 (.int .i64 a5)).far (p := ⟨w3.heap.size, 2, none⟩) HQB.out.2.2.1.1 (.slice v5o L5.length v5c)))
                     replace Xs := Xns; clear Xns
                     replace Xc := Xnc; clear Xnc
                     replace Xo := Xno; clear Xno
                     replace Xk := Xnk; clear Xnk
                     replace Xq := Xnq; clear Xnq
                     replace Xr := Xnr; clear Xnr
                     replace HB := HBn; clear HBn
                     clear hV1
                     have x32 := (Xq.out.at_ 0 (.bool false) rfl).1
                     have x33 := (Xq.out.at_ 1 (.int .i64 a5) rfl).1
                     have x34 := (Xq.out.at_ 2 (.slice v5o L5.length v5c) rfl).1
                     have x35 := (Xr.out.at_ 0 (.bool g3) rfl).1
                     have x36 := (Xr.out.at_ 1 (.slice u3o R3.length u3c) rfl).1
                     obtain ⟨x37, f37⟩ := Xo.out.at_ 0 (.bool false) rfl
                     obtain ⟨x38, f38⟩ := Xo.out.at_ 1 (.int .i64 0) rfl
                     obtain ⟨x39, f39⟩ := Xo.out.at_ 2 (.slice none 0 0) rfl
                     obtain ⟨x40, f40⟩ := Xk.out.at_ 0 (.bool false) rfl
                     obtain ⟨x41, f41⟩ := Xk.out.at_ 1 (.slice none 0 0) rfl
                     have nTo := T5.out.ne_box Xo.out (ns3 _ _ _ _ _); have nTk := T5.out.ne_box Xk.out (ns2 _ _ _ _); have nSo := S3.out.ne_box Xo.out (ns3 _ _ _ _ _); have nSk := S3.out.ne_box Xk.out (ns2 _ _ _ _)
                     have NT := Lib.hid (fun hL b hb => And.intro (nTo hL b hb) (nTk hL b hb)); have NS := Lib.hid (fun hL b hb => And.intro (nSo hL b hb) (nSk hL b hb)); clear nTo nTk nSo nSk
                     obtain ⟨_, N1, N2, N3⟩ := HQB.out.1
                     have M1 := N1.symm; have M2 := N2.symm; have M3 := N3.symm
                     go_wp2_with fail
                     go_region
                     all_goals
                      go_wp2_with fail
                      obtain ⟨r0, r1, r2, r3, r4⟩ := boxes_end5 Xo.out Xk.out (.bool false) (.int .i64 a5) (.slice v5o L5.length v5c) (.bool g3) (.slice u3o R3.length u3c)
                      have hT := T5.out.end5' (lo := w.heap.size + 1 + 1) NT.out (.bool false) (.int .i64 a5) (.slice v5o L5.length v5c) (.bool g3) (.slice u3o R3.length u3c)
                      have hU := S3.out.end5' (lo := w.heap.size + 1 + 1) NS.out (.bool false) (.int .i64 a5) (.slice v5o L5.length v5c) (.bool g3) (.slice u3o R3.length u3c)
                      have hBB := below_end5' HB.out (lo := w.heap.size + 1 + 1) (Nat.le_add_right_of_le (Nat.le_add_right _ _)) (.bool false) (.int .i64 a5) (.slice v5o L5.length v5c) (.bool g3) (.slice u3o R3.length u3c)
                      refine bodyPost_ret (v := .tuple #[.agg #[.bool false, .int .i64 a5, .slice v5o L5.length v5c], .bool true, .agg #[.bool g3, .slice u3o R3.length u3c], .int .i64 0]) (by simp [results, Tryz.results38, go_sem, r0, r1, r2, r3, r4]) rfl (RR.out _ _ ⟨?_, .inr ⟨HVV.out, L3, A3.out, .inr (.inr ⟨hL3, HNE.out, _, L5, _, R3, by rw [HE3.out, HG3.out, HA3.out, HA5.out], ?_, ?_, R3'.out, A5.out⟩)⟩⟩)
                      · first | with_reducible exact hBB | with_reducible exact hBB.drew
                      · first | with_reducible exact hT | with_reducible exact hT.drew
                      · first | with_reducible exact hU | with_reducible exact hU.drew
                   · have HNN := Lib.hid (show inEx kind false = false ∧ L3 = [] from ⟨HE3.out, d5.out.2 (by simpa using hn)⟩)
                     clear d5
                     obtain ⟨x27, f27⟩ := Xq.out.at_ 0 (.bool false) rfl
                     obtain ⟨x28, f28⟩ := Xq.out.at_ 1 (.int .i64 a3) rfl
                     obtain ⟨x29, f29⟩ := Xq.out.at_ 2 (.slice v3o L3.length v3c) rfl
                     have x30 := (Xr.out.at_ 0 (.bool g3) rfl).1
                     have x31 := (Xr.out.at_ 1 (.slice u3o R3.length u3c) rfl).1
                     go_upto_region 15 with fail
                     clear x27 f27 x28 f28 x29 f29 x30 x31
                     obtain ⟨V1, hV1⟩ : ∃ V1, V1 = (((w4.setCell ⟨w3.heap.size, 0, none⟩ (.bool false)).setCell ⟨w3.heap.size, 1, none⟩ (.int .i64 a5)).setCell ⟨w3.heap.size, 2, none⟩ (.slice v5o L5.length v5c)) := ⟨_, rfl⟩
                     rw [← hV1]
                     have nTLq := TL.out.ne_box Xq.out (ns3 _ _ _ _ _)
                     have nT3q := T3.out.ne_box Xq.out (ns3 _ _ _ _ _)
                     have nT5q := T5.out.ne_box Xq.out (ns3 _ _ _ _ _)
                     have nSCq := SC.out.ne_box Xq.out (ns3 _ _ _ _ _)
                     have nSSq := SS.out.ne_box Xq.out (ns3 _ _ _ _ _)
                     have nS3q := S3.out.ne_box Xq.out (ns3 _ _ _ _ _)
                     replace TL := Lib.hid (show Tms V1 _ _ from by rw [hV1]; exact (((TL.out.apart (p := ⟨w3.heap.size, 0, none⟩) nTLq (.bool false)).apart (p := ⟨w3.heap.size, 1, none⟩) nTLq (.int .i64 a5)).apart (p := ⟨w3.heap.size, 2, none⟩) nTLq (.slice v5o L5.length v5c)))
                     clear nTLq
                     replace T3 := Lib.hid (show Tms V1 _ _ from by rw [hV1]; exact (((T3.out.apart (p := ⟨w3.heap.size, 0, none⟩) nT3q (.bool false)).apart (p := ⟨w3.heap.size, 1, none⟩) nT3q (.int .i64 a5)).apart (p := ⟨w3.heap.size, 2, none⟩) nT3q (.slice v5o L5.length v5c)))
                     clear nT3q
                     replace T5 := Lib.hid (show Tms V1 _ _ from by rw [hV1]; exact (((T5.out.apart (p := ⟨w3.heap.size, 0, none⟩) nT5q (.bool false)).apart (p := ⟨w3.heap.size, 1, none⟩) nT5q (.int .i64 a5)).apart (p := ⟨w3.heap.size, 2, none⟩) nT5q (.slice v5o L5.length v5c)))
                     clear nT5q
                     replace SC := Lib.hid (show Strs V1 _ _ from by rw [hV1]; exact (((SC.out.apart' (p := ⟨w3.heap.size, 0, none⟩) nSCq (.bool false)).apart' (p := ⟨w3.heap.size, 1, none⟩) nSCq (.int .i64 a5)).apart' (p := ⟨w3.heap.size, 2, none⟩) nSCq (.slice v5o L5.length v5c)))
                     clear nSCq
                     replace SS := Lib.hid (show Strs V1 _ _ from by rw [hV1]; exact (((SS.out.apart' (p := ⟨w3.heap.size, 0, none⟩) nSSq (.bool false)).apart' (p := ⟨w3.heap.size, 1, none⟩) nSSq (.int .i64 a5)).apart' (p := ⟨w3.heap.size, 2, none⟩) nSSq (.slice v5o L5.length v5c)))
                     clear nSSq
                     replace S3 := Lib.hid (show Strs V1 _ _ from by rw [hV1]; exact (((S3.out.apart' (p := ⟨w3.heap.size, 0, none⟩) nS3q (.bool false)).apart' (p := ⟨w3.heap.size, 1, none⟩) nS3q (.int .i64 a5)).apart' (p := ⟨w3.heap.size, 2, none⟩) nS3q (.slice v5o L5.length v5c)))
                     clear nS3q
                     have HBn := Lib.hid (show Below w.heap.size w V1 from by rw [hV1]; exact (((HB.out.setCell (p := ⟨w3.heap.size, 0, none⟩) HQB.out.2.2.2.1 (.bool false)).setCell (p := ⟨w3.heap.size, 1, none⟩) HQB.out.2.2.2.1 (.int .i64 a5)).setCell (p := ⟨w3.heap.size, 2, none⟩) HQB.out.2.2.2.1 (.slice v5o L5.length v5c)))
                     have Xns := Lib.hid (show CBox V1 (w.heap.size) 71 #[.bool false, .int .i64 0, .slice vo L.length vc] from by rw [hV1]; simpa using (((Xs.out.far (p := ⟨w3.heap.size, 0, none⟩) HQB.out.1.1 (.bool false)).far (p := ⟨w3.heap.size, 1, none⟩) HQB.out.1.1 (.int .i64 a5)).far (p := ⟨w3.heap.size, 2, none⟩) HQB.out.1.1 (.slice v5o L5.length v5c)))
                     have Xnc := Lib.hid (show CBox V1 (w.heap.size + 1) 39 #[.int .i64 kind, .string g, .slice ro C.length rc] from by rw [hV1]; simpa using (((Xc.out.far (p := ⟨w3.heap.size, 0, none⟩) HQB.out.1.2.1 (.bool false)).far (p := ⟨w3.heap.size, 1, none⟩) HQB.out.1.2.1 (.int .i64 a5)).far (p := ⟨w3.heap.size, 2, none⟩) HQB.out.1.2.1 (.slice v5o L5.length v5c)))
                     have Xno := Lib.hid (show CBox V1 (w.heap.size + 1 + 1) 71 #[.bool false, .int .i64 0, .slice none 0 0] from by rw [hV1]; simpa using (((Xo.out.far (p := ⟨w3.heap.size, 0, none⟩) HQB.out.1.2.2.1 (.bool false)).far (p := ⟨w3.heap.size, 1, none⟩) HQB.out.1.2.2.1 (.int .i64 a5)).far (p := ⟨w3.heap.size, 2, none⟩) HQB.out.1.2.2.1 (.slice v5o L5.length v5c)))
                     have Xnk := Lib.hid (show CBox V1 (w.heap.size + 1 + 1 + 1) 59 #[.bool false, .slice none 0 0] from by rw [hV1]; simpa using (((Xk.out.far (p := ⟨w3.heap.size, 0, none⟩) HQB.out.1.2.2.2 (.bool false)).far (p := ⟨w3.heap.size, 1, none⟩) HQB.out.1.2.2.2 (.int .i64 a5)).far (p := ⟨w3.heap.size, 2, none⟩) HQB.out.1.2.2.2 (.slice v5o L5.length v5c)))
                     have Xnq := Lib.hid (show CBox V1 (w3.heap.size) 71 #[.bool false, .int .i64 a5, .slice v5o L5.length v5c] from by rw [hV1]; simpa using (((Xq.out.set 0 (.bool false)).set 1 (.int .i64 a5)).set 2 (.slice v5o L5.length v5c)))
                     have Xnr := Lib.hid (show CBox V1 (w3.heap.size + 1) 59 #[.bool g3, .slice u3o R3.length u3c] from by rw [hV1]; simpa using (((Xr.out.far (p := ⟨w3.heap.size, 0, none⟩) HQB.out.2.2.1.1 (.bool false)).far (p := ⟨w3.heap.size, 1, none⟩) HQB.out.2.2.1.1 (.int .i64 a5)).far (p := ⟨w3.heap.size, 2, none⟩) HQB.out.2.2.1.1 (.slice v5o L5.length v5c)))
                     replace Xs := Xns; clear Xns
                     replace Xc := Xnc; clear Xnc
                     replace Xo := Xno; clear Xno
                     replace Xk := Xnk; clear Xnk
                     replace Xq := Xnq; clear Xnq
                     replace Xr := Xnr; clear Xnr
                     replace HB := HBn; clear HBn
                     clear hV1
                     obtain ⟨x32, f32⟩ := Xo.out.at_ 0 (.bool false) rfl
                     obtain ⟨x33, f33⟩ := Xo.out.at_ 1 (.int .i64 0) rfl
                     obtain ⟨x34, f34⟩ := Xo.out.at_ 2 (.slice none 0 0) rfl
                     obtain ⟨x35, f35⟩ := Xk.out.at_ 0 (.bool false) rfl
                     obtain ⟨x36, f36⟩ := Xk.out.at_ 1 (.slice none 0 0) rfl
                     go_wp2
                     obtain ⟨r0, r1, r2, r3, r4⟩ := boxes_end5 Xo.out Xk.out (.bool false) (.int .i64 0) (.slice none 0 0) (.bool false) (.slice none 0 0)
                     have hBB := below_end5' HB.out (lo := w.heap.size + 1 + 1) (Nat.le_add_right_of_le (Nat.le_add_right _ _)) (.bool false) (.int .i64 0) (.slice none 0 0) (.bool false) (.slice none 0 0)
                     refine bodyPost_ret (v := .tuple #[noState, .bool false, noAsk, .int .i64 0]) (by simp only [results, Tryz.results38, go_sem, noState, noAsk]; simp [go_sem, r0, r1, r2, r3, r4]) rfl (RR.out _ _ ⟨hBB, .inr ⟨HVV.out, L3, A3.out, .inr (.inl ⟨hL3, HNN.out, rfl⟩)⟩⟩)
                 · have HNE := Lib.hid (show ¬ (inEx kind false = false ∧ L3 = []) from fun h => by have := HE3.out; rw [h.1] at this; cases this)
                   obtain ⟨x27, f27⟩ := Xq.out.at_ 0 (.bool true) rfl
                   obtain ⟨x28, f28⟩ := Xq.out.at_ 1 (.int .i64 a3) rfl
                   obtain ⟨x29, f29⟩ := Xq.out.at_ 2 (.slice v3o L3.length v3c) rfl
                   have x30 := (Xr.out.at_ 0 (.bool g3) rfl).1
                   have x31 := (Xr.out.at_ 1 (.slice u3o R3.length u3c) rfl).1
                   go_wp2_with fail
                   clear x27 f27 x28 f28 x29 f29 x30 x31
                   obtain ⟨V1, hV1⟩ : ∃ V1, V1 = (((w4.setCell ⟨w3.heap.size, 0, none⟩ (.bool true)).setCell ⟨w3.heap.size, 1, none⟩ (.int .i64 a5)).setCell ⟨w3.heap.size, 2, none⟩ (.slice v5o L5.length v5c)) := ⟨_, rfl⟩
                   rw [← hV1]
                   have nTLq := TL.out.ne_box Xq.out (ns3 _ _ _ _ _)
                   have nT3q := T3.out.ne_box Xq.out (ns3 _ _ _ _ _)
                   have nT5q := T5.out.ne_box Xq.out (ns3 _ _ _ _ _)
                   have nSCq := SC.out.ne_box Xq.out (ns3 _ _ _ _ _)
                   have nSSq := SS.out.ne_box Xq.out (ns3 _ _ _ _ _)
                   have nS3q := S3.out.ne_box Xq.out (ns3 _ _ _ _ _)
                   replace TL := Lib.hid (show Tms V1 _ _ from by rw [hV1]; exact (((TL.out.apart (p := ⟨w3.heap.size, 0, none⟩) nTLq (.bool true)).apart (p := ⟨w3.heap.size, 1, none⟩) nTLq (.int .i64 a5)).apart (p := ⟨w3.heap.size, 2, none⟩) nTLq (.slice v5o L5.length v5c)))
                   clear nTLq
                   replace T3 := Lib.hid (show Tms V1 _ _ from by rw [hV1]; exact (((T3.out.apart (p := ⟨w3.heap.size, 0, none⟩) nT3q (.bool true)).apart (p := ⟨w3.heap.size, 1, none⟩) nT3q (.int .i64 a5)).apart (p := ⟨w3.heap.size, 2, none⟩) nT3q (.slice v5o L5.length v5c)))
                   clear nT3q
                   replace T5 := Lib.hid (show Tms V1 _ _ from by rw [hV1]; exact (((T5.out.apart (p := ⟨w3.heap.size, 0, none⟩) nT5q (.bool true)).apart (p := ⟨w3.heap.size, 1, none⟩) nT5q (.int .i64 a5)).apart (p := ⟨w3.heap.size, 2, none⟩) nT5q (.slice v5o L5.length v5c)))
                   clear nT5q
                   replace SC := Lib.hid (show Strs V1 _ _ from by rw [hV1]; exact (((SC.out.apart' (p := ⟨w3.heap.size, 0, none⟩) nSCq (.bool true)).apart' (p := ⟨w3.heap.size, 1, none⟩) nSCq (.int .i64 a5)).apart' (p := ⟨w3.heap.size, 2, none⟩) nSCq (.slice v5o L5.length v5c)))
                   clear nSCq
                   replace SS := Lib.hid (show Strs V1 _ _ from by rw [hV1]; exact (((SS.out.apart' (p := ⟨w3.heap.size, 0, none⟩) nSSq (.bool true)).apart' (p := ⟨w3.heap.size, 1, none⟩) nSSq (.int .i64 a5)).apart' (p := ⟨w3.heap.size, 2, none⟩) nSSq (.slice v5o L5.length v5c)))
                   clear nSSq
                   replace S3 := Lib.hid (show Strs V1 _ _ from by rw [hV1]; exact (((S3.out.apart' (p := ⟨w3.heap.size, 0, none⟩) nS3q (.bool true)).apart' (p := ⟨w3.heap.size, 1, none⟩) nS3q (.int .i64 a5)).apart' (p := ⟨w3.heap.size, 2, none⟩) nS3q (.slice v5o L5.length v5c)))
                   clear nS3q
                   have HBn := Lib.hid (show Below w.heap.size w V1 from by rw [hV1]; exact (((HB.out.setCell (p := ⟨w3.heap.size, 0, none⟩) HQB.out.2.2.2.1 (.bool true)).setCell (p := ⟨w3.heap.size, 1, none⟩) HQB.out.2.2.2.1 (.int .i64 a5)).setCell (p := ⟨w3.heap.size, 2, none⟩) HQB.out.2.2.2.1 (.slice v5o L5.length v5c)))
                   have Xns := Lib.hid (show CBox V1 (w.heap.size) 71 #[.bool false, .int .i64 0, .slice vo L.length vc] from by rw [hV1]; simpa using (((Xs.out.far (p := ⟨w3.heap.size, 0, none⟩) HQB.out.1.1 (.bool true)).far (p := ⟨w3.heap.size, 1, none⟩) HQB.out.1.1 (.int .i64 a5)).far (p := ⟨w3.heap.size, 2, none⟩) HQB.out.1.1 (.slice v5o L5.length v5c)))
                   have Xnc := Lib.hid (show CBox V1 (w.heap.size + 1) 39 #[.int .i64 kind, .string g, .slice ro C.length rc] from by rw [hV1]; simpa using (((Xc.out.far (p := ⟨w3.heap.size, 0, none⟩) HQB.out.1.2.1 (.bool true)).far (p := ⟨w3.heap.size, 1, none⟩) HQB.out.1.2.1 (.int .i64 a5)).far (p := ⟨w3.heap.size, 2, none⟩) HQB.out.1.2.1 (.slice v5o L5.length v5c)))
                   have Xno := Lib.hid (show CBox V1 (w.heap.size + 1 + 1) 71 #[.bool false, .int .i64 0, .slice none 0 0] from by rw [hV1]; simpa using (((Xo.out.far (p := ⟨w3.heap.size, 0, none⟩) HQB.out.1.2.2.1 (.bool true)).far (p := ⟨w3.heap.size, 1, none⟩) HQB.out.1.2.2.1 (.int .i64 a5)).far (p := ⟨w3.heap.size, 2, none⟩) HQB.out.1.2.2.1 (.slice v5o L5.length v5c)))
                   have Xnk := Lib.hid (show CBox V1 (w.heap.size + 1 + 1 + 1) 59 #[.bool false, .slice none 0 0] from by rw [hV1]; simpa using (((Xk.out.far (p := ⟨w3.heap.size, 0, none⟩) HQB.out.1.2.2.2 (.bool true)).far (p := ⟨w3.heap.size, 1, none⟩) HQB.out.1.2.2.2 (.int .i64 a5)).far (p := ⟨w3.heap.size, 2, none⟩) HQB.out.1.2.2.2 (.slice v5o L5.length v5c)))
                   have Xnq := Lib.hid (show CBox V1 (w3.heap.size) 71 #[.bool true, .int .i64 a5, .slice v5o L5.length v5c] from by rw [hV1]; simpa using (((Xq.out.set 0 (.bool true)).set 1 (.int .i64 a5)).set 2 (.slice v5o L5.length v5c)))
                   have Xnr := Lib.hid (show CBox V1 (w3.heap.size + 1) 59 #[.bool g3, .slice u3o R3.length u3c] from by rw [hV1]; simpa using (((Xr.out.far (p := ⟨w3.heap.size, 0, none⟩) HQB.out.2.2.1.1 (.bool true)).far (p := ⟨w3.heap.size, 1, none⟩) HQB.out.2.2.1.1 (.int .i64 a5)).far (p := ⟨w3.heap.size, 2, none⟩) HQB.out.2.2.1.1 (.slice v5o L5.length v5c)))
                   replace Xs := Xns; clear Xns
                   replace Xc := Xnc; clear Xnc
                   replace Xo := Xno; clear Xno
                   replace Xk := Xnk; clear Xnk
                   replace Xq := Xnq; clear Xnq
                   replace Xr := Xnr; clear Xnr
                   replace HB := HBn; clear HBn
                   clear hV1
                   have x32 := (Xq.out.at_ 0 (.bool true) rfl).1
                   have x33 := (Xq.out.at_ 1 (.int .i64 a5) rfl).1
                   have x34 := (Xq.out.at_ 2 (.slice v5o L5.length v5c) rfl).1
                   have x35 := (Xr.out.at_ 0 (.bool g3) rfl).1
                   have x36 := (Xr.out.at_ 1 (.slice u3o R3.length u3c) rfl).1
                   obtain ⟨x37, f37⟩ := Xo.out.at_ 0 (.bool false) rfl
                   obtain ⟨x38, f38⟩ := Xo.out.at_ 1 (.int .i64 0) rfl
                   obtain ⟨x39, f39⟩ := Xo.out.at_ 2 (.slice none 0 0) rfl
                   obtain ⟨x40, f40⟩ := Xk.out.at_ 0 (.bool false) rfl
                   obtain ⟨x41, f41⟩ := Xk.out.at_ 1 (.slice none 0 0) rfl
                   have nTo := T5.out.ne_box Xo.out (ns3 _ _ _ _ _); have nTk := T5.out.ne_box Xk.out (ns2 _ _ _ _); have nSo := S3.out.ne_box Xo.out (ns3 _ _ _ _ _); have nSk := S3.out.ne_box Xk.out (ns2 _ _ _ _)
                   have NT := Lib.hid (fun hL b hb => And.intro (nTo hL b hb) (nTk hL b hb)); have NS := Lib.hid (fun hL b hb => And.intro (nSo hL b hb) (nSk hL b hb)); clear nTo nTk nSo nSk
                   obtain ⟨_, N1, N2, N3⟩ := HQB.out.1
                   have M1 := N1.symm; have M2 := N2.symm; have M3 := N3.symm
                   go_wp2_with fail
                   go_region
                   all_goals
                    go_wp2_with fail
                    obtain ⟨r0, r1, r2, r3, r4⟩ := boxes_end5 Xo.out Xk.out (.bool true) (.int .i64 a5) (.slice v5o L5.length v5c) (.bool g3) (.slice u3o R3.length u3c)
                    have hT := T5.out.end5' (lo := w.heap.size + 1 + 1) NT.out (.bool true) (.int .i64 a5) (.slice v5o L5.length v5c) (.bool g3) (.slice u3o R3.length u3c)
                    have hU := S3.out.end5' (lo := w.heap.size + 1 + 1) NS.out (.bool true) (.int .i64 a5) (.slice v5o L5.length v5c) (.bool g3) (.slice u3o R3.length u3c)
                    have hBB := below_end5' HB.out (lo := w.heap.size + 1 + 1) (Nat.le_add_right_of_le (Nat.le_add_right _ _)) (.bool true) (.int .i64 a5) (.slice v5o L5.length v5c) (.bool g3) (.slice u3o R3.length u3c)
                    refine bodyPost_ret (v := .tuple #[.agg #[.bool true, .int .i64 a5, .slice v5o L5.length v5c], .bool true, .agg #[.bool g3, .slice u3o R3.length u3c], .int .i64 0]) (by simp [results, Tryz.results38, go_sem, r0, r1, r2, r3, r4]) rfl (RR.out _ _ ⟨?_, .inr ⟨HVV.out, L3, A3.out, .inr (.inr ⟨hL3, HNE.out, _, L5, _, R3, by rw [HE3.out, HG3.out, HA3.out, HA5.out], ?_, ?_, R3'.out, A5.out⟩)⟩⟩)
                    · first | with_reducible exact hBB | with_reducible exact hBB.drew
                    · first | with_reducible exact hT | with_reducible exact hT.drew
                    · first | with_reducible exact hU | with_reducible exact hU.drew
               · have hL3 : 60 < L3.length := by have := of_decide_eq_true d4; omega
                 have x19 := (Xs.out.at_ 0 (.bool false) rfl).1
                 have x20 := (Xs.out.at_ 1 (.int .i64 0) rfl).1
                 have x21 := (Xs.out.at_ 2 (.slice vo L.length vc) rfl).1
                 have x22 := (Xq.out.at_ 0 (.bool e3) rfl).1
                 have x23 := (Xq.out.at_ 1 (.int .i64 a3) rfl).1
                 have x24 := (Xq.out.at_ 2 (.slice v3o L3.length v3c) rfl).1
                 have x25 := (Xr.out.at_ 0 (.bool g3) rfl).1
                 have x26 := (Xr.out.at_ 1 (.slice u3o R3.length u3c) rfl).1
                 obtain ⟨x27, f27⟩ := Xo.out.at_ 0 (.bool false) rfl
                 obtain ⟨x28, f28⟩ := Xo.out.at_ 1 (.int .i64 0) rfl
                 obtain ⟨x29, f29⟩ := Xo.out.at_ 2 (.slice none 0 0) rfl
                 obtain ⟨x30, f30⟩ := Xk.out.at_ 0 (.bool false) rfl
                 obtain ⟨x31, f31⟩ := Xk.out.at_ 1 (.slice none 0 0) rfl
                 go_wp2
                 obtain ⟨r0, r1, r2, r3, r4⟩ := boxes_end5 Xo.out Xk.out (.bool false) (.int .i64 0) (.slice none 0 0) (.bool false) (.slice none 0 0)
                 have hBB := below_end5' HB.out (lo := w.heap.size + 1 + 1) (Nat.le_add_right_of_le (Nat.le_add_right _ _)) (.bool false) (.int .i64 0) (.slice none 0 0) (.bool false) (.slice none 0 0)
                 refine bodyPost_ret (v := .tuple #[noState, .bool false, noAsk, .int .i64 1]) (by simp only [results, Tryz.results38, go_sem, noState, noAsk]; simp [go_sem, r0, r1, r2, r3, r4]) rfl (RR.out _ _ ⟨hBB, .inr ⟨HVV.out, L3, A3.out, .inl ⟨hL3, rfl⟩⟩⟩)
             · have h1 : 1 ≤ at' := by have h0 := pcheck_iff.1 HP.out; have h2 := h0.2.2.1; simp at h2; omega
               have RR := Lib.hid (show ∀ e w', RetRapp w true at' L kind (sasc C) C.length now mem last e w' → RetRapp w (true && true) (if true = true then at' else 0) (if true = true then L else []) kind (sasc C) C.length now mem last e w' from fun e w' h => by simpa using h)
               have x4 := (Xs.out.at_ 0 (.bool true) rfl).1
               have x5 := (Xs.out.at_ 1 (.int .i64 at') rfl).1
               have x6 := (Xs.out.at_ 2 (.slice vo L.length vc) rfl).1
               have x7 := (Xc.out.at_ 0 (.int .i64 kind) rfl).1
               have x8 := (Xc.out.at_ 1 (.string g) rfl).1
               have x9 := (Xc.out.at_ 2 (.slice ro C.length rc) rfl).1
               go_wp2_with ((with_reducible refine (HM.out _).mono ?_); rintro e w2 ⟨rfl, hw2⟩; subst w2)
               clear x4 x5 x6 x7 x8 x9
               clear HM
               have HPK := Lib.hid (pcheck_iff.1 HVP.out).1
               have HAS := Lib.hid (pcheck_asc HVP.out)
               have HGD := Lib.hid (pcheck_good HVP.out)
               have HVV := Lib.hid (show verdict (pcheck true (at') L) kind C.length now mem last = 0 from by rw [HVP.out]; exact HV.out)
               have x10 := (Xc.out.at_ 0 (.int .i64 kind) rfl).1
               have x11 := (Xc.out.at_ 1 (.string g) rfl).1
               have x12 := (Xc.out.at_ 2 (.slice ro C.length rc) rfl).1
               have HC := Lib.hid (srising_any _ C _ SC.out)
               go_wp2_with fail
               refine HC.out.mono ?_
               clear HC
               clear x10 x11 x12
               rintro e w2 ⟨o, rfl, hs, hb, _⟩
               obtain ⟨so, sc, rfl⟩ := hs.shape
               have SS := Lib.hid hs
               clear hs
               replace Xs := Lib.hid (Xs.out.below hb Xs.out.lt)
               replace Xc := Lib.hid (Xc.out.below hb Xc.out.lt)
               replace Xo := Lib.hid (Xo.out.below hb Xo.out.lt)
               replace Xk := Lib.hid (Xk.out.below hb Xk.out.lt)
               replace TL := Lib.hid (TL.out.mono hb)
               replace SC := Lib.hid (SC.out.mono hb)
               replace HB := Lib.hid (HB.out.trans (hb.mono HB.out.size))
               clear hb
               have x13 := (Xs.out.at_ 0 (.bool true) rfl).1
               have x14 := (Xs.out.at_ 1 (.int .i64 at') rfl).1
               have x15 := (Xs.out.at_ 2 (.slice vo L.length vc) rfl).1
               have x16 := (Xc.out.at_ 0 (.int .i64 kind) rfl).1
               have x17 := (Xc.out.at_ 1 (.string g) rfl).1
               have x18 := (Xc.out.at_ 2 (.slice ro C.length rc) rfl).1
               have HC := Lib.hid (rsome_any true at' _ L kind _ (sasc C) (now + mem) _ hk1 hk2 TL.out HAS.out SS.out HPK.out HCS.out WFM.out)
               go_wp2_with fail
               refine HC.out.mono ?_
               clear HC
               clear x13 x14 x15 x16 x17 x18
               rintro e w3 ⟨e2, a2, F2, g2, R2, v2, L2, u2, rfl, hT2, _, hU2, hb⟩
               obtain ⟨v2o, v2c, rfl⟩ := hT2.shape
               obtain ⟨u2o, u2c, rfl⟩ := hU2.shape
               clear hT2 hU2
               replace Xs := Lib.hid (Xs.out.below hb Xs.out.lt)
               replace Xc := Lib.hid (Xc.out.below hb Xc.out.lt)
               replace Xo := Lib.hid (Xo.out.below hb Xo.out.lt)
               replace Xk := Lib.hid (Xk.out.below hb Xk.out.lt)
               replace TL := Lib.hid (TL.out.mono hb)
               replace SC := Lib.hid (SC.out.mono hb)
               replace SS := Lib.hid (SS.out.mono hb)
               replace HB := Lib.hid (HB.out.trans (hb.mono HB.out.size))
               clear hb
               have HQB := Lib.hid (bn_far (a := w.heap.size) (b := w3.heap.size) Xk.out.lt)
               have hba : Below w3.heap.size w3 ((w3.alloc (.cells #[.bool e2, .int .i64 a2, .slice v2o L2.length v2c] 71)).alloc (.cells #[.bool g2, .slice u2o R2.length u2c] 59)) := (((Below.refl _ _).alloc (Nat.le_refl _) _).alloc (by simp <;> omega) _)
               replace Xs := Lib.hid (Xs.out.below hba Xs.out.lt)
               replace Xc := Lib.hid (Xc.out.below hba Xc.out.lt)
               replace Xo := Lib.hid (Xo.out.below hba Xo.out.lt)
               replace Xk := Lib.hid (Xk.out.below hba Xk.out.lt)
               replace TL := Lib.hid (TL.out.mono hba)
               replace SC := Lib.hid (SC.out.mono hba)
               replace SS := Lib.hid (SS.out.mono hba)
               replace HB := Lib.hid (HB.out.trans (hba.mono HB.out.size))
               have Xq := Lib.hid (show CBox ((w3.alloc (.cells #[.bool e2, .int .i64 a2, .slice v2o L2.length v2c] 71)).alloc (.cells #[.bool g2, .slice u2o R2.length u2c] 59)) (w3.heap.size) 71 #[.bool e2, .int .i64 a2, .slice v2o L2.length v2c] from ((CBox.new _ (by simp)).old _))
               have Xr := Lib.hid (show CBox ((w3.alloc (.cells #[.bool e2, .int .i64 a2, .slice v2o L2.length v2c] 71)).alloc (.cells #[.bool g2, .slice u2o R2.length u2c] 59)) (w3.heap.size + 1) 59 #[.bool g2, .slice u2o R2.length u2c] from (CBox.new _ (by simp)))
               clear hba
               have x19 := (Xs.out.at_ 0 (.bool true) rfl).1
               have x20 := (Xs.out.at_ 1 (.int .i64 at') rfl).1
               have x21 := (Xs.out.at_ 2 (.slice vo L.length vc) rfl).1
               have x22 := (Xc.out.at_ 0 (.int .i64 kind) rfl).1
               have x23 := (Xc.out.at_ 1 (.string g) rfl).1
               have x24 := (Xc.out.at_ 2 (.slice ro C.length rc) rfl).1
               have HC := Lib.hid (rbut_in at' _ L kind _ (sasc C) (now + mem) _ hk1 hk2 TL.out HAS.out h1 SS.out HPK.out HCS.out WFM.out HWA.out)
               go_wp2_with fail
               refine HC.out.mono ?_
               clear HC
               clear x19 x20 x21 x22 x23 x24
               rintro e w4 ⟨v3, L3, u3, R3, rfl, hT3, hA3, hU3, hR3, hl3, hb⟩
               obtain ⟨v3o, v3c, rfl⟩ := hT3.shape
               obtain ⟨u3o, u3c, rfl⟩ := hU3.shape
               have T3 := Lib.hid hT3; have S3 := Lib.hid hU3; have A3 := Lib.hid hA3; have R3' := Lib.hid hR3; have L3' := Lib.hid hl3
               clear hT3 hU3 hA3 hR3 hl3
               obtain ⟨e3, he3⟩ : ∃ e3, inEx kind true = e3 := ⟨_, rfl⟩
               obtain ⟨a3, ha3⟩ : ∃ a3, inAt kind at' (now + mem) = a3 := ⟨_, rfl⟩
               obtain ⟨g3, hg3⟩ : ∃ g3, inG kind true = g3 := ⟨_, rfl⟩
               rw [he3, ha3, hg3]
               have HE3 := Lib.hid he3; have HA3 := Lib.hid ha3; have HG3 := Lib.hid hg3
               clear he3 ha3 hg3
               replace Xs := Lib.hid (Xs.out.below hb Xs.out.lt)
               replace Xc := Lib.hid (Xc.out.below hb Xc.out.lt)
               replace Xo := Lib.hid (Xo.out.below hb Xo.out.lt)
               replace Xk := Lib.hid (Xk.out.below hb Xk.out.lt)
               replace Xq := Lib.hid (Xq.out.below hb Xq.out.lt)
               replace Xr := Lib.hid (Xr.out.below hb Xr.out.lt)
               replace TL := Lib.hid (TL.out.mono hb)
               replace SC := Lib.hid (SC.out.mono hb)
               replace SS := Lib.hid (SS.out.mono hb)
               replace HB := Lib.hid (HB.out.trans (hb.mono HB.out.size))
               clear hb
               obtain ⟨x25, f25⟩ := Xq.out.at_ 0 (.bool e2) rfl
               obtain ⟨x26, f26⟩ := Xq.out.at_ 1 (.int .i64 a2) rfl
               obtain ⟨x27, f27⟩ := Xq.out.at_ 2 (.slice v2o L2.length v2c) rfl
               obtain ⟨x28, f28⟩ := Xr.out.at_ 0 (.bool g2) rfl
               obtain ⟨x29, f29⟩ := Xr.out.at_ 1 (.slice u2o R2.length u2c) rfl
               go_upto_region 11 with fail
               clear x25 f25 x26 f26 x27 f27 x28 f28 x29 f29
               obtain ⟨V1, hV1⟩ : ∃ V1, V1 = (((((w4.setCell ⟨w3.heap.size, 0, none⟩ (.bool e3)).setCell ⟨w3.heap.size, 1, none⟩ (.int .i64 a3)).setCell ⟨w3.heap.size, 2, none⟩ (.slice v3o L3.length v3c)).setCell ⟨w3.heap.size + 1, 0, none⟩ (.bool g3)).setCell ⟨w3.heap.size + 1, 1, none⟩ (.slice u3o R3.length u3c)) := ⟨_, rfl⟩
               rw [← hV1]
               have nTLq := TL.out.ne_box Xq.out (ns3 _ _ _ _ _)
               have nTLr := TL.out.ne_box Xr.out (ns2 _ _ _ _)
               have nT3q := T3.out.ne_box Xq.out (ns3 _ _ _ _ _)
               have nT3r := T3.out.ne_box Xr.out (ns2 _ _ _ _)
               have nSCq := SC.out.ne_box Xq.out (ns3 _ _ _ _ _)
               have nSCr := SC.out.ne_box Xr.out (ns2 _ _ _ _)
               have nSSq := SS.out.ne_box Xq.out (ns3 _ _ _ _ _)
               have nSSr := SS.out.ne_box Xr.out (ns2 _ _ _ _)
               have nS3q := S3.out.ne_box Xq.out (ns3 _ _ _ _ _)
               have nS3r := S3.out.ne_box Xr.out (ns2 _ _ _ _)
               replace TL := Lib.hid (show Tms V1 _ _ from by rw [hV1]; exact (((((TL.out.apart (p := ⟨w3.heap.size, 0, none⟩) nTLq (.bool e3)).apart (p := ⟨w3.heap.size, 1, none⟩) nTLq (.int .i64 a3)).apart (p := ⟨w3.heap.size, 2, none⟩) nTLq (.slice v3o L3.length v3c)).apart (p := ⟨w3.heap.size + 1, 0, none⟩) nTLr (.bool g3)).apart (p := ⟨w3.heap.size + 1, 1, none⟩) nTLr (.slice u3o R3.length u3c)))
               clear nTLq nTLr
               replace T3 := Lib.hid (show Tms V1 _ _ from by rw [hV1]; exact (((((T3.out.apart (p := ⟨w3.heap.size, 0, none⟩) nT3q (.bool e3)).apart (p := ⟨w3.heap.size, 1, none⟩) nT3q (.int .i64 a3)).apart (p := ⟨w3.heap.size, 2, none⟩) nT3q (.slice v3o L3.length v3c)).apart (p := ⟨w3.heap.size + 1, 0, none⟩) nT3r (.bool g3)).apart (p := ⟨w3.heap.size + 1, 1, none⟩) nT3r (.slice u3o R3.length u3c)))
               clear nT3q nT3r
               replace SC := Lib.hid (show Strs V1 _ _ from by rw [hV1]; exact (((((SC.out.apart' (p := ⟨w3.heap.size, 0, none⟩) nSCq (.bool e3)).apart' (p := ⟨w3.heap.size, 1, none⟩) nSCq (.int .i64 a3)).apart' (p := ⟨w3.heap.size, 2, none⟩) nSCq (.slice v3o L3.length v3c)).apart' (p := ⟨w3.heap.size + 1, 0, none⟩) nSCr (.bool g3)).apart' (p := ⟨w3.heap.size + 1, 1, none⟩) nSCr (.slice u3o R3.length u3c)))
               clear nSCq nSCr
               replace SS := Lib.hid (show Strs V1 _ _ from by rw [hV1]; exact (((((SS.out.apart' (p := ⟨w3.heap.size, 0, none⟩) nSSq (.bool e3)).apart' (p := ⟨w3.heap.size, 1, none⟩) nSSq (.int .i64 a3)).apart' (p := ⟨w3.heap.size, 2, none⟩) nSSq (.slice v3o L3.length v3c)).apart' (p := ⟨w3.heap.size + 1, 0, none⟩) nSSr (.bool g3)).apart' (p := ⟨w3.heap.size + 1, 1, none⟩) nSSr (.slice u3o R3.length u3c)))
               clear nSSq nSSr
               replace S3 := Lib.hid (show Strs V1 _ _ from by rw [hV1]; exact (((((S3.out.apart' (p := ⟨w3.heap.size, 0, none⟩) nS3q (.bool e3)).apart' (p := ⟨w3.heap.size, 1, none⟩) nS3q (.int .i64 a3)).apart' (p := ⟨w3.heap.size, 2, none⟩) nS3q (.slice v3o L3.length v3c)).apart' (p := ⟨w3.heap.size + 1, 0, none⟩) nS3r (.bool g3)).apart' (p := ⟨w3.heap.size + 1, 1, none⟩) nS3r (.slice u3o R3.length u3c)))
               clear nS3q nS3r
               have HBn := Lib.hid (show Below w.heap.size w V1 from by rw [hV1]; exact (((((HB.out.setCell (p := ⟨w3.heap.size, 0, none⟩) HQB.out.2.2.2.1 (.bool e3)).setCell (p := ⟨w3.heap.size, 1, none⟩) HQB.out.2.2.2.1 (.int .i64 a3)).setCell (p := ⟨w3.heap.size, 2, none⟩) HQB.out.2.2.2.1 (.slice v3o L3.length v3c)).setCell (p := ⟨w3.heap.size + 1, 0, none⟩) HQB.out.2.2.2.2 (.bool g3)).setCell (p := ⟨w3.heap.size + 1, 1, none⟩) HQB.out.2.2.2.2 (.slice u3o R3.length u3c)))
               have Xns := Lib.hid (show CBox V1 (w.heap.size) 71 #[.bool true, .int .i64 at', .slice vo L.length vc] from by rw [hV1]; simpa using (((((Xs.out.far (p := ⟨w3.heap.size, 0, none⟩) HQB.out.1.1 (.bool e3)).far (p := ⟨w3.heap.size, 1, none⟩) HQB.out.1.1 (.int .i64 a3)).far (p := ⟨w3.heap.size, 2, none⟩) HQB.out.1.1 (.slice v3o L3.length v3c)).far (p := ⟨w3.heap.size + 1, 0, none⟩) HQB.out.2.1.1 (.bool g3)).far (p := ⟨w3.heap.size + 1, 1, none⟩) HQB.out.2.1.1 (.slice u3o R3.length u3c)))
               have Xnc := Lib.hid (show CBox V1 (w.heap.size + 1) 39 #[.int .i64 kind, .string g, .slice ro C.length rc] from by rw [hV1]; simpa using (((((Xc.out.far (p := ⟨w3.heap.size, 0, none⟩) HQB.out.1.2.1 (.bool e3)).far (p := ⟨w3.heap.size, 1, none⟩) HQB.out.1.2.1 (.int .i64 a3)).far (p := ⟨w3.heap.size, 2, none⟩) HQB.out.1.2.1 (.slice v3o L3.length v3c)).far (p := ⟨w3.heap.size + 1, 0, none⟩) HQB.out.2.1.2.1 (.bool g3)).far (p := ⟨w3.heap.size + 1, 1, none⟩) HQB.out.2.1.2.1 (.slice u3o R3.length u3c)))
               have Xno := Lib.hid (show CBox V1 (w.heap.size + 1 + 1) 71 #[.bool false, .int .i64 0, .slice none 0 0] from by rw [hV1]; simpa using (((((Xo.out.far (p := ⟨w3.heap.size, 0, none⟩) HQB.out.1.2.2.1 (.bool e3)).far (p := ⟨w3.heap.size, 1, none⟩) HQB.out.1.2.2.1 (.int .i64 a3)).far (p := ⟨w3.heap.size, 2, none⟩) HQB.out.1.2.2.1 (.slice v3o L3.length v3c)).far (p := ⟨w3.heap.size + 1, 0, none⟩) HQB.out.2.1.2.2.1 (.bool g3)).far (p := ⟨w3.heap.size + 1, 1, none⟩) HQB.out.2.1.2.2.1 (.slice u3o R3.length u3c)))
               have Xnk := Lib.hid (show CBox V1 (w.heap.size + 1 + 1 + 1) 59 #[.bool false, .slice none 0 0] from by rw [hV1]; simpa using (((((Xk.out.far (p := ⟨w3.heap.size, 0, none⟩) HQB.out.1.2.2.2 (.bool e3)).far (p := ⟨w3.heap.size, 1, none⟩) HQB.out.1.2.2.2 (.int .i64 a3)).far (p := ⟨w3.heap.size, 2, none⟩) HQB.out.1.2.2.2 (.slice v3o L3.length v3c)).far (p := ⟨w3.heap.size + 1, 0, none⟩) HQB.out.2.1.2.2.2 (.bool g3)).far (p := ⟨w3.heap.size + 1, 1, none⟩) HQB.out.2.1.2.2.2 (.slice u3o R3.length u3c)))
               have Xnq := Lib.hid (show CBox V1 (w3.heap.size) 71 #[.bool e3, .int .i64 a3, .slice v3o L3.length v3c] from by rw [hV1]; simpa using (((((Xq.out.set 0 (.bool e3)).set 1 (.int .i64 a3)).set 2 (.slice v3o L3.length v3c)).far (p := ⟨w3.heap.size + 1, 0, none⟩) HQB.out.2.2.1.2 (.bool g3)).far (p := ⟨w3.heap.size + 1, 1, none⟩) HQB.out.2.2.1.2 (.slice u3o R3.length u3c)))
               have Xnr := Lib.hid (show CBox V1 (w3.heap.size + 1) 59 #[.bool g3, .slice u3o R3.length u3c] from by rw [hV1]; simpa using (((((Xr.out.far (p := ⟨w3.heap.size, 0, none⟩) HQB.out.2.2.1.1 (.bool e3)).far (p := ⟨w3.heap.size, 1, none⟩) HQB.out.2.2.1.1 (.int .i64 a3)).far (p := ⟨w3.heap.size, 2, none⟩) HQB.out.2.2.1.1 (.slice v3o L3.length v3c)).set 0 (.bool g3)).set 1 (.slice u3o R3.length u3c)))
               replace Xs := Xns; clear Xns
               replace Xc := Xnc; clear Xnc
               replace Xo := Xno; clear Xno
               replace Xk := Xnk; clear Xnk
               replace Xq := Xnq; clear Xnq
               replace Xr := Xnr; clear Xnr
               replace HB := HBn; clear HBn
               clear hV1
               clear hsum
               cases d4 : decide ((60 : Int) < (L3.length : Int))
               · have hL3 : L3.length ≤ 60 := by have := of_decide_eq_false d4; omega
                 have x30 := (Xs.out.at_ 0 (.bool true) rfl).1
                 have x31 := (Xs.out.at_ 1 (.int .i64 at') rfl).1
                 have x32 := (Xs.out.at_ 2 (.slice vo L.length vc) rfl).1
                 have x33 := (Xq.out.at_ 0 (.bool e3) rfl).1
                 have x34 := (Xq.out.at_ 1 (.int .i64 a3) rfl).1
                 have x35 := (Xq.out.at_ 2 (.slice v3o L3.length v3c) rfl).1
                 have x36 := (Xr.out.at_ 0 (.bool g3) rfl).1
                 have x37 := (Xr.out.at_ 1 (.slice u3o R3.length u3c) rfl).1
                 have HC := Lib.hid (asked_any e3 a3 _ L3 _ g3 _ R3 (now + last) _ T3.out A3.out S3.out (by have := L3'.out; omega) WFL.out HL0.out)
                 go_wp2_with fail
                 refine HC.out.mono ?_
                 clear HC
                 clear x30 x31 x32 x33 x34 x35 x36 x37
                 rintro e w5 ⟨v5, L5, rfl, hT5, hA5, hb⟩
                 obtain ⟨v5o, v5c, rfl⟩ := hT5.shape
                 have T5 := Lib.hid hT5; have A5 := Lib.hid hA5; clear hT5 hA5
                 obtain ⟨a5, ha5⟩ : ∃ a5, (if g3 = true then min a3 (now + last) else a3) = a5 := ⟨_, rfl⟩
                 rw [ha5]
                 have HA5 := Lib.hid ha5; clear ha5
                 replace Xs := Lib.hid (Xs.out.below hb Xs.out.lt)
                 replace Xc := Lib.hid (Xc.out.below hb Xc.out.lt)
                 replace Xo := Lib.hid (Xo.out.below hb Xo.out.lt)
                 replace Xk := Lib.hid (Xk.out.below hb Xk.out.lt)
                 replace Xq := Lib.hid (Xq.out.below hb Xq.out.lt)
                 replace Xr := Lib.hid (Xr.out.below hb Xr.out.lt)
                 replace TL := Lib.hid (TL.out.mono hb)
                 replace T3 := Lib.hid (T3.out.mono hb)
                 replace SC := Lib.hid (SC.out.mono hb)
                 replace SS := Lib.hid (SS.out.mono hb)
                 replace S3 := Lib.hid (S3.out.mono hb)
                 replace HB := Lib.hid (HB.out.trans (hb.mono HB.out.size))
                 clear hb
                 cases e3
                 · exact absurd HE3.out (by simp [inEx])
                 · have HNE := Lib.hid (show ¬ (inEx kind true = false ∧ L3 = []) from fun h => by have := HE3.out; rw [h.1] at this; cases this)
                   obtain ⟨x38, f38⟩ := Xq.out.at_ 0 (.bool true) rfl
                   obtain ⟨x39, f39⟩ := Xq.out.at_ 1 (.int .i64 a3) rfl
                   obtain ⟨x40, f40⟩ := Xq.out.at_ 2 (.slice v3o L3.length v3c) rfl
                   have x41 := (Xr.out.at_ 0 (.bool g3) rfl).1
                   have x42 := (Xr.out.at_ 1 (.slice u3o R3.length u3c) rfl).1
                   go_wp2_with fail
                   clear x38 f38 x39 f39 x40 f40 x41 x42
                   obtain ⟨V2, hV2⟩ : ∃ V2, V2 = (((w5.setCell ⟨w3.heap.size, 0, none⟩ (.bool true)).setCell ⟨w3.heap.size, 1, none⟩ (.int .i64 a5)).setCell ⟨w3.heap.size, 2, none⟩ (.slice v5o L5.length v5c)) := ⟨_, rfl⟩
                   rw [← hV2]
                   have nTLq := TL.out.ne_box Xq.out (ns3 _ _ _ _ _)
                   have nT3q := T3.out.ne_box Xq.out (ns3 _ _ _ _ _)
                   have nT5q := T5.out.ne_box Xq.out (ns3 _ _ _ _ _)
                   have nSCq := SC.out.ne_box Xq.out (ns3 _ _ _ _ _)
                   have nSSq := SS.out.ne_box Xq.out (ns3 _ _ _ _ _)
                   have nS3q := S3.out.ne_box Xq.out (ns3 _ _ _ _ _)
                   replace TL := Lib.hid (show Tms V2 _ _ from by rw [hV2]; exact (((TL.out.apart (p := ⟨w3.heap.size, 0, none⟩) nTLq (.bool true)).apart (p := ⟨w3.heap.size, 1, none⟩) nTLq (.int .i64 a5)).apart (p := ⟨w3.heap.size, 2, none⟩) nTLq (.slice v5o L5.length v5c)))
                   clear nTLq
                   replace T3 := Lib.hid (show Tms V2 _ _ from by rw [hV2]; exact (((T3.out.apart (p := ⟨w3.heap.size, 0, none⟩) nT3q (.bool true)).apart (p := ⟨w3.heap.size, 1, none⟩) nT3q (.int .i64 a5)).apart (p := ⟨w3.heap.size, 2, none⟩) nT3q (.slice v5o L5.length v5c)))
                   clear nT3q
                   replace T5 := Lib.hid (show Tms V2 _ _ from by rw [hV2]; exact (((T5.out.apart (p := ⟨w3.heap.size, 0, none⟩) nT5q (.bool true)).apart (p := ⟨w3.heap.size, 1, none⟩) nT5q (.int .i64 a5)).apart (p := ⟨w3.heap.size, 2, none⟩) nT5q (.slice v5o L5.length v5c)))
                   clear nT5q
                   replace SC := Lib.hid (show Strs V2 _ _ from by rw [hV2]; exact (((SC.out.apart' (p := ⟨w3.heap.size, 0, none⟩) nSCq (.bool true)).apart' (p := ⟨w3.heap.size, 1, none⟩) nSCq (.int .i64 a5)).apart' (p := ⟨w3.heap.size, 2, none⟩) nSCq (.slice v5o L5.length v5c)))
                   clear nSCq
                   replace SS := Lib.hid (show Strs V2 _ _ from by rw [hV2]; exact (((SS.out.apart' (p := ⟨w3.heap.size, 0, none⟩) nSSq (.bool true)).apart' (p := ⟨w3.heap.size, 1, none⟩) nSSq (.int .i64 a5)).apart' (p := ⟨w3.heap.size, 2, none⟩) nSSq (.slice v5o L5.length v5c)))
                   clear nSSq
                   replace S3 := Lib.hid (show Strs V2 _ _ from by rw [hV2]; exact (((S3.out.apart' (p := ⟨w3.heap.size, 0, none⟩) nS3q (.bool true)).apart' (p := ⟨w3.heap.size, 1, none⟩) nS3q (.int .i64 a5)).apart' (p := ⟨w3.heap.size, 2, none⟩) nS3q (.slice v5o L5.length v5c)))
                   clear nS3q
                   have HBn := Lib.hid (show Below w.heap.size w V2 from by rw [hV2]; exact (((HB.out.setCell (p := ⟨w3.heap.size, 0, none⟩) HQB.out.2.2.2.1 (.bool true)).setCell (p := ⟨w3.heap.size, 1, none⟩) HQB.out.2.2.2.1 (.int .i64 a5)).setCell (p := ⟨w3.heap.size, 2, none⟩) HQB.out.2.2.2.1 (.slice v5o L5.length v5c)))
                   have Xns := Lib.hid (show CBox V2 (w.heap.size) 71 #[.bool true, .int .i64 at', .slice vo L.length vc] from by rw [hV2]; simpa using (((Xs.out.far (p := ⟨w3.heap.size, 0, none⟩) HQB.out.1.1 (.bool true)).far (p := ⟨w3.heap.size, 1, none⟩) HQB.out.1.1 (.int .i64 a5)).far (p := ⟨w3.heap.size, 2, none⟩) HQB.out.1.1 (.slice v5o L5.length v5c)))
                   have Xnc := Lib.hid (show CBox V2 (w.heap.size + 1) 39 #[.int .i64 kind, .string g, .slice ro C.length rc] from by rw [hV2]; simpa using (((Xc.out.far (p := ⟨w3.heap.size, 0, none⟩) HQB.out.1.2.1 (.bool true)).far (p := ⟨w3.heap.size, 1, none⟩) HQB.out.1.2.1 (.int .i64 a5)).far (p := ⟨w3.heap.size, 2, none⟩) HQB.out.1.2.1 (.slice v5o L5.length v5c)))
                   have Xno := Lib.hid (show CBox V2 (w.heap.size + 1 + 1) 71 #[.bool false, .int .i64 0, .slice none 0 0] from by rw [hV2]; simpa using (((Xo.out.far (p := ⟨w3.heap.size, 0, none⟩) HQB.out.1.2.2.1 (.bool true)).far (p := ⟨w3.heap.size, 1, none⟩) HQB.out.1.2.2.1 (.int .i64 a5)).far (p := ⟨w3.heap.size, 2, none⟩) HQB.out.1.2.2.1 (.slice v5o L5.length v5c)))
                   have Xnk := Lib.hid (show CBox V2 (w.heap.size + 1 + 1 + 1) 59 #[.bool false, .slice none 0 0] from by rw [hV2]; simpa using (((Xk.out.far (p := ⟨w3.heap.size, 0, none⟩) HQB.out.1.2.2.2 (.bool true)).far (p := ⟨w3.heap.size, 1, none⟩) HQB.out.1.2.2.2 (.int .i64 a5)).far (p := ⟨w3.heap.size, 2, none⟩) HQB.out.1.2.2.2 (.slice v5o L5.length v5c)))
                   have Xnq := Lib.hid (show CBox V2 (w3.heap.size) 71 #[.bool true, .int .i64 a5, .slice v5o L5.length v5c] from by rw [hV2]; simpa using (((Xq.out.set 0 (.bool true)).set 1 (.int .i64 a5)).set 2 (.slice v5o L5.length v5c)))
                   have Xnr := Lib.hid (show CBox V2 (w3.heap.size + 1) 59 #[.bool g3, .slice u3o R3.length u3c] from by rw [hV2]; simpa using (((Xr.out.far (p := ⟨w3.heap.size, 0, none⟩) HQB.out.2.2.1.1 (.bool true)).far (p := ⟨w3.heap.size, 1, none⟩) HQB.out.2.2.1.1 (.int .i64 a5)).far (p := ⟨w3.heap.size, 2, none⟩) HQB.out.2.2.1.1 (.slice v5o L5.length v5c)))
                   replace Xs := Xns; clear Xns
                   replace Xc := Xnc; clear Xnc
                   replace Xo := Xno; clear Xno
                   replace Xk := Xnk; clear Xnk
                   replace Xq := Xnq; clear Xnq
                   replace Xr := Xnr; clear Xnr
                   replace HB := HBn; clear HBn
                   clear hV2
                   have x43 := (Xq.out.at_ 0 (.bool true) rfl).1
                   have x44 := (Xq.out.at_ 1 (.int .i64 a5) rfl).1
                   have x45 := (Xq.out.at_ 2 (.slice v5o L5.length v5c) rfl).1
                   have x46 := (Xr.out.at_ 0 (.bool g3) rfl).1
                   have x47 := (Xr.out.at_ 1 (.slice u3o R3.length u3c) rfl).1
                   obtain ⟨x48, f48⟩ := Xo.out.at_ 0 (.bool false) rfl
                   obtain ⟨x49, f49⟩ := Xo.out.at_ 1 (.int .i64 0) rfl
                   obtain ⟨x50, f50⟩ := Xo.out.at_ 2 (.slice none 0 0) rfl
                   obtain ⟨x51, f51⟩ := Xk.out.at_ 0 (.bool false) rfl
                   obtain ⟨x52, f52⟩ := Xk.out.at_ 1 (.slice none 0 0) rfl
                   have nTo := T5.out.ne_box Xo.out (ns3 _ _ _ _ _); have nTk := T5.out.ne_box Xk.out (ns2 _ _ _ _); have nSo := S3.out.ne_box Xo.out (ns3 _ _ _ _ _); have nSk := S3.out.ne_box Xk.out (ns2 _ _ _ _)
                   have NT := Lib.hid (fun hL b hb => And.intro (nTo hL b hb) (nTk hL b hb)); have NS := Lib.hid (fun hL b hb => And.intro (nSo hL b hb) (nSk hL b hb)); clear nTo nTk nSo nSk
                   obtain ⟨_, N1, N2, N3⟩ := HQB.out.1
                   have M1 := N1.symm; have M2 := N2.symm; have M3 := N3.symm
                   go_wp2_with fail
                   go_region
                   all_goals
                    go_wp2_with fail
                    obtain ⟨r0, r1, r2, r3, r4⟩ := boxes_end5 Xo.out Xk.out (.bool true) (.int .i64 a5) (.slice v5o L5.length v5c) (.bool g3) (.slice u3o R3.length u3c)
                    have hT := T5.out.end5' (lo := w.heap.size + 1 + 1) NT.out (.bool true) (.int .i64 a5) (.slice v5o L5.length v5c) (.bool g3) (.slice u3o R3.length u3c)
                    have hU := S3.out.end5' (lo := w.heap.size + 1 + 1) NS.out (.bool true) (.int .i64 a5) (.slice v5o L5.length v5c) (.bool g3) (.slice u3o R3.length u3c)
                    have hBB := below_end5' HB.out (lo := w.heap.size + 1 + 1) (Nat.le_add_right_of_le (Nat.le_add_right _ _)) (.bool true) (.int .i64 a5) (.slice v5o L5.length v5c) (.bool g3) (.slice u3o R3.length u3c)
                    refine bodyPost_ret (v := .tuple #[.agg #[.bool true, .int .i64 a5, .slice v5o L5.length v5c], .bool true, .agg #[.bool g3, .slice u3o R3.length u3c], .int .i64 0]) (by simp [results, Tryz.results38, go_sem, r0, r1, r2, r3, r4]) rfl (RR.out _ _ ⟨?_, .inr ⟨HVV.out, L3, A3.out, .inr (.inr ⟨hL3, HNE.out, _, L5, _, R3, by rw [HE3.out, HG3.out, HA3.out, HA5.out], ?_, ?_, R3'.out, A5.out⟩)⟩⟩)
                    · first | with_reducible exact hBB | with_reducible exact hBB.drew
                    · first | with_reducible exact hT | with_reducible exact hT.drew
                    · first | with_reducible exact hU | with_reducible exact hU.drew
               · have hL3 : 60 < L3.length := by have := of_decide_eq_true d4; omega
                 have x30 := (Xs.out.at_ 0 (.bool true) rfl).1
                 have x31 := (Xs.out.at_ 1 (.int .i64 at') rfl).1
                 have x32 := (Xs.out.at_ 2 (.slice vo L.length vc) rfl).1
                 have x33 := (Xq.out.at_ 0 (.bool e3) rfl).1
                 have x34 := (Xq.out.at_ 1 (.int .i64 a3) rfl).1
                 have x35 := (Xq.out.at_ 2 (.slice v3o L3.length v3c) rfl).1
                 have x36 := (Xr.out.at_ 0 (.bool g3) rfl).1
                 have x37 := (Xr.out.at_ 1 (.slice u3o R3.length u3c) rfl).1
                 obtain ⟨x38, f38⟩ := Xo.out.at_ 0 (.bool false) rfl
                 obtain ⟨x39, f39⟩ := Xo.out.at_ 1 (.int .i64 0) rfl
                 obtain ⟨x40, f40⟩ := Xo.out.at_ 2 (.slice none 0 0) rfl
                 obtain ⟨x41, f41⟩ := Xk.out.at_ 0 (.bool false) rfl
                 obtain ⟨x42, f42⟩ := Xk.out.at_ 1 (.slice none 0 0) rfl
                 go_wp2
                 obtain ⟨r0, r1, r2, r3, r4⟩ := boxes_end5 Xo.out Xk.out (.bool false) (.int .i64 0) (.slice none 0 0) (.bool false) (.slice none 0 0)
                 have hBB := below_end5' HB.out (lo := w.heap.size + 1 + 1) (Nat.le_add_right_of_le (Nat.le_add_right _ _)) (.bool false) (.int .i64 0) (.slice none 0 0) (.bool false) (.slice none 0 0)
                 refine bodyPost_ret (v := .tuple #[noState, .bool false, noAsk, .int .i64 1]) (by simp only [results, Tryz.results38, go_sem, noState, noAsk]; simp [go_sem, r0, r1, r2, r3, r4]) rfl (RR.out _ _ ⟨hBB, .inr ⟨HVV.out, L3, A3.out, .inl ⟨hL3, rfl⟩⟩⟩)
           · have hv : verdict true kind C.length now mem last = 1 := by have := of_decide_eq_true d3; simp [verdict, hm']; omega
             clear HD1 hm'
             have x4 := (Xc.out.at_ 0 (.int .i64 kind) rfl).1
             have x5 := (Xc.out.at_ 1 (.string g) rfl).1
             have x6 := (Xc.out.at_ 2 (.slice ro C.length rc) rfl).1
             have HV := Lib.hid hv; clear hv
             obtain ⟨x7, f7⟩ := Xo.out.at_ 0 (.bool false) rfl
             obtain ⟨x8, f8⟩ := Xo.out.at_ 1 (.int .i64 0) rfl
             obtain ⟨x9, f9⟩ := Xo.out.at_ 2 (.slice none 0 0) rfl
             obtain ⟨x10, f10⟩ := Xk.out.at_ 0 (.bool false) rfl
             obtain ⟨x11, f11⟩ := Xk.out.at_ 1 (.slice none 0 0) rfl
             go_wp2_with ((with_reducible refine (HM.out _).mono ?_); rintro e w2 ⟨rfl, hw2⟩; subst w2)
             obtain ⟨r0, r1, r2, r3, r4⟩ := boxes_end5 Xo.out Xk.out (.bool false) (.int .i64 0) (.slice none 0 0) (.bool false) (.slice none 0 0)
             have hBB := below_end5' HB.out (lo := w.heap.size + 1 + 1) (Nat.le_add_right_of_le (Nat.le_add_right _ _)) (.bool false) (.int .i64 0) (.slice none 0 0) (.bool false) (.slice none 0 0)
             refine bodyPost_ret (v := .tuple #[noState, .bool false, noAsk, .int .i64 1]) (by simp only [results, Tryz.results38, go_sem, noState, noAsk]; simp [go_sem, r0, r1, r2, r3, r4]) rfl ⟨hBB, by refine .inl ⟨?_, ?_⟩ <;> simp [HVP.out, HV.out]⟩
         · have hv : verdict true kind C.length now mem last = 1 := by have := of_decide_eq_true d2; simp [verdict, hm']; omega
           clear HD1 hm'
           have x4 := (Xc.out.at_ 0 (.int .i64 kind) rfl).1
           have x5 := (Xc.out.at_ 1 (.string g) rfl).1
           have x6 := (Xc.out.at_ 2 (.slice ro C.length rc) rfl).1
           have HV := Lib.hid hv; clear hv
           obtain ⟨x7, f7⟩ := Xo.out.at_ 0 (.bool false) rfl
           obtain ⟨x8, f8⟩ := Xo.out.at_ 1 (.int .i64 0) rfl
           obtain ⟨x9, f9⟩ := Xo.out.at_ 2 (.slice none 0 0) rfl
           obtain ⟨x10, f10⟩ := Xk.out.at_ 0 (.bool false) rfl
           obtain ⟨x11, f11⟩ := Xk.out.at_ 1 (.slice none 0 0) rfl
           go_wp2_with ((with_reducible refine (HM.out _).mono ?_); rintro e w2 ⟨rfl, hw2⟩; subst w2)
           obtain ⟨r0, r1, r2, r3, r4⟩ := boxes_end5 Xo.out Xk.out (.bool false) (.int .i64 0) (.slice none 0 0) (.bool false) (.slice none 0 0)
           have hBB := below_end5' HB.out (lo := w.heap.size + 1 + 1) (Nat.le_add_right_of_le (Nat.le_add_right _ _)) (.bool false) (.int .i64 0) (.slice none 0 0) (.bool false) (.slice none 0 0)
           refine bodyPost_ret (v := .tuple #[noState, .bool false, noAsk, .int .i64 1]) (by simp only [results, Tryz.results38, go_sem, noState, noAsk]; simp [go_sem, r0, r1, r2, r3, r4]) rfl ⟨hBB, by refine .inl ⟨?_, ?_⟩ <;> simp [HVP.out, HV.out]⟩
       · have hv : verdict true kind C.length now mem last = 1 := by have := of_decide_eq_true d1; simp [verdict, hm']; omega
         clear HD1 hm'
         have x4 := (Xc.out.at_ 0 (.int .i64 kind) rfl).1
         have x5 := (Xc.out.at_ 1 (.string g) rfl).1
         have x6 := (Xc.out.at_ 2 (.slice ro C.length rc) rfl).1
         have HV := Lib.hid hv; clear hv
         obtain ⟨x7, f7⟩ := Xo.out.at_ 0 (.bool false) rfl
         obtain ⟨x8, f8⟩ := Xo.out.at_ 1 (.int .i64 0) rfl
         obtain ⟨x9, f9⟩ := Xo.out.at_ 2 (.slice none 0 0) rfl
         obtain ⟨x10, f10⟩ := Xk.out.at_ 0 (.bool false) rfl
         obtain ⟨x11, f11⟩ := Xk.out.at_ 1 (.slice none 0 0) rfl
         go_wp2_with ((with_reducible refine (HM.out _).mono ?_); rintro e w2 ⟨rfl, hw2⟩; subst w2)
         obtain ⟨r0, r1, r2, r3, r4⟩ := boxes_end5 Xo.out Xk.out (.bool false) (.int .i64 0) (.slice none 0 0) (.bool false) (.slice none 0 0)
         have hBB := below_end5' HB.out (lo := w.heap.size + 1 + 1) (Nat.le_add_right_of_le (Nat.le_add_right _ _)) (.bool false) (.int .i64 0) (.slice none 0 0) (.bool false) (.slice none 0 0)
         refine bodyPost_ret (v := .tuple #[noState, .bool false, noAsk, .int .i64 1]) (by simp only [results, Tryz.results38, go_sem, noState, noAsk]; simp [go_sem, r0, r1, r2, r3, r4]) rfl ⟨hBB, by refine .inl ⟨?_, ?_⟩ <;> simp [HVP.out, HV.out]⟩

def exTail (e2 : Bool) (now : Int) (t : Tmd) : List Tmd := if now < t.2 then [t] else if e2 then [(t.1, 0)] else []
def exL (e2 : Bool) (now : Int) (L : List Tmd) : List Tmd := L.flatMap (exTail e2 now)
theorem exL_snoc (e2 : Bool) (now : Int) (L : List Tmd) (k : Nat) (h : k < L.length) : exL e2 now (L.take (k + 1)) = exL e2 now (L.take k) ++ exTail e2 now L[k] := by
 unfold exL
 rw [take_snoc L k h, List.flatMap_append]
 simp
theorem exTail_sub (e2 : Bool) (now : Int) (t : Tmd) : ((exTail e2 now t).map Prod.fst).Sublist [t.1] := by
 unfold exTail
 split
 · exact List.Sublist.refl _
 · split
   · exact List.Sublist.refl _
   · exact List.nil_sublist _
theorem exL_sub (e2 : Bool) (now : Int) : ∀ L : List Tmd, ((exL e2 now L).map Prod.fst).Sublist (L.map Prod.fst)
 | [] => List.Sublist.refl _
 | t :: L => by
   unfold exL
   rw [List.flatMap_cons, List.map_append, List.map_cons]
   exact List.Sublist.append (exTail_sub e2 now t) (exL_sub e2 now L)
theorem exL_len (e2 : Bool) (now : Int) (L : List Tmd) : (exL e2 now L).length ≤ L.length := by
 have := (exL_sub e2 now L).length_le
 rwa [List.length_map, List.length_map] at this
theorem exL_mem {e2 : Bool} {now : Int} {L : List Tmd} {u : Tmd} (h : u ∈ exL e2 now L) : ∃ t ∈ L, u.1 = t.1 ∧ ((now < t.2 ∧ u.2 = t.2) ∨ (¬ now < t.2 ∧ e2 = true ∧ u.2 = 0)) := by
 obtain ⟨t, ht, hu⟩ := List.mem_flatMap.1 h
 refine ⟨t, ht, ?_⟩
 unfold exTail at hu
 split at hu
 · rename_i hn
   rw [List.mem_singleton] at hu
   subst hu
   exact ⟨rfl, .inl ⟨hn, rfl⟩⟩
 · rename_i hn
   split at hu
   · rename_i he
     rw [List.mem_singleton] at hu
     subst hu
     exact ⟨rfl, .inr ⟨hn, he, rfl⟩⟩
   · cases hu
theorem exL_wfs (e2 : Bool) (now : Int) {L : List Tmd} (h : ∀ t ∈ L, t.1.length ≤ maxLen ∧ (Lit.int .i64 t.2).wf = true) : ∀ t ∈ exL e2 now L, t.1.length ≤ maxLen ∧ (Lit.int .i64 t.2).wf = true := by
 intro u hu
 obtain ⟨t, ht, h1, h2 | h2⟩ := exL_mem hu
 · rw [h1, h2.2]; exact h t ht
 · rw [h1, h2.2.2]; exact ⟨(h t ht).1, rfl⟩
theorem asc_ex (e2 : Bool) (now : Int) {F : Str → Option Int} {L : List Tmd} (h : Asc F L) : Asc (exF e2 now F) (exL e2 now L) := by
 have hv : ∀ u ∈ exL e2 now L, exF e2 now F u.1 = some u.2 := by
  intro u hu
  obtain ⟨t, ht, h1, h2⟩ := exL_mem hu
  have hF := h.2 t ht
  unfold exF
  rw [h1, hF]
  rcases h2 with ⟨h2, h3⟩ | ⟨h2, h3, h4⟩
  · simp [h2, h3]
  · simp [h2, h3, h4]
 refine ⟨⟨h.1.1.sublist (exL_sub e2 now L), fun a => ?_⟩, hv⟩
 constructor
 · intro ha
   obtain ⟨u, hu, rfl⟩ := List.mem_map.1 ha
   rw [hv u hu]; simp
 · intro ha
   have hF : F a ≠ none := by intro e; apply ha; unfold exF; rw [e]
   obtain ⟨t, ht, rfl⟩ := List.mem_map.1 ((h.1.2 a).2 hF)
   have hF' := h.2 t ht
   unfold exF at ha
   rw [hF'] at ha
   by_cases hn : now < t.2
   · exact List.mem_map.2 ⟨t, List.mem_flatMap.2 ⟨t, ht, by simp [exTail, hn]⟩, rfl⟩
   · cases e2
     · simp [hn] at ha
     · exact List.mem_map.2 ⟨(t.1, 0), List.mem_flatMap.2 ⟨t, ht, by simp [exTail, hn]⟩, rfl⟩

set_option maxRecDepth 20000 in
set_option maxHeartbeats 2000000 in
theorem rexpire_any (ex : Bool) (at' : Int) (v : Value) (L : List Tmd) (now : Int) (w : World) (h : Tms w v L) :
 Calls Tryz.prog 37 #[.agg #[.bool ex, .int .i64 at', v], .int .i64 now] w (RetExp w ex at' L now (ex && decide (now < at'))) := by
 obtain ⟨ao, cap, rfl⟩ := h.shape
 obtain ⟨i0, hi, hz0, hz1, hz2⟩ := info_parts infoTmd
 obtain ⟨W0, hW0⟩ : ∃ W0, W0 = (w.alloc (.cells #[.bool ex, .int .i64 at', .slice ao L.length cap] 71)).alloc (.cells #[.bool false, .int .i64 0, .slice none 0 0] 71) := ⟨_, rfl⟩
 have hb0 : Below w.heap.size w W0 := by rw [hW0]; exact ((Below.refl _ _).alloc (Nat.le_refl _) _).alloc (by simp) _
 have hs0 : W0.heap.size = w.heap.size + 2 := by rw [hW0]; simp
 have s1 : CBox W0 w.heap.size 71 #[.bool ex, .int .i64 at', .slice ao L.length cap] := by rw [hW0]; exact (CBox.new _ rfl).old _
 have s2 : CBox W0 (w.heap.size + 1) 71 #[.bool false, .int .i64 0, .slice none 0 0] := by rw [hW0]; exact CBox.new _ (by simp)
 have HC := Lib.hid (rcheck_any ex at' _ L W0 (h.mono hb0))
 have HT := Lib.hid h
 have HWF := Lib.hid h.wfs
 rw [hW0] at HC
 have HB1 := Lib.hid (fun (w1 : World) (h1 : Below W0.heap.size W0 w1) => show CBox w1 w.heap.size 71 #[.bool ex, .int .i64 at', .slice ao L.length cap] ∧ CBox w1 (w.heap.size + 1) 71 #[.bool false, .int .i64 0, .slice none 0 0] ∧ Below w.heap.size w w1 from ⟨s1.below h1 (by omega), s2.below h1 (by omega), hb0.trans (h1.mono (by omega))⟩)
 rw [hW0] at HB1
 clear h hb0 hs0 s1 s2
 go_enter Tryz.func37, Tryz.ntmps37
 go_wp2_with fail
 refine HC.out.mono ?_
 rintro e w1 ⟨rfl, hb1⟩
 obtain ⟨t1, t2, hbw⟩ := HB1.out w1 hb1
 have T1 := Lib.hid t1; have T2 := Lib.hid t2; have HBW := Lib.hid hbw
 have HW1 := Lib.hid (show w.heap.size + 1 < w1.heap.size from t2.lt)
 obtain ⟨x0, _⟩ := t1.at_ 0 _ rfl
 obtain ⟨x1, _⟩ := t1.at_ 1 _ rfl
 obtain ⟨x2, _⟩ := t1.at_ 2 _ rfl
 obtain ⟨y0, _⟩ := t2.at_ 0 _ rfl
 obtain ⟨y1, _⟩ := t2.at_ 1 _ rfl
 obtain ⟨y2, _⟩ := t2.at_ 2 _ rfl
 clear HC HB1 hb1 hbw t1 t2 hW0 W0
 cases hp : pcheck ex at' L
 · have HP := Lib.hid hp
   go_wp2
   have R := fun u1 u2 u3 => ((T2.out.set 0 u1).set 1 u2).set 2 u3
   have r0 := fun u1 u2 u3 => ((R u1 u2 u3).at_ 0 _ rfl).1
   have r1 := fun u1 u2 u3 => ((R u1 u2 u3).at_ 1 _ rfl).1
   have r2 := fun u1 u2 u3 => ((R u1 u2 u3).at_ 2 _ rfl).1
   refine bodyPost_ret (v := .tuple #[.agg #[.bool false, .int .i64 0, .slice none 0 0], .bool false]) (by simp [results, Tryz.results37, go_sem, r0, r1, r2]) rfl (.inl ⟨HP.out, rfl, ((HBW.out.setCell (by simp) _).setCell (by simp) _).setCell (by simp) _⟩)
 · have HP := Lib.hid hp
   have HLL := Lib.hid (pcheck_iff.1 hp).1
   clear hp
   cases ex
   · obtain ⟨W2, hW2⟩ : ∃ W2, W2 = w1.alloc (.cells #[.bool false, .int .i64 0, .slice none 0 0] 71) := ⟨_, rfl⟩
     have hbw : Below w1.heap.size w1 W2 := by rw [hW2]; exact (Below.refl _ _).alloc (Nat.le_refl _) _
     have s3 : CBox W2 w1.heap.size 71 #[.bool false, .int .i64 0, .slice none 0 0] := by rw [hW2]; exact CBox.new _ rfl
     have HX := Lib.hid (show (false && decide (now < at')) = false from rfl)
     have HLT := Lib.hid s3.lt
     have S3 := Lib.hid s3
     have S1 := Lib.hid (T1.out.below hbw T1.out.lt); have S2 := Lib.hid (T2.out.below hbw T2.out.lt); have B2 := Lib.hid (HBW.out.trans (hbw.mono HBW.out.size))
     clear s3 hbw T1 T2 HBW
     go_wp2_with fail
     rw [← hW2]
     clear hW2 x0 x1 x2 y0 y1 y2
     go_loopw [7] (fun i wr => ∃ (k : Nat) (v' : Value) (o : List Tmd), k ≤ L.length ∧ i = .int .i64 k ∧ exL false now (L.take k) = o ∧ CBox wr w.heap.size 71 #[.bool false, .int .i64 at', .slice ao L.length cap] ∧ CBox wr (w.heap.size + 1) 71 #[.bool false, .int .i64 0, .slice none 0 0] ∧ CBox wr w1.heap.size 71 #[.bool false, .int .i64 0, v'] ∧ wr.ownsRow W2.heap.size 103 2 v' o.length (o.flatMap tcells) ∧ Below w.heap.size w wr ∧ W2.heap.size ≤ wr.heap.size) (fun i _ => L.length - (intOf i).toNat)
     case atStart => exact ⟨0, _, [], Nat.zero_le _, rfl, rfl, S1.out, S2.out, S3.out, World.ownsRow_nil _ _ _ _, B2.out, Nat.le_refl _⟩
     case round =>
      obtain ⟨k, v', o, hk, rfl, hst, t1, t2, t3, hown, hbel, hsz⟩ := hrel
      obtain ⟨vo, vc, rfl⟩ := own_form hown
      have hol : o.length ≤ k := by rw [← hst]; exact Nat.le_trans (exL_len _ _ _) (by simp; omega)
      have T1 := Lib.hid t1; have T2 := Lib.hid t2; have T3 := Lib.hid t3; have HO := Lib.hid hown; have HB := Lib.hid hbel; have HSZ := Lib.hid hsz
      obtain ⟨x2, _⟩ := t1.at_ 2 _ rfl
      obtain ⟨u0, _⟩ := t3.at_ 0 _ rfl
      obtain ⟨u2, _⟩ := t3.at_ 2 _ rfl
      have hl3 := t3.lt
      obtain ⟨b, off, hm, hlen, hidx, hc⟩ := (HT.out.mono hbel).facts
      by_cases hlt : k < L.length
      · obtain ⟨⟨s, n⟩, hs⟩ : ∃ s, L.getD k default = s := ⟨_, rfl⟩
        obtain ⟨hlb, q0, q1⟩ := hc k hlt
        rw [hs] at q0 q1
        have hp := hidx k hlt
        have hL : L[k] = (s, n) := by rw [← hs]; simp [List.getD_eq_getElem?_getD, hlt]
        have HN := Lib.hid (show exL false now (L.take (k + 1)) = o ++ exTail false now (s, n) from by rw [exL_snoc _ _ L k hlt, hst, hL])
        have h1 : o.length + 1 ≤ maxLen := by have := HLL.out; unfold maxLen; omega
        have h2 : (o.length + 1) * 24 ≤ 140737488355328 := by have := HLL.out; omega
        clear hidx hc hs hL hst hown hbel t1 t2 t3 hsz
        cases hnc : decide (now < n)
        · have NC := Lib.hid (show ¬ now < n by simpa using hnc)
          have HE := Lib.hid (show exL false now (L.take (k + 1)) = o from by rw [HN.out]; simp [exTail, NC.out])
          go_wp2_with fail
          go_roundw
          case rel => exact ⟨k + 1, _, o, by omega, by go_num, HE.out, T1.out.old _, T2.out.old _, T3.out.old _, HO.out.alloc _, HB.out.alloc HB.out.size _, by have := HSZ.out; simp; omega⟩
          case measure => simp [intOf]; omega
        · have NC := Lib.hid (show now < n by simpa using hnc)
          have HE := Lib.hid (show exL false now (L.take (k + 1)) = o ++ [(s, n)] from by rw [HN.out]; simp [exTail, NC.out])
          go_wp2_with (at_builtin; refine wpList_append_vals _ rfl _ _ 69 rfl W2.heap.size 103 i0 (.agg #[.string ⟨#[]⟩, .int .i64 0]) 2 24 Tryz.underlying69 hi hz0 hz1 hz2 rfl (by decide) (.slice vo o.length vc) _ _ rfl ((HO.out.alloc _).alloc _) _ 1 [.string (bstr s), .int .i64 n] rfl (sliceOf_block (heap_new _ _ _ (by simp)) rfl (by simp [Value.oneCell'])) h1 h2 (by have := HSZ.out; simp; omega) ?_; intro v2 w3 hown3 hg3 _; obtain ⟨o2, c2, rfl⟩ := own_form hown3; have NE := (show ∀ b, b < W2.heap.size → some b ≠ Value.ownBlock (.slice vo o.length vc) from fun b hb e => by have := (HO.out.lt _ e.symm).1; omega); have U3 := Lib.hid (((T3.out.old _).old _).grown hg3 (NE _ HLT.out)); obtain ⟨y2, _⟩ := U3.out.at_ 2 _ rfl; have V1 := Lib.hid (((T1.out.old _).old _).grown hg3 (NE _ (by have := HLT.out; have := HW1.out; omega))); have V2 := Lib.hid (((T2.out.old _).old _).grown hg3 (NE _ (by have := HLT.out; have := HW1.out; omega))); have HO3 := Lib.hid hown3; have HG3 := Lib.hid hg3; clear hown3 hg3 NE)
          go_roundw
          case rel =>
           have g1 := HG3.out.size
           have q1 := HSZ.out
           have q2 := HW1.out
           have q3 := HLT.out
           have g2 := (HB.out.alloc HB.out.size (.cells #[.string (bstr s), .int .i64 n] 103)).alloc (by have := HB.out.size; simp; omega) (.cells ([.string (bstr s), .int .i64 n]).toArray 103)
           have g3 := g2.grown HG3.out g2.size (fun j e => Nat.le_trans (by omega) (HO.out.lt j e).1)
           refine ⟨k + 1, _, _, by omega, by go_num, HE.out, V1.out.far (by simp; omega) _, V2.out.far (by simp; omega) _, U3.out.set 2 _, ?_, g3.setCell (by simp; omega) _, by simp; simp at g1; omega⟩
           refine ownsRow_setCell_below ?_ (by simp; omega) _
           simpa [tcells] using HO3.out
          case measure => simp [intOf]; omega
      · have hL : L.take k = L := List.take_of_length_le (by omega)
        rw [hL] at hst
        have HK := Lib.hid hst
        have HA := Lib.hid (asc_ex false now (pcheck_asc HP.out))
        have HTM := Lib.hid (show Tms wr (.slice vo o.length vc) o from Tms.own HO.out (by have := HLL.out; omega) (by rw [← HK.out]; exact exL_wfs _ _ HWF.out))
        have HL := Lib.hid (Lies.own HO.out)
        clear hidx hc hL t1
        by_cases ho : o = []
        · subst ho
          have HK0 := Lib.hid (show exL false now L = [] from HK.out)
          obtain ⟨y0, _⟩ := t2.at_ 0 _ rfl
          obtain ⟨y1, _⟩ := t2.at_ 1 _ rfl
          obtain ⟨y2, _⟩ := t2.at_ 2 _ rfl
          obtain ⟨z0, _⟩ := t3.at_ 0 _ rfl
          obtain ⟨z2, _⟩ := t3.at_ 2 _ rfl
          clear t2 t3 hown hbel hsz hst
          simp only [List.length_nil] at z2
          go_wp2
          have R := fun u1 u2 u3 => ((T2.out.set 0 u1).set 1 u2).set 2 u3
          have r0 := fun u1 u2 u3 => ((R u1 u2 u3).at_ 0 _ rfl).1
          have r1 := fun u1 u2 u3 => ((R u1 u2 u3).at_ 1 _ rfl).1
          have r2 := fun u1 u2 u3 => ((R u1 u2 u3).at_ 2 _ rfl).1
          refine bodyPost_ret (v := .tuple #[.agg #[.bool false, .int .i64 0, .slice none 0 0], .bool false]) (by simp [results, Tryz.results37, go_sem, r0, r1, r2]) rfl (.inr ⟨HP.out, _, [], by rw [HX.out]; rfl, Tms.nil _, by rw [HX.out, ← HK0.out]; exact HA.out, Nat.zero_le _, fun j hj => by simp [Value.ownBlock] at hj, ((HB.out.setCell (by simp) _).setCell (by simp) _).setCell (by simp) _⟩)
        · have hob : ((o.length : Int) == 0) = false := by simp; exact ho
          have HQ := Lib.hid (show o.isEmpty = false by simpa using ho)
          obtain ⟨y0, _⟩ := t2.at_ 0 _ rfl
          obtain ⟨y1, _⟩ := t2.at_ 1 _ rfl
          obtain ⟨y2, _⟩ := t2.at_ 2 _ rfl
          obtain ⟨z0, _⟩ := t3.at_ 0 _ rfl
          obtain ⟨z1, _⟩ := t3.at_ 1 _ rfl
          obtain ⟨z2, _⟩ := t3.at_ 2 _ rfl
          clear t2 t3 hown hbel hsz hst
          go_wp2
          have R := fun u1 u2 u3 => ((T2.out.set 0 u1).set 1 u2).set 2 u3
          have r0 := fun u1 u2 u3 => ((R u1 u2 u3).at_ 0 _ rfl).1
          have r1 := fun u1 u2 u3 => ((R u1 u2 u3).at_ 1 _ rfl).1
          have r2 := fun u1 u2 u3 => ((R u1 u2 u3).at_ 2 _ rfl).1
          have q1 := HW1.out
          have q2 := HLT.out
          refine bodyPost_ret (v := .tuple #[.agg #[.bool false, .int .i64 0, .slice vo o.length vc], .bool true]) (by simp [results, Tryz.results37, go_sem, r0, r1, r2]) rfl (.inr ⟨HP.out, _, o, ?_, ?_, by rw [HX.out, ← HK.out]; exact HA.out, by rw [← HK.out]; exact exL_len _ _ _, HL.out.mono (by omega), ((HB.out.setCell (by simp) _).setCell (by simp) _).setCell (by simp) _⟩)
          · rw [HX.out]; simp [HQ.out]
          · exact ((HTM.out.far HL.out (by simp; omega) _).far HL.out (by simp; omega) _).far HL.out (by simp; omega) _
   · cases hq : decide (now < at')
     · obtain ⟨W2, hW2⟩ : ∃ W2, W2 = w1.alloc (.cells #[.bool false, .int .i64 0, .slice none 0 0] 71) := ⟨_, rfl⟩
       have hbw : Below w1.heap.size w1 W2 := by rw [hW2]; exact (Below.refl _ _).alloc (Nat.le_refl _) _
       have s3 : CBox W2 w1.heap.size 71 #[.bool false, .int .i64 0, .slice none 0 0] := by rw [hW2]; exact CBox.new _ rfl
       have HX := Lib.hid (show (true && decide (now < at')) = false from by rw [hq]; rfl)
       have HLT := Lib.hid s3.lt
       have S3 := Lib.hid s3
       have S1 := Lib.hid (T1.out.below hbw T1.out.lt); have S2 := Lib.hid (T2.out.below hbw T2.out.lt); have B2 := Lib.hid (HBW.out.trans (hbw.mono HBW.out.size))
       clear s3 hbw T1 T2 HBW
       go_wp2_with fail
       rw [← hW2]
       clear hW2 x0 x1 x2 y0 y1 y2
       go_loopw [7] (fun i wr => ∃ (k : Nat) (v' : Value) (o : List Tmd), k ≤ L.length ∧ i = .int .i64 k ∧ exL false now (L.take k) = o ∧ CBox wr w.heap.size 71 #[.bool true, .int .i64 at', .slice ao L.length cap] ∧ CBox wr (w.heap.size + 1) 71 #[.bool false, .int .i64 0, .slice none 0 0] ∧ CBox wr w1.heap.size 71 #[.bool false, .int .i64 0, v'] ∧ wr.ownsRow W2.heap.size 103 2 v' o.length (o.flatMap tcells) ∧ Below w.heap.size w wr ∧ W2.heap.size ≤ wr.heap.size) (fun i _ => L.length - (intOf i).toNat)
       case atStart => exact ⟨0, _, [], Nat.zero_le _, rfl, rfl, S1.out, S2.out, S3.out, World.ownsRow_nil _ _ _ _, B2.out, Nat.le_refl _⟩
       case round =>
        obtain ⟨k, v', o, hk, rfl, hst, t1, t2, t3, hown, hbel, hsz⟩ := hrel
        obtain ⟨vo, vc, rfl⟩ := own_form hown
        have hol : o.length ≤ k := by rw [← hst]; exact Nat.le_trans (exL_len _ _ _) (by simp; omega)
        have T1 := Lib.hid t1; have T2 := Lib.hid t2; have T3 := Lib.hid t3; have HO := Lib.hid hown; have HB := Lib.hid hbel; have HSZ := Lib.hid hsz
        obtain ⟨x2, _⟩ := t1.at_ 2 _ rfl
        obtain ⟨u0, _⟩ := t3.at_ 0 _ rfl
        obtain ⟨u2, _⟩ := t3.at_ 2 _ rfl
        have hl3 := t3.lt
        obtain ⟨b, off, hm, hlen, hidx, hc⟩ := (HT.out.mono hbel).facts
        by_cases hlt : k < L.length
        · obtain ⟨⟨s, n⟩, hs⟩ : ∃ s, L.getD k default = s := ⟨_, rfl⟩
          obtain ⟨hlb, q0, q1⟩ := hc k hlt
          rw [hs] at q0 q1
          have hp := hidx k hlt
          have hL : L[k] = (s, n) := by rw [← hs]; simp [List.getD_eq_getElem?_getD, hlt]
          have HN := Lib.hid (show exL false now (L.take (k + 1)) = o ++ exTail false now (s, n) from by rw [exL_snoc _ _ L k hlt, hst, hL])
          have h1 : o.length + 1 ≤ maxLen := by have := HLL.out; unfold maxLen; omega
          have h2 : (o.length + 1) * 24 ≤ 140737488355328 := by have := HLL.out; omega
          clear hidx hc hs hL hst hown hbel t1 t2 t3 hsz
          cases hnc : decide (now < n)
          · have NC := Lib.hid (show ¬ now < n by simpa using hnc)
            have HE := Lib.hid (show exL false now (L.take (k + 1)) = o from by rw [HN.out]; simp [exTail, NC.out])
            go_wp2_with fail
            go_roundw
            case rel => exact ⟨k + 1, _, o, by omega, by go_num, HE.out, T1.out.old _, T2.out.old _, T3.out.old _, HO.out.alloc _, HB.out.alloc HB.out.size _, by have := HSZ.out; simp; omega⟩
            case measure => simp [intOf]; omega
          · have NC := Lib.hid (show now < n by simpa using hnc)
            have HE := Lib.hid (show exL false now (L.take (k + 1)) = o ++ [(s, n)] from by rw [HN.out]; simp [exTail, NC.out])
            go_wp2_with (at_builtin; refine wpList_append_vals _ rfl _ _ 69 rfl W2.heap.size 103 i0 (.agg #[.string ⟨#[]⟩, .int .i64 0]) 2 24 Tryz.underlying69 hi hz0 hz1 hz2 rfl (by decide) (.slice vo o.length vc) _ _ rfl ((HO.out.alloc _).alloc _) _ 1 [.string (bstr s), .int .i64 n] rfl (sliceOf_block (heap_new _ _ _ (by simp)) rfl (by simp [Value.oneCell'])) h1 h2 (by have := HSZ.out; simp; omega) ?_; intro v2 w3 hown3 hg3 _; obtain ⟨o2, c2, rfl⟩ := own_form hown3; have NE := (show ∀ b, b < W2.heap.size → some b ≠ Value.ownBlock (.slice vo o.length vc) from fun b hb e => by have := (HO.out.lt _ e.symm).1; omega); have U3 := Lib.hid (((T3.out.old _).old _).grown hg3 (NE _ HLT.out)); obtain ⟨y2, _⟩ := U3.out.at_ 2 _ rfl; have V1 := Lib.hid (((T1.out.old _).old _).grown hg3 (NE _ (by have := HLT.out; have := HW1.out; omega))); have V2 := Lib.hid (((T2.out.old _).old _).grown hg3 (NE _ (by have := HLT.out; have := HW1.out; omega))); have HO3 := Lib.hid hown3; have HG3 := Lib.hid hg3; clear hown3 hg3 NE)
            go_roundw
            case rel =>
             have g1 := HG3.out.size
             have q1 := HSZ.out
             have q2 := HW1.out
             have q3 := HLT.out
             have g2 := (HB.out.alloc HB.out.size (.cells #[.string (bstr s), .int .i64 n] 103)).alloc (by have := HB.out.size; simp; omega) (.cells ([.string (bstr s), .int .i64 n]).toArray 103)
             have g3 := g2.grown HG3.out g2.size (fun j e => Nat.le_trans (by omega) (HO.out.lt j e).1)
             refine ⟨k + 1, _, _, by omega, by go_num, HE.out, V1.out.far (by simp; omega) _, V2.out.far (by simp; omega) _, U3.out.set 2 _, ?_, g3.setCell (by simp; omega) _, by simp; simp at g1; omega⟩
             refine ownsRow_setCell_below ?_ (by simp; omega) _
             simpa [tcells] using HO3.out
            case measure => simp [intOf]; omega
        · have hL : L.take k = L := List.take_of_length_le (by omega)
          rw [hL] at hst
          have HK := Lib.hid hst
          have HA := Lib.hid (asc_ex false now (pcheck_asc HP.out))
          have HTM := Lib.hid (show Tms wr (.slice vo o.length vc) o from Tms.own HO.out (by have := HLL.out; omega) (by rw [← HK.out]; exact exL_wfs _ _ HWF.out))
          have HL := Lib.hid (Lies.own HO.out)
          clear hidx hc hL t1
          by_cases ho : o = []
          · subst ho
            have HK0 := Lib.hid (show exL false now L = [] from HK.out)
            obtain ⟨y0, _⟩ := t2.at_ 0 _ rfl
            obtain ⟨y1, _⟩ := t2.at_ 1 _ rfl
            obtain ⟨y2, _⟩ := t2.at_ 2 _ rfl
            obtain ⟨z0, _⟩ := t3.at_ 0 _ rfl
            obtain ⟨z2, _⟩ := t3.at_ 2 _ rfl
            clear t2 t3 hown hbel hsz hst
            simp only [List.length_nil] at z2
            go_wp2
            have R := fun u1 u2 u3 => ((T2.out.set 0 u1).set 1 u2).set 2 u3
            have r0 := fun u1 u2 u3 => ((R u1 u2 u3).at_ 0 _ rfl).1
            have r1 := fun u1 u2 u3 => ((R u1 u2 u3).at_ 1 _ rfl).1
            have r2 := fun u1 u2 u3 => ((R u1 u2 u3).at_ 2 _ rfl).1
            refine bodyPost_ret (v := .tuple #[.agg #[.bool false, .int .i64 0, .slice none 0 0], .bool false]) (by simp [results, Tryz.results37, go_sem, r0, r1, r2]) rfl (.inr ⟨HP.out, _, [], by rw [HX.out]; rfl, Tms.nil _, by rw [HX.out, ← HK0.out]; exact HA.out, Nat.zero_le _, fun j hj => by simp [Value.ownBlock] at hj, ((HB.out.setCell (by simp) _).setCell (by simp) _).setCell (by simp) _⟩)
          · have hob : ((o.length : Int) == 0) = false := by simp; exact ho
            have HQ := Lib.hid (show o.isEmpty = false by simpa using ho)
            obtain ⟨y0, _⟩ := t2.at_ 0 _ rfl
            obtain ⟨y1, _⟩ := t2.at_ 1 _ rfl
            obtain ⟨y2, _⟩ := t2.at_ 2 _ rfl
            obtain ⟨z0, _⟩ := t3.at_ 0 _ rfl
            obtain ⟨z1, _⟩ := t3.at_ 1 _ rfl
            obtain ⟨z2, _⟩ := t3.at_ 2 _ rfl
            clear t2 t3 hown hbel hsz hst
            go_wp2
            have R := fun u1 u2 u3 => ((T2.out.set 0 u1).set 1 u2).set 2 u3
            have r0 := fun u1 u2 u3 => ((R u1 u2 u3).at_ 0 _ rfl).1
            have r1 := fun u1 u2 u3 => ((R u1 u2 u3).at_ 1 _ rfl).1
            have r2 := fun u1 u2 u3 => ((R u1 u2 u3).at_ 2 _ rfl).1
            have q1 := HW1.out
            have q2 := HLT.out
            refine bodyPost_ret (v := .tuple #[.agg #[.bool false, .int .i64 0, .slice vo o.length vc], .bool true]) (by simp [results, Tryz.results37, go_sem, r0, r1, r2]) rfl (.inr ⟨HP.out, _, o, ?_, ?_, by rw [HX.out, ← HK.out]; exact HA.out, by rw [← HK.out]; exact exL_len _ _ _, HL.out.mono (by omega), ((HB.out.setCell (by simp) _).setCell (by simp) _).setCell (by simp) _⟩)
            · rw [HX.out]; simp [HQ.out]
            · exact ((HTM.out.far HL.out (by simp; omega) _).far HL.out (by simp; omega) _).far HL.out (by simp; omega) _
     · obtain ⟨W2, hW2⟩ : ∃ W2, W2 = w1.alloc (.cells #[.bool true, .int .i64 at', .slice none 0 0] 71) := ⟨_, rfl⟩
       have hbw : Below w1.heap.size w1 W2 := by rw [hW2]; exact (Below.refl _ _).alloc (Nat.le_refl _) _
       have s3 : CBox W2 w1.heap.size 71 #[.bool true, .int .i64 at', .slice none 0 0] := by rw [hW2]; exact CBox.new _ rfl
       have HX := Lib.hid (show (true && decide (now < at')) = true from by rw [hq]; rfl)
       have HLT := Lib.hid s3.lt
       have S3 := Lib.hid s3
       have S1 := Lib.hid (T1.out.below hbw T1.out.lt); have S2 := Lib.hid (T2.out.below hbw T2.out.lt); have B2 := Lib.hid (HBW.out.trans (hbw.mono HBW.out.size))
       have nb1 := T1.out.old (.cells #[.bool true, .int .i64 0, .slice none 0 0] 71)
       obtain ⟨n1, _⟩ := nb1.at_ 1 _ rfl
       have nb2 : CBox (w1.alloc (.cells #[.bool true, .int .i64 0, .slice none 0 0] 71)) w1.heap.size 71 #[.bool true, .int .i64 0, .slice none 0 0] := CBox.new _ rfl
       obtain ⟨m0, _⟩ := nb2.at_ 0 _ rfl
       obtain ⟨m1, m1f⟩ := nb2.at_ 1 _ rfl
       clear nb1 nb2
       clear s3 hbw T1 T2 HBW
       go_wp2_with fail
       rw [← hW2]
       clear hW2 x0 x1 x2 y0 y1 y2 n1 m0 m1 m1f
       go_loopw [7] (fun i wr => ∃ (k : Nat) (v' : Value) (o : List Tmd), k ≤ L.length ∧ i = .int .i64 k ∧ exL true now (L.take k) = o ∧ CBox wr w.heap.size 71 #[.bool true, .int .i64 at', .slice ao L.length cap] ∧ CBox wr (w.heap.size + 1) 71 #[.bool false, .int .i64 0, .slice none 0 0] ∧ CBox wr w1.heap.size 71 #[.bool true, .int .i64 at', v'] ∧ wr.ownsRow W2.heap.size 103 2 v' o.length (o.flatMap tcells) ∧ Below w.heap.size w wr ∧ W2.heap.size ≤ wr.heap.size) (fun i _ => L.length - (intOf i).toNat)
       case atStart => exact ⟨0, _, [], Nat.zero_le _, rfl, rfl, S1.out, S2.out, S3.out, World.ownsRow_nil _ _ _ _, B2.out, Nat.le_refl _⟩
       case round =>
        obtain ⟨k, v', o, hk, rfl, hst, t1, t2, t3, hown, hbel, hsz⟩ := hrel
        obtain ⟨vo, vc, rfl⟩ := own_form hown
        have hol : o.length ≤ k := by rw [← hst]; exact Nat.le_trans (exL_len _ _ _) (by simp; omega)
        have T1 := Lib.hid t1; have T2 := Lib.hid t2; have T3 := Lib.hid t3; have HO := Lib.hid hown; have HB := Lib.hid hbel; have HSZ := Lib.hid hsz
        obtain ⟨x2, _⟩ := t1.at_ 2 _ rfl
        obtain ⟨u0, _⟩ := t3.at_ 0 _ rfl
        obtain ⟨u2, _⟩ := t3.at_ 2 _ rfl
        have hl3 := t3.lt
        obtain ⟨b, off, hm, hlen, hidx, hc⟩ := (HT.out.mono hbel).facts
        by_cases hlt : k < L.length
        · obtain ⟨⟨s, n⟩, hs⟩ : ∃ s, L.getD k default = s := ⟨_, rfl⟩
          obtain ⟨hlb, q0, q1⟩ := hc k hlt
          rw [hs] at q0 q1
          have hp := hidx k hlt
          have hL : L[k] = (s, n) := by rw [← hs]; simp [List.getD_eq_getElem?_getD, hlt]
          have HN := Lib.hid (show exL true now (L.take (k + 1)) = o ++ exTail true now (s, n) from by rw [exL_snoc _ _ L k hlt, hst, hL])
          have h1 : o.length + 1 ≤ maxLen := by have := HLL.out; unfold maxLen; omega
          have h2 : (o.length + 1) * 24 ≤ 140737488355328 := by have := HLL.out; omega
          clear hidx hc hs hL hst hown hbel t1 t2 t3 hsz
          cases hnc : decide (now < n)
          · have NC := Lib.hid (show ¬ now < n by simpa using hnc)
            have HE := Lib.hid (show exL true now (L.take (k + 1)) = o ++ [(s, 0)] from by rw [HN.out]; simp [exTail, NC.out])
            go_wp2_with (at_builtin; refine wpList_append_vals _ rfl _ _ 69 rfl W2.heap.size 103 i0 (.agg #[.string ⟨#[]⟩, .int .i64 0]) 2 24 Tryz.underlying69 hi hz0 hz1 hz2 rfl (by decide) (.slice vo o.length vc) _ _ rfl ((HO.out.alloc _).alloc _) _ 1 [.string (bstr s), .int .i64 0] rfl (sliceOf_block (heap_new _ _ _ (by simp)) rfl (by simp [Value.oneCell'])) h1 h2 (by have := HSZ.out; simp; omega) ?_; intro v2 w3 hown3 hg3 _; obtain ⟨o2, c2, rfl⟩ := own_form hown3; have NE := (show ∀ b, b < W2.heap.size → some b ≠ Value.ownBlock (.slice vo o.length vc) from fun b hb e => by have := (HO.out.lt _ e.symm).1; omega); have U3 := Lib.hid (((T3.out.old _).old _).grown hg3 (NE _ HLT.out)); obtain ⟨y2, _⟩ := U3.out.at_ 2 _ rfl; have V1 := Lib.hid (((T1.out.old _).old _).grown hg3 (NE _ (by have := HLT.out; have := HW1.out; omega))); have V2 := Lib.hid (((T2.out.old _).old _).grown hg3 (NE _ (by have := HLT.out; have := HW1.out; omega))); have HO3 := Lib.hid hown3; have HG3 := Lib.hid hg3; clear hown3 hg3 NE)
            go_roundw
            case rel =>
             have g1 := HG3.out.size
             have q1 := HSZ.out
             have q2 := HW1.out
             have q3 := HLT.out
             have g2 := (HB.out.alloc HB.out.size (.cells #[.string (bstr s), .int .i64 n] 103)).alloc (by have := HB.out.size; simp; omega) (.cells ([.string (bstr s), .int .i64 0]).toArray 103)
             have g3 := g2.grown HG3.out g2.size (fun j e => Nat.le_trans (by omega) (HO.out.lt j e).1)
             refine ⟨k + 1, _, _, by omega, by go_num, HE.out, V1.out.far (by simp; omega) _, V2.out.far (by simp; omega) _, U3.out.set 2 _, ?_, g3.setCell (by simp; omega) _, by simp; simp at g1; omega⟩
             refine ownsRow_setCell_below ?_ (by simp; omega) _
             simpa [tcells] using HO3.out
            case measure => simp [intOf]; omega
          · have NC := Lib.hid (show now < n by simpa using hnc)
            have HE := Lib.hid (show exL true now (L.take (k + 1)) = o ++ [(s, n)] from by rw [HN.out]; simp [exTail, NC.out])
            go_wp2_with (at_builtin; refine wpList_append_vals _ rfl _ _ 69 rfl W2.heap.size 103 i0 (.agg #[.string ⟨#[]⟩, .int .i64 0]) 2 24 Tryz.underlying69 hi hz0 hz1 hz2 rfl (by decide) (.slice vo o.length vc) _ _ rfl ((HO.out.alloc _).alloc _) _ 1 [.string (bstr s), .int .i64 n] rfl (sliceOf_block (heap_new _ _ _ (by simp)) rfl (by simp [Value.oneCell'])) h1 h2 (by have := HSZ.out; simp; omega) ?_; intro v2 w3 hown3 hg3 _; obtain ⟨o2, c2, rfl⟩ := own_form hown3; have NE := (show ∀ b, b < W2.heap.size → some b ≠ Value.ownBlock (.slice vo o.length vc) from fun b hb e => by have := (HO.out.lt _ e.symm).1; omega); have U3 := Lib.hid (((T3.out.old _).old _).grown hg3 (NE _ HLT.out)); obtain ⟨y2, _⟩ := U3.out.at_ 2 _ rfl; have V1 := Lib.hid (((T1.out.old _).old _).grown hg3 (NE _ (by have := HLT.out; have := HW1.out; omega))); have V2 := Lib.hid (((T2.out.old _).old _).grown hg3 (NE _ (by have := HLT.out; have := HW1.out; omega))); have HO3 := Lib.hid hown3; have HG3 := Lib.hid hg3; clear hown3 hg3 NE)
            go_roundw
            case rel =>
             have g1 := HG3.out.size
             have q1 := HSZ.out
             have q2 := HW1.out
             have q3 := HLT.out
             have g2 := (HB.out.alloc HB.out.size (.cells #[.string (bstr s), .int .i64 n] 103)).alloc (by have := HB.out.size; simp; omega) (.cells ([.string (bstr s), .int .i64 n]).toArray 103)
             have g3 := g2.grown HG3.out g2.size (fun j e => Nat.le_trans (by omega) (HO.out.lt j e).1)
             refine ⟨k + 1, _, _, by omega, by go_num, HE.out, V1.out.far (by simp; omega) _, V2.out.far (by simp; omega) _, U3.out.set 2 _, ?_, g3.setCell (by simp; omega) _, by simp; simp at g1; omega⟩
             refine ownsRow_setCell_below ?_ (by simp; omega) _
             simpa [tcells] using HO3.out
            case measure => simp [intOf]; omega
        · have hL : L.take k = L := List.take_of_length_le (by omega)
          rw [hL] at hst
          have HK := Lib.hid hst
          have HA := Lib.hid (asc_ex true now (pcheck_asc HP.out))
          have HTM := Lib.hid (show Tms wr (.slice vo o.length vc) o from Tms.own HO.out (by have := HLL.out; omega) (by rw [← HK.out]; exact exL_wfs _ _ HWF.out))
          have HL := Lib.hid (Lies.own HO.out)
          clear hidx hc hL t1
          obtain ⟨y0, _⟩ := t2.at_ 0 _ rfl
          obtain ⟨y1, _⟩ := t2.at_ 1 _ rfl
          obtain ⟨y2, _⟩ := t2.at_ 2 _ rfl
          obtain ⟨z0, _⟩ := t3.at_ 0 _ rfl
          obtain ⟨z1, _⟩ := t3.at_ 1 _ rfl
          obtain ⟨z2, _⟩ := t3.at_ 2 _ rfl
          clear t2 t3 hown hbel hsz hst
          go_wp2
          have R := fun u1 u2 u3 => ((T2.out.set 0 u1).set 1 u2).set 2 u3
          have r0 := fun u1 u2 u3 => ((R u1 u2 u3).at_ 0 _ rfl).1
          have r1 := fun u1 u2 u3 => ((R u1 u2 u3).at_ 1 _ rfl).1
          have r2 := fun u1 u2 u3 => ((R u1 u2 u3).at_ 2 _ rfl).1
          have q1 := HW1.out
          have q2 := HLT.out
          refine bodyPost_ret (v := .tuple #[.agg #[.bool true, .int .i64 at', .slice vo o.length vc], .bool true]) (by simp [results, Tryz.results37, go_sem, r0, r1, r2]) rfl (.inr ⟨HP.out, _, o, ?_, ?_, by rw [HX.out, ← HK.out]; exact HA.out, by rw [← HK.out]; exact exL_len _ _ _, HL.out.mono (by omega), ((HB.out.setCell (by simp) _).setCell (by simp) _).setCell (by simp) _⟩)
          · rw [HX.out]; simp
          · exact ((HTM.out.far HL.out (by simp; omega) _).far HL.out (by simp; omega) _).far HL.out (by simp; omega) _
end Go.Proofs.YtpibmjkbebkilaaGreat
