/- Texts joined into one file: TKeys, TDrop, TTight. -/
import Derived.Test.YtpibmjkbebkilaaA21
import Derived.Test.YtpibmjkbebkilaaA15

/- (*table.Table).Keys. -/
namespace Go.Proofs.Ytpibmjkbebkilaa
open Go.RowKit Go.Lib Go.Maps Go.Sort Go.Shelf
set_option maxRecDepth 20000
attribute [local go_sem] Oper.semAt_some

theorem Kts.own {w : World} {base : Nat} {v : Value} {K : List TK} (h : w.ownsRow base 46 3 v K.length (K.flatMap ktcells)) : Kts w v K := by
  rcases h.2 with ⟨rfl, h0⟩ | ⟨g, cap, cur, rfl, hb, hg, hn, hm, hs, ht⟩
  · rw [List.length_eq_zero_iff] at h0
    subst h0
    exact Kts.nil w
  · refine ⟨_, cap, g, 0, rfl, .inr rfl, fun k hk => ?_⟩
    have hc := h.cells (g := g) rfl
    have hx : ∀ j, j < 3 → (K.flatMap ktcells)[k * 3 + j]? = some ((ktcells (K.getD k default))[j]!) := fun j hj => by
      have := tkflat_get K (k * 3 + j) (by omega)
      rw [show (k * 3 + j) / 3 = k from by omega, show (k * 3 + j) % 3 = j from by omega] at this
      exact this
    have c0 := hc _ _ (hx 0 (by omega))
    have c1 := hc _ _ (hx 1 (by omega))
    have c2 := hc _ _ (hx 2 (by omega))
    rw [add_lit, Nat.zero_add] at c0 c1 c2
    refine ⟨(Array.getElem?_eq_some_iff.1 hg).1, ?_, ?_, ?_⟩
    · rw [Nat.zero_add]; exact c0
    · rw [Nat.zero_add]; exact c1
    · rw [Nat.zero_add]; exact c2

/-- what has come so far lies in a slice of the call's own, from block b0 on -/
def TRowK (b0 B : Nat) (pre : List TKo) (W : World) : Prop := ∃ u, Boxed W B 42 u ∧ W.ownsRow b0 46 3 u pre.length ((pre.map Subtype.val).flatMap ktcells) ∧ True
theorem TRowK.own (b0 B : Nat) : Own (TRowK b0 B) := holdsRow_own b0 B 42 46 3 (fun pre : List TKo => pre.length) (fun pre : List TKo => (pre.map Subtype.val).flatMap ktcells) (fun _ _ => True)

def RetK (K : List TK) (w : World) (e : Ending) (w' : World) : Prop := ∃ u, e = .returned u ∧ w'.ownsRow w.heap.size 46 3 u K.length (K.flatMap ktcells) ∧ Below w.heap.size w w'

set_option maxRecDepth 100000 in
set_option maxHeartbeats 4000000 in
theorem aseq_any (t : Option Addr) (Ba N : Nat) (F : Tst) (K : List TK) (w : World) (h : TRead w t N F K) (hN : N ≤ 1000000) (hBa : Ba < w.heap.size) (ha : w.cell? ⟨Ba, 0, none⟩ = some (.pointer t)) :
    Calls Try.prog 43 #[.slice none 0 0, .func (.func 44) #[] #[.pointer (some ⟨Ba, 0, none⟩)]] w (RetK K w) := by
  obtain ⟨i0, hi, hz0, hz1, hz2⟩ := info_parts infoTk
  have HT := Lib.hid h
  have hmm : maxLen = 9223372036854775807 := rfl
  clear h
  refine (callsIn_wide (n := 6)).1 ?_
  refine callsIn_of_wp_marks Try.func43 rfl trivial ?_ rfl
  simp only [Try.ntmps43, List.size_toArray, List.length_cons, List.length_nil, Nat.reduceAdd, Nat.reduceSub, Array.replicate_succ, Array.replicate_zero, List.push_toArray, List.append_toArray, List.nil_append, List.cons_append]
  gi_wp2
  have bS := Boxed.new w 42 (.slice none 0 0)
  have hB0 : Below w.heap.size w (w.alloc (.cells #[.slice none 0 0] 42)) := (Below.refl _ w).alloc (Nat.le_refl _) _
  have hsz : (w.alloc (.cells #[.slice none 0 0] 42)).heap.size = w.heap.size + 1 := by rw [World.size_alloc]
  obtain ⟨W0, hW0⟩ : ∃ W0, w.alloc (.cells #[.slice none 0 0] 42) = W0 := ⟨_, rfl⟩
  rw [hW0] at bS hB0 hsz ⊢
  clear hW0
  have ha0 := (hB0.cell (p := ⟨Ba, 0, none⟩) hBa).trans ha
  refine wpIn_rangeG (w.heap.size + 1) rfl (fun hd => by cases hd) (gf := 44) (lb := #[.pointer (some ⟨Ba, 0, none⟩)]) rfl trivial (enters_of Try.func44 (by kernel_rfl) rfl)
    ((HT.out.mono hB0).stops hN _ Ba (w.heap.size + 1) (by omega) ha0 (by omega)) (fun _ => rfl)
    (fun H pre W => TRowK H w.heap.size pre W ∧ Below w.heap.size w W)
    (fun _ _ _ _ => False)
    (fun H => OwnFrom.and (Own.from (TRowK.own _ _) _) (ownFrom_below (Nat.le_refl _) (by omega)))
    (fun _ _ _ _ _ _ hs _ _ => hs)
    (fun H hH => ⟨⟨_, bS, World.ownsRow_nil _ _ _ _, trivial⟩, hB0⟩)
    (fun x a' W => ∃ Bx, w.heap.size < Bx ∧ CBox W Bx 46 #[.int .i64 x.1.1, .string (bstr x.1.2.1), .int .i64 x.1.2.2] ∧ a' = { tmps := #[.slice none 0 0, .func (.func 44) #[] #[.pointer (some ⟨Ba, 0, none⟩)], .pointer (some ⟨w.heap.size, 0, none⟩), undef, .slice none 0 0, .pointer (some ⟨Bx, 0, none⟩), .func (.func 44) #[] #[.pointer (some ⟨Ba, 0, none⟩)], encT x.1, undef, undef, undef, undef, undef], defers := [] })
    (fun x a' _ X Y row hs hg hr => by obtain ⟨Bx, h1, h2, h3⟩ := hs; exact ⟨Bx, h1, tcbox_own Bx _ _ () X Y row h2 hg (fun r e => (hr r e).2), h3⟩)
    ?assign ?body ?done ?stop
  case assign =>
    rintro l H pre ⟨⟨xv, xg, xp⟩, hx⟩ W Kx hH1 hH2 ⟨⟨u, hu, hrow, _⟩, hW⟩ hK
    have hWs := hW.size
    have hul := hu.lt
    simp only [encT]
    gi_wp2
    exact hK _ _ ((KeepsOthers.alloc _ _).from _) (KeepsR.alloc _ _ _ _) ⟨⟨u, hu.alloc _, hrow.alloc _, trivial⟩, hW.alloc hWs _⟩ ⟨W.heap.size, hul, CBox.new _ rfl, rfl⟩
  case body =>
    rintro l H pre ⟨⟨xv, xg, xp⟩, hx⟩ a' W hl hH1 hH2 hr ⟨⟨u, hu, hrow, _⟩, hW⟩ ⟨Bx, hBx, bX, rfl⟩ hlt
    have cu := hu.cell
    obtain ⟨k0, _⟩ := bX.at_ 0 _ rfl
    obtain ⟨k1, _⟩ := bX.at_ 1 _ rfl
    obtain ⟨k2, _⟩ := bX.at_ 2 _ rfl
    have HSL := Lib.hid (show pre.length + 1 ≤ 1000001 from by omega)
    have HWS := Lib.hid (show w.heap.size ≤ H ∧ w.heap.size ≤ W.heap.size ∧ H ≤ W.heap.size from by omega)
    have HRW := Lib.hid hrow
    clear hlt hr
    gi_wp2_with (gi_at_builtin; refine wpListIn_append_own _ rfl _ _ 42 rfl H 46 i0 (.agg #[.int .i64 0, .string ⟨#[]⟩, .int .i64 0]) 3 32 Try.underlying42 hi hz0 hz1 hz2 rfl (by decide) _ _ _ rfl (hrow.alloc _) ⟨W.heap.size, 0, none⟩ 1 1 (ktcells (xv, xg, xp)) rfl rfl (ktcells_new _ (xv, xg, xp) _) (ktcells_one _) (by have := HSL.out; omega) (by have := HSL.out; omega) (by have := HWS.out; simp; omega) ?_; intro v' w1 hown' hgrow _; obtain ⟨g', cap', rfl⟩ := ownsRow_succ hown'; obtain ⟨hv1, hv2, _, hk2, hb2⟩ := hu.appended (by decide) (town_base hrow HWS.out.1) HWS.out.2.1 (by omega) (town_base hown' HWS.out.1) hgrow; have hr2 := hown'.kept (grownBy_setCell' w1 w.heap.size (.slice (some ⟨g', 0, none⟩) (pre.length + 1) cap')) (.inr (hv1.not_row (by decide) hown').symm); have hc1 := hv1.cell; have hf1 := hv1.frozen)
    have hkr : KeepsR (w.heap.size + 1) H W (w1.setCell ⟨w.heap.size, 0, none⟩ (.slice (some ⟨g', 0, none⟩) (pre.length + 1) cap')) :=
      ((KeepsR.alloc _ _ _ _).trans (KeepsR.grown hgrow fun r e => .inr (HRW.out.lt r e).1)).trans (KeepsR.grown (grownBy_setCell' _ _ _) fun r e => by injection e with e; subst e; exact .inl (Nat.lt_succ_self _))
    exact ⟨hk2.from _, hkr, ⟨by
      unfold TRowK
      rw [List.map_append, List.map_cons, List.map_nil]
      exact ⟨_, hv2, by simpa using hr2, trivial⟩, hW.trans hb2⟩⟩
  case done =>
    rintro D H ys W hD hDH hys ⟨⟨u, hu, hrow, _⟩, hW⟩ hK
    have cu := hu.cell
    have HY := Lib.hid hys
    have HR := Lib.hid hrow
    have HW := Lib.hid hW
    clear hys hrow hW hu
    gi_wp2
    refine ⟨by simp, .inl ⟨_, _, rfl, run_takeDeferred hK, ?_⟩⟩
    have hR2 := town_keep (town_base (base' := w.heap.size) HR.out (by omega)) (tckeep_putObj (.deferred none) hK rfl)
    exact ⟨_, results_tmp rfl _ _ _, u, rfl, by rw [← HY.out, List.length_map]; exact hR2, HW.out.trans (belowK_b (w := w) (Nat.le_refl _) W D _ _ (by omega) hK rfl rfl)⟩
  case stop =>
    rintro D H c pre W _ _ _ h _
    exact h.elim

theorem acollect_any (t : Option Addr) (Ba N : Nat) (F : Tst) (K : List TK) (w : World) (h : TRead w t N F K) (hN : N ≤ 1000000) (hBa : Ba < w.heap.size) (ha : w.cell? ⟨Ba, 0, none⟩ = some (.pointer t)) :
    Calls Try.prog 26 #[.func (.func 44) #[] #[.pointer (some ⟨Ba, 0, none⟩)]] w (RetK K w) := by
  have HS := Lib.hid (aseq_any t Ba N F K w h hN hBa ha)
  clear h ha
  go_enter Try.func26, Try.ntmps26
  go_wp2_with ((with_reducible refine HS.out.mono ?_); rintro e w' ⟨u, rfl, h1, h2⟩; have HR := Lib.hid (And.intro h1 h2); clear h1 h2 HS)
  go_ret
  exact ⟨_, rfl, HR.out⟩

theorem all_call (t : Option Addr) (w : World) : Calls Try.prog 27 #[.pointer t] w fun e w' => e = .returned (.func (.func 44) #[] #[.pointer (some ⟨w.heap.size, 0, none⟩)]) ∧ w' = w.alloc (.cells #[.pointer t] 27) := (callsIn_wide (n := 6)).1 (tall_in _ _ _)

/-- a call that hands back keys in a slice of its own -/
def RetKts (K : List TK) (w : World) (e : Ending) (w' : World) : Prop := ∃ u, e = .returned u ∧ Kts w' u K ∧ Lies w.heap.size u ∧ Below w.heap.size w w'
theorem keys_fn (t : Option Addr) (N : Nat) (F : Tst) (K : List TK) (w : World) (h : TRead w t N F K) (hN : N ≤ 1000000) :
    Calls Try.prog 10 #[.pointer t] w (RetKts K w) := by
  have hb : Below w.heap.size w (w.alloc (.cells #[.pointer t] 27)) := (Below.refl _ _).alloc (Nat.le_refl _) _
  have HS := Lib.hid (acollect_any t w.heap.size N F K (w.alloc (.cells #[.pointer t] 27)) (h.mono hb) hN (by simp) ((show CBox (w.alloc (.cells #[.pointer t] 27)) w.heap.size 27 #[.pointer t] from CBox.new _ rfl).at_ 0 _ rfl).1)
  have HB := Lib.hid hb
  clear h hb
  go_enter Try.func10, Try.ntmps10
  go_wp2_with (first | ((with_reducible refine (all_call _ _).mono ?_); rintro e w' ⟨rfl, rfl⟩) | ((with_reducible refine HS.out.mono ?_); rintro e w' ⟨u, rfl, h1, h2⟩; have HR := Lib.hid (And.intro h1 h2); clear h1 h2 HS))
  go_ret
  exact ⟨_, rfl, Kts.own HR.out.1, (Lies.own HR.out.1).mono HB.out.size, HB.out.trans (HR.out.2.mono HB.out.size)⟩
end Go.Proofs.Ytpibmjkbebkilaa

/- (*table.Table).Drop. -/
namespace Go.Proofs.Ytpibmjkbebkilaa
open Go.RowKit Go.Lib Go.Maps Go.Sort Go.Shelf
set_option maxRecDepth 20000
attribute [local go_sem] Oper.semAt_some

theorem CKeep.of_far {X Y : World} {row : Option Nat} (hg : X.grownBy Y row) (hr : ∀ r, row = some r → ∃ o : Obj, X.heap[r]? = some o ∧ o.isCells = false) : CKeep X Y :=
  ⟨hg.size, fun j cs T fr e => (hg.block j (Array.getElem?_eq_some_iff.1 e).1 (fun q => by
    obtain ⟨o, ho, hc⟩ := hr j q.symm
    rw [e] at ho
    injection ho with ho
    subst ho
    cases hc)).trans e⟩
theorem Tb.far {X Y : World} {p b o n m : Nat} {room M L : Int} {F : Tst} {O : Int → Option Int} {row : Option Nat} {B : Nat} (h : Tb X p b o n m room M L F O) (hg : X.grownBy Y row) (hr : ∀ r, row = some r → B ≤ r ∧ ∃ o : Obj, X.heap[r]? = some o ∧ o.isCells = false) (hb : b < B) (ho : o < B) : Tb Y p b o n m room M L F O := by
  obtain ⟨V, hV, hH⟩ := h.states
  obtain ⟨U, hU, hO⟩ := h.overs
  have hc := CKeep.of_far hg (fun r e => (hr r e).2)
  exact ⟨hc.box h.box, ⟨V, hV.kept hg (fun e => by have := (hr b e.symm).1; omega), hH.keep hc⟩, ⟨U, hU.kept hg (fun e => by have := (hr o e.symm).1; omega), hO⟩, h.ne⟩
theorem MTurn.far {X Y w : World} {b o : Nat} {row : Option Nat} {B : Nat} (h : MTurn b o w X) (hg : X.grownBy Y row) (hr : ∀ r, row = some r → B ≤ r) (hB : w.heap.size ≤ B) : MTurn b o w Y :=
  ⟨hg.os.trans h.os, hg.tape.trans h.tape, hg.output.trans h.output, Nat.le_trans h.size hg.size, fun k hk h1 h2 => (hg.block k (Nat.lt_of_lt_of_le hk h.size) (fun e => by have := hr k e.symm; omega)).trans (h.block k hk h1 h2)⟩
theorem tbw_own {β : Type} {w : World} {p b o n m B : Nat} {room M L : Int} {O : Int → Option Int} (f : β → Tst) (hb : b < B) (ho : o < B) (hB : w.heap.size ≤ B) : OwnFrom B (fun s W => Tb W p b o n m room M L (f s) O ∧ MTurn b o w W) :=
  fun _ _ _ _ hs hg hr => ⟨hs.1.far hg hr hb ho, hs.2.far hg (fun r e => (hr r e).1) hB⟩

/-- a number in a box of its own does not matter to a table -/
theorem Tb.setBox {W : World} {p b o n m B : Nat} {room M L z : Int} {F : Tst} {O : Int → Option Int} {T : TypeId} (h : Tb W p b o n m room M L F O) (hB : CBox W B T #[.int .i64 z]) (hp : B ≠ p) (u : Value) : Tb (W.setCell ⟨B, 0, none⟩ u) p b o n m room M L F O := by
  obtain ⟨V, hV, hH⟩ := h.states
  obtain ⟨U, hU, hO⟩ := h.overs
  have hb' : W.heap[B]? = some _ := hB
  have hs : ∀ (i : Nat) (s : ByteArray), (#[.int .i64 z] : Array Value)[i]? ≠ some (Value.string s) := fun i s => by
    match i with
    | 0 => simp
    | i + 1 => simp
  refine ⟨h.box.far (p := ⟨B, 0, none⟩) (Ne.symm hp) u, ⟨V, hV.set (p := ⟨B, 0, none⟩) (fun e => ?_) u, fun k => ?_⟩, ⟨U, hU.set (p := ⟨B, 0, none⟩) (fun e => ?_) u, hO⟩, h.ne⟩
  · obtain ⟨es, c, e'⟩ := hV.map_is
    rw [show b = B from e, hb'] at e'
    cases e'
  · have := hH k
    cases hF : F k
    · rw [hF] at this; exact this
    · rw [hF] at this
      obtain ⟨v, e, hT, hw⟩ := this
      exact ⟨v, e, hT.apart (p := ⟨B, 0, none⟩) (fun hL c hc => hT.ne_box hB hs hL c hc) u, hw⟩
  · obtain ⟨es, c, e'⟩ := hU.map_is
    rw [show o = B from e, hb'] at e'
    cases e'

/-- what is left of a table when the states of a port have gone, of some keys -/
def dropF (F : Tst) (port : Int) (l : List TK) : Tst := l.foldl (fun F x => if x.2.2 = port then delS F x else F) F
def dropN (port : Int) (l : List TK) : Nat := (l.filter fun x => x.2.2 == port).length
theorem dropF_snoc (F : Tst) (port : Int) (l : List TK) (x : TK) : dropF F port (l ++ [x]) = if x.2.2 = port then delS (dropF F port l) x else dropF F port l := by simp [dropF]
theorem dropN_snoc (port : Int) (l : List TK) (x : TK) : dropN port (l ++ [x]) = dropN port l + if x.2.2 = port then 1 else 0 := by
  simp only [dropN, List.filter_append, List.length_append, List.filter_cons, List.filter_nil]
  split <;> simp_all
theorem dropN_le (port : Int) (l : List TK) : dropN port l ≤ l.length := List.length_filter_le _ _
theorem dropF_at (port : Int) : ∀ (l : List TK) (F : Tst) (x : TK), dropF F port l x = if x.2.2 = port ∧ x ∈ l then none else F x
  | [], F, x => by simp [dropF]
  | y :: l, F, x => by
    have h := dropF_at port l (if y.2.2 = port then delS F y else F) x
    have e : dropF F port (y :: l) = dropF (if y.2.2 = port then delS F y else F) port l := rfl
    rw [e, h]
    by_cases hx : x.2.2 = port ∧ x ∈ l
    · rw [if_pos hx, if_pos ⟨hx.1, List.mem_cons_of_mem _ hx.2⟩]
    · rw [if_neg hx]
      by_cases hy : x = y
      · subst hy
        by_cases hp : x.2.2 = port
        · simp [hp, delS]
        · simp [hp]
      · have hq : ¬ (x.2.2 = port ∧ x ∈ y :: l) := fun h => hx ⟨h.1, (List.mem_cons.1 h.2).resolve_left hy⟩
        rw [if_neg hq]
        split
        · simp [delS, hy]
        · rfl
/-- a table without a port -/
def noPort (F : Tst) (port : Int) : Tst := fun x => if x.2.2 = port then none else F x
theorem dropF_all {F : Tst} {K : List TK} (h : KeysS F K) (port : Int) : dropF F port K = noPort F port := by
  funext x
  rw [dropF_at]
  unfold noPort
  by_cases e : x.2.2 = port
  · by_cases hx : x ∈ K
    · rw [if_pos ⟨e, hx⟩, if_pos e]
    · rw [if_neg (fun h => hx h.2), if_pos e]
      cases hF : F x
      · rfl
      · exact absurd ((h.2 x).2 (by rw [hF]; simp)) hx
  · rw [if_neg (fun h => e h.1), if_neg e]

set_option maxRecDepth 100000 in
set_option maxHeartbeats 4000000 in
theorem drop_any (p b o N m : Nat) (room M L port : Int) (F : Tst) (O : Int → Option Int) (K : List TK) (w : World) (h : Tb w p b o N m room M L F O) (hK : KeysS F K) (hN : N ≤ 1000000) :
    Calls Try.prog 11 #[.pointer (some ⟨p, 0, none⟩), .int .i64 port] w fun e w' => e = .returned (.int .i64 (dropN port K)) ∧ Tb w' p b o N m room M L (noPort F port) O ∧ MTurn b o w w' := by
  have HT := Lib.hid h
  have HR := Lib.hid (show TRead w (some ⟨p, 0, none⟩) N F K from ⟨hK, .inr ⟨p, b, o, m, room, M, L, O, rfl, h⟩⟩)
  have HK := Lib.hid hK
  have HL := Lib.hid h.lt
  clear h hK
  refine (callsIn_wide (n := 6)).1 ?_
  refine callsIn_of_wp_marks Try.func11 rfl trivial ?_ rfl
  simp only [Try.ntmps11, List.size_toArray, List.length_cons, List.length_nil, Nat.reduceAdd, Nat.reduceSub, Array.replicate_succ, Array.replicate_zero, List.push_toArray, List.append_toArray, List.nil_append, List.cons_append]
  gi_wp2_with (refine ⟨trivial, ?_⟩; gi_at_call 27; refine (tall_in _ _ _).mono ?_; rintro e w' ⟨rfl, rfl⟩)
  have hB0 : Below w.heap.size w ((((w.alloc (.cells #[.pointer (some ⟨p, 0, none⟩)] 27)).alloc (.cells #[.int .i64 port] 3)).alloc (.cells #[.int .i64 0] 3)).alloc (.cells #[.pointer (some ⟨p, 0, none⟩)] 27)) := ((((Below.refl _ w).alloc (Nat.le_refl _) _).alloc (by simp) _).alloc (by simp <;> omega) _).alloc (by simp <;> omega) _
  have b0 := (((CBox.new (w := w) (T := 27) #[.pointer (some ⟨p, 0, none⟩)] rfl).old (.cells #[.int .i64 port] 3)).old (.cells #[.int .i64 0] 3)).old (.cells #[.pointer (some ⟨p, 0, none⟩)] 27)
  have b1 := ((CBox.new (w := w.alloc (.cells #[.pointer (some ⟨p, 0, none⟩)] 27)) (T := 3) #[.int .i64 port] rfl).old (.cells #[.int .i64 0] 3)).old (.cells #[.pointer (some ⟨p, 0, none⟩)] 27)
  have b2 := (CBox.new (w := (w.alloc (.cells #[.pointer (some ⟨p, 0, none⟩)] 27)).alloc (.cells #[.int .i64 port] 3)) (T := 3) #[.int .i64 0] rfl).old (.cells #[.pointer (some ⟨p, 0, none⟩)] 27)
  have b3 := CBox.new (w := ((w.alloc (.cells #[.pointer (some ⟨p, 0, none⟩)] 27)).alloc (.cells #[.int .i64 port] 3)).alloc (.cells #[.int .i64 0] 3)) (T := 27) #[.pointer (some ⟨p, 0, none⟩)] rfl
  obtain ⟨W0, hW0⟩ : ∃ W0, ((((w.alloc (.cells #[.pointer (some ⟨p, 0, none⟩)] 27)).alloc (.cells #[.int .i64 port] 3)).alloc (.cells #[.int .i64 0] 3)).alloc (.cells #[.pointer (some ⟨p, 0, none⟩)] 27)) = W0 := ⟨_, rfl⟩
  have hsz : W0.heap.size = w.heap.size + 4 := by rw [← hW0]; simp
  rw [hW0] at hB0 b0 b1 b2 b3 ⊢
  clear hW0
  simp only [World.size_alloc] at b1 b2 b3
  refine wpIn_rangeG (w.heap.size + 1 + 1 + 1) rfl (fun hd => by cases hd) (gf := 44) (lb := #[.pointer (some ⟨w.heap.size + 1 + 1 + 1, 0, none⟩)]) rfl trivial (enters_of Try.func44 (by kernel_rfl) rfl)
    ((HR.out.mono hB0).stops hN _ (w.heap.size + 1 + 1 + 1) (w.heap.size + 1 + 1 + 1) (by omega) (b3.at_ 0 _ rfl).1 (by omega)) (fun _ => rfl)
    (fun H pre W => (CBox W w.heap.size 27 #[.pointer (some ⟨p, 0, none⟩)] ∧ CBox W (w.heap.size + 1) 3 #[.int .i64 port] ∧ (fun (l : List TKo) W => CBox W (w.heap.size + 1 + 1) 3 #[.int .i64 (dropN port (l.map Subtype.val))]) pre W) ∧ (Tb W p b o N m room M L (dropF F port (pre.map Subtype.val)) O ∧ MTurn b o w W))
    (fun _ _ _ _ => False)
    (fun H => OwnFrom.and (OwnFrom.and (Own.from (fun (_ : List TKo) => tcbox_own _ _ _ ()) _) (OwnFrom.and (Own.from (fun (_ : List TKo) => tcbox_own _ _ _ ()) _) (Own.from (fun (l : List TKo) => tcbox_own _ _ _ ()) _))) (tbw_own (fun l : List TKo => dropF F port (l.map Subtype.val)) (by have := HL.out; omega) (by have := HL.out; omega) (by omega)))
    (fun _ _ _ _ _ _ hs _ _ => hs)
    (fun H hH => ⟨⟨b0, b1, b2⟩, HT.out.mono hB0, MTurn.of_below hB0⟩)
    (fun x a' W => ∃ Bx, w.heap.size + 1 + 1 < Bx ∧ CBox W Bx 46 #[.int .i64 x.1.1, .string (bstr x.1.2.1), .int .i64 x.1.2.2] ∧ a' = { tmps := #[.pointer (some ⟨p, 0, none⟩), .int .i64 port, .pointer (some ⟨w.heap.size, 0, none⟩), .pointer (some ⟨w.heap.size + 1, 0, none⟩), .int .i64 0, .pointer (some ⟨w.heap.size + 1 + 1, 0, none⟩), .pointer (some ⟨Bx, 0, none⟩), .pointer (some ⟨p, 0, none⟩), .func (.func 44) #[] #[.pointer (some ⟨w.heap.size + 1 + 1 + 1, 0, none⟩)], encT x.1, undef, undef, undef, undef, undef, undef, undef, undef, undef, undef, undef, undef], defers := [] })
    (fun x a' _ X Y row hs hg hr => by obtain ⟨Bx, h1, h2, h3⟩ := hs; exact ⟨Bx, h1, tcbox_own Bx _ _ () X Y row h2 hg (fun r e => (hr r e).2), h3⟩)
    ?assign ?body ?done ?stop
  case assign =>
    rintro l H pre ⟨⟨xv, xg, xp⟩, hx⟩ W Kx hH1 hH2 ⟨⟨hb0, hb1, hb2⟩, hT, hM⟩ hK
    have hul := hb2.lt
    have hal := World.grownBy_alloc W (.cells #[.int .i64 xv, .string (bstr xg), .int .i64 xp] 46) none
    simp only [encT]
    gi_wp2
    exact hK _ _ ((KeepsOthers.alloc _ _).from _) (KeepsR.alloc _ _ _ _) ⟨⟨hb0.old _, hb1.old _, hb2.old _⟩, hT.mono ((Below.refl _ _).alloc (Nat.le_refl _) _), hM.trans (MTurn.of_below ((Below.refl _ _).alloc (Nat.le_refl _) _))⟩ ⟨W.heap.size, hul, CBox.new _ rfl, rfl⟩
  case body =>
    rintro l H pre ⟨⟨xv, xg, xp⟩, hx⟩ a' W hl hH1 hH2 hr ⟨⟨hb0, hb1, hb2⟩, hT, hM⟩ ⟨Bx, hBx, bX, rfl⟩ hlt
    have HX := Lib.hid (And.intro hb0 (And.intro hb1 hb2))
    have HI := Lib.hid (And.intro hT hM)
    obtain ⟨t0, _⟩ := hb0.at_ 0 _ rfl
    obtain ⟨t1, _⟩ := hb1.at_ 0 _ rfl
    obtain ⟨t2, tf2⟩ := hb2.at_ 0 _ rfl
    obtain ⟨k0, _⟩ := bX.at_ 0 _ rfl
    obtain ⟨k1, _⟩ := bX.at_ 1 _ rfl
    obtain ⟨k2, _⟩ := bX.at_ 2 _ rfl
    have HSZ := Lib.hid hsz
    have HH := Lib.hid (And.intro hH1 (And.intro hH2 hlt))
    obtain ⟨c, hc⟩ : ∃ c, c = dropN port (pre.map Subtype.val) := ⟨_, rfl⟩
    have hcb : c ≤ 1000000 := by have := dropN_le port (pre.map Subtype.val); rw [List.length_map] at this; omega
    have HC := Lib.hid hc
    cases he : (xp == port)
    · have HN := Lib.hid (show ¬ xp = port from by simpa using he)
      clear hb0 hb1 hb2 hT hM hB0 b0 b1 b2 b3 hr hl hlt hH1 hH2
      gi_wp2
      refine ⟨KeepsFrom.refl _ _, KeepsR.refl _ _ _, ⟨HX.out.1, HX.out.2.1, ?_⟩, ?_, HI.out.2⟩
      · rw [List.map_append, List.map_cons, List.map_nil, dropN_snoc, if_neg HN.out, Nat.add_zero]
        exact HX.out.2.2
      · rw [List.map_append, List.map_cons, List.map_nil, dropF_snoc, if_neg HN.out]
        exact HI.out.1
    · have HN := Lib.hid (show xp = port from by simpa using he)
      obtain ⟨V, hV, hH⟩ := hT.states
      have hd : Below W.heap.size W W.drew := Below.drew (Below.refl _ _)
      have hdc : CKeep W W.drew := CKeep.drew W
      have hbp := hT.box
      have HF := Lib.hid (show ∀ wq, CKeep W wq → wq.cell? ⟨w.heap.size, 0, none⟩ = some (.pointer (some ⟨p, 0, none⟩)) ∧ wq.cell? ⟨Bx, 0, none⟩ = some (.int .i64 xv) ∧ wq.cell? ⟨Bx, 1, none⟩ = some (.string (bstr xg)) ∧ wq.cell? ⟨Bx, 2, none⟩ = some (.int .i64 xp) ∧ wq.cell? ⟨p, 3, none⟩ = some (.map (some b)) from fun wq hb =>
        ⟨hb.cell t0, hb.cell k0, hb.cell k1, hb.cell k2, hb.cell (hbp.at_ 3 _ rfl).1⟩)
      obtain ⟨w1, hrun, hV1, hmt⟩ := (hV.below hd hV.lt).drop Try.underlying65 (xv, xg, xp) hx 0
      clear hb0 hb1 hb2 hT hM hB0 b0 b1 b2 b3 hr hl hlt hH1 hH2 hbp
      gi_wp2
      refine region_round (fun W' => CKeep W W') (by kernel_rfl) (by kernel_rfl) (by rintro ⟨a, w, h⟩; exact h) hdc (fun hHeld => ?_)
      refine takeL 0 (v := ?_) rfl (by kernel_rfl) (by kernel_rfl) (by kernel_rfl) (fun _ _ _ h => h) (Or.inl ⟨by rfl, ?_⟩) (by assumption) ?_
      rotate_left
      focus (intro wq hSq; obtain ⟨f0, f1, f2, f3, f4⟩ := HF.out wq hSq; go_simp <;> with_reducible rfl)
      simp only [Act.put, List.setIfInBounds_toArray, List.set_cons_zero, List.set_cons_succ]
      refine takeL 1 (v := ?_) rfl (by kernel_rfl) (by kernel_rfl) (by kernel_rfl) (fun _ _ _ h => h) (Or.inl ⟨by rfl, ?_⟩) (by assumption) ?_
      rotate_left
      focus (intro wq hSq; obtain ⟨f0, f1, f2, f3, f4⟩ := HF.out wq hSq; go_simp <;> with_reducible rfl)
      simp only [Act.put, List.setIfInBounds_toArray, List.set_cons_zero, List.set_cons_succ]
      refine takeL 2 (v := ?_) rfl (by kernel_rfl) (by kernel_rfl) (by kernel_rfl) (fun _ _ _ h => h) (Or.inl ⟨by rfl, ?_⟩) (by assumption) ?_
      rotate_left
      focus (intro wq hSq; obtain ⟨f0, f1, f2, f3, f4⟩ := HF.out wq hSq; go_simp <;> with_reducible rfl)
      simp only [Act.put, List.setIfInBounds_toArray, List.set_cons_zero, List.set_cons_succ]
      refine takeL 3 (v := ?_) rfl (by kernel_rfl) (by kernel_rfl) (by kernel_rfl) (fun _ _ _ h => h) (Or.inl ⟨by rfl, ?_⟩) (by assumption) ?_
      rotate_left
      focus (intro wq hSq; obtain ⟨f0, f1, f2, f3, f4⟩ := HF.out wq hSq; go_simp <;> with_reducible rfl)
      simp only [Act.put, List.setIfInBounds_toArray, List.set_cons_zero, List.set_cons_succ]
      refine takeL 4 (v := ?_) rfl (by kernel_rfl) (by kernel_rfl) (by kernel_rfl) (fun _ _ _ h => h) (Or.inl ⟨by rfl, ?_⟩) (by assumption) ?_
      rotate_left
      focus (intro wq hSq; obtain ⟨f0, f1, f2, f3, f4⟩ := HF.out wq hSq; go_simp <;> with_reducible rfl)
      simp only [Act.put, List.setIfInBounds_toArray, List.set_cons_zero, List.set_cons_succ]
      refine wpAnyH_ready (rs := [5]) (by kernel_rfl) (by simp) (nextL 5 rfl (fun Kr hKr => ?_) AllReadyH.nil)
      have hrun' : (Builtin.delete_ #[65, 46] 0 #[.map (some b), .agg #[.int .i64 xv, .string (bstr xg), .int .i64 xp]]).run Try.prog W.drew = .ok (.tuple #[]) w1 := hrun
      go_simp
      have hck := CKeep.of_map (hV.below hd hV.lt) hmt.grown
      refine hKr.out _ _ (hdc.trans hck) (fun hEnd => ?_)
      clear hKr hHeld hrun hrun'
      refine wpAnyH_done (by kernel_rfl) ?_ _
      have HT1 := Lib.hid ((HI.out.1.mono hd).turned hmt.grown hV1 ((hH.keep hdc).del (xv, xg, xp)))
      have HM1 := Lib.hid (HI.out.2.trans ((MTurn.of_below hd).trans (MTurn.of_grown hmt.grown fun r e => by injection e with e; exact .inl e.symm)))
      have HKF := Lib.hid (show KeepsFrom W0.heap.size W w1 from ((KeepsOthers.drew W).from _).trans (KeepsFrom.of_grownBy hmt.grown fun j e => by injection e with e; have := HL.out; have := HSZ.out; omega))
      have HKR := Lib.hid (show KeepsR (w.heap.size + 1 + 1 + 1) H W w1 from (KeepsR.grown (grown_none hd) fun r e => by cases e).trans (KeepsR.grown hmt.grown fun r e => by injection e with e; have := HL.out; exact .inl (by omega)))
      have HX1 := Lib.hid (And.intro (hck.box (hdc.box HX.out.1)) (And.intro (hck.box (hdc.box HX.out.2.1)) (hck.box (hdc.box HX.out.2.2))))
      have hb2 := HX1.out.2.2
      rw [← HC.out] at hb2
      obtain ⟨s0, sf0⟩ := hb2.at_ 0 _ rfl
      have HB2 := Lib.hid hb2
      clear hV1 hmt hV hH hd hdc hck hEnd HF t0 t1 t2 tf2 k0 k1 k2 bX hb2 hc
      gi_wp2
      have hkf := HKF.out
      rw [HSZ.out] at hkf
      have hpl := HL.out
      refine ⟨hkf.trans ((KeepsOthers.setCell _ _ _).from _), HKR.out.trans (KeepsR.grown (grownBy_setCell' _ _ _) fun r e => by injection e with e; subst e; exact .inl (Nat.lt_succ_self _)), ⟨HX1.out.1.far (p := ⟨w.heap.size + 1 + 1, 0, none⟩) (by simp; omega) _, HX1.out.2.1.far (p := ⟨w.heap.size + 1 + 1, 0, none⟩) (by simp) _, ?_⟩, ?_, ?_⟩
      · rw [List.map_append, List.map_cons, List.map_nil, dropN_snoc, if_pos HN.out, ← HC.out]
        exact HB2.out.set 0 _
      · rw [List.map_append, List.map_cons, List.map_nil, dropF_snoc, if_pos HN.out]
        exact HT1.out.setBox HB2.out (by omega) _
      · exact HM1.out.far (B := w.heap.size) (grownBy_setCell' _ _ _) (fun r e => by injection e with e; omega) (Nat.le_refl _)
  case done =>
    rintro D H ys W hD hDH hys ⟨⟨hb0, hb1, hb2⟩, hT, hM⟩ hK
    have HY := Lib.hid hys
    have HI := Lib.hid (And.intro hT hM)
    have HB := Lib.hid hb2
    obtain ⟨f0, f1⟩ := hb2.at_ 0 _ rfl
    clear hb0 hb1 hb2 hT hM hys
    gi_wp2
    have hg := grownBy_putObj' W D (.deferred none)
    have hlt := HL.out
    refine ⟨by simp, .inl ⟨_, _, rfl, run_takeDeferred hK, ?_⟩⟩
    refine ⟨_, results_tmp rfl _ _ _, by rw [← HY.out]; rfl, ?_, HI.out.2.far (B := W0.heap.size) hg (fun r e => by injection e with e; omega) (by omega)⟩
    rw [← dropF_all HK.out, ← HY.out]
    exact HI.out.1.far (B := W0.heap.size) hg (fun r e => by injection e with e; subst e; exact ⟨hD, _, hK, rfl⟩) (by omega) (by omega)
  case stop =>
    rintro D H c pre W _ _ _ h _
    exact h.elim
end Go.Proofs.Ytpibmjkbebkilaa

/- The bound on a map's entries: as many as there are keys. -/
namespace Go.Proofs.Ytpibmjkbebkilaa
open Go.RowKit Go.Lib Go.Maps Go.Sort
set_option maxRecDepth 20000
section
variable {P : Program} {T : TypeId} {κ : Type} {K : KeyEnc P T κ} {w : World} {b n : Nat} {F : κ → Option Value}
theorem KeysV.len {L M : List κ} (h : KeysV F L) (h' : KeysV F M) : L.length = M.length := ((List.perm_ext_iff_of_nodup h.1 h'.1).2 fun k => (h.2 k).trans (h'.2 k).symm).length_eq
theorem World.ownsMap.tight {H : Type} {R : Value → Option (DataW H × List MemPlace)} {D : DataW H} (h : w.ownsMap P T R b n D) : w.ownsMap P T R b (Maps.size D) D := by
  obtain ⟨es, clock, hb, F, _, rfl⟩ := h
  exact ⟨es, clock, hb, F, by simp [Maps.size, length_sorted], rfl⟩
theorem VMap.tight {t e : TypeId} (h : VMap K w b n F) (ht : P.underlying t = some (.map T e)) {L : List κ} (hL : KeysV F L) : VMap K w b L.length F := by
  obtain ⟨L', h1, _, h2⟩ := h.count ht
  obtain ⟨h0, D, hd, e'⟩ := h
  have h3 := hd.len ht 0
  rw [h2 0] at h3
  injection h3 with h3
  injection h3 with _ h3
  have hl : L.length = Maps.size D := by rw [hL.len h1]; exact Int.ofNat.inj h3
  rw [hl]
  exact ⟨h0, D, World.ownsMap.tight hd, e'⟩
end
theorem Tb.tight {w : World} {p b o n m : Nat} {room M L : Int} {F : Tst} {O : Int → Option Int} {K : List TK} (h : Tb w p b o n m room M L F O) (hK : KeysS F K) : Tb w p b o K.length m room M L F O := by
  obtain ⟨V, hV, hH⟩ := h.states
  exact ⟨h.box, ⟨V, hV.tight Try.underlying65 (hH.keys hK), hH⟩, h.overs, h.ne⟩
theorem tbw_own' {β : Type} {w : World} {p b o m B : Nat} {room M L : Int} {O : Int → Option Int} (f : β → Tst) (g : β → Nat) (hb : b < B) (ho : o < B) (hB : w.heap.size ≤ B) : OwnFrom B (fun s W => Tb W p b o (g s) m room M L (f s) O ∧ MTurn b o w W) :=
  fun _ _ _ _ hs hg hr => ⟨hs.1.far hg hr hb ho, hs.2.far hg (fun r e => (hr r e).1) hB⟩
end Go.Proofs.Ytpibmjkbebkilaa
