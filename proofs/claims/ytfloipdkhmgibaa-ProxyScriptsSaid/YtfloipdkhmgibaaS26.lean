/- Texts joined into one file: PSc, PWr, PLawScripts. -/
import Derived.Test.YtfloipdkhmgibaaS25
import Derived.Test.YtfloipdkhmgibaaS24

/- What the walk of ProxyScripts joins: both Tells, both Forgets, both Alls; scripts in memory. -/
namespace Go.Proofs.Ytfloipdkhmgibaa
open Go.RowKit Go.Lib Go.Maps Go.Sort
set_option maxRecDepth 20000

/-- a call of the script: what to do, VLAN, group, filter -/
abbrev POp := Int × Int × Str × Bool × List Str
/-- a script in memory -/
def OpsS (w : World) (v : Value) (R : List POp) : Prop :=
  ∃ ao cap b off, ∃ src : Nat → Value, v = .slice ao R.length cap ∧ (R = [] ∨ ao = some ⟨b, off, none⟩) ∧ R.length ≤ 4398046511104 ∧
    (∀ k, k < R.length → b < w.heap.size ∧ w.cell? ⟨b, off + k * 5, none⟩ = some (.int .i64 (R.getD k default).1) ∧ w.cell? ⟨b, off + k * 5 + 1, none⟩ = some (.int .i64 (R.getD k default).2.1) ∧
      w.cell? ⟨b, off + k * 5 + 2, none⟩ = some (.string (bstr (R.getD k default).2.2.1)) ∧ w.cell? ⟨b, off + k * 5 + 3, none⟩ = some (.bool (R.getD k default).2.2.2.1) ∧ w.cell? ⟨b, off + k * 5 + 4, none⟩ = some (src k) ∧
      Strs w (src k) (R.getD k default).2.2.2.2 ∧ (R.getD k default).2.2.1.length ≤ maxLen)
theorem OpsS.shape {w : World} {v : Value} {R : List POp} (h : OpsS w v R) : ∃ ao cap, v = .slice ao R.length cap := by
  obtain ⟨ao, cap, _, _, _, h, _⟩ := h
  exact ⟨ao, cap, h⟩
theorem OpsS.facts {w : World} {v : Value} {R : List POp} (h : OpsS w v R) :
    ∃ b off, ∃ src : Nat → Value, R.length ≤ 4398046511104 ∧ (∀ ty w', (Builtin.len_ #[35] ty #[v]).run Try.prog w' = .ok (.int .i64 R.length) w') ∧
      (∀ k, k < R.length → ∀ w', (Instr.indexAt 35 v (.int .i64 k)).run Try.prog w' = .ok (.pointer (some ⟨b, off + k * 5, none⟩)) w') ∧
      (∀ k, k < R.length → b < w.heap.size ∧ w.cell? ⟨b, off + k * 5, none⟩ = some (.int .i64 (R.getD k default).1) ∧ w.cell? ⟨b, off + k * 5 + 1, none⟩ = some (.int .i64 (R.getD k default).2.1) ∧
        w.cell? ⟨b, off + k * 5 + 2, none⟩ = some (.string (bstr (R.getD k default).2.2.1)) ∧ w.cell? ⟨b, off + k * 5 + 3, none⟩ = some (.bool (R.getD k default).2.2.2.1) ∧ w.cell? ⟨b, off + k * 5 + 4, none⟩ = some (src k) ∧
        Strs w (src k) (R.getD k default).2.2.2.2 ∧ (R.getD k default).2.2.1.length ≤ maxLen) := by
  obtain ⟨ao, cap, b, off, src, rfl, h0, h1, h2⟩ := h
  refine ⟨b, off, src, h1, fun ty w' => run_len_any Try.underlying35 ao R.length cap ty w', fun k hk w' => ?_, h2⟩
  rcases h0 with h0 | rfl
  · subst h0; exact absurd hk (by simp)
  · exact run_index_any (P := Try.prog) (s := 5) Try.underlying35 (fun w => by kernel_rfl) b off R.length cap k hk w'

/-- the proxy, when the reference's box turns -/
theorem Px.kept_kx {w w' : World} {p b n q : Nat} {room room' : Int} {v : Value} {T : TypeId} {G : Told} (h : Px w p b n room G) (hb : CBox w q T #[.int .i64 room', v]) (hv : ∃ ao n c, v = .slice ao n c) (hp : p ≠ q) (hbb : b ≠ q) (hg : w.grownBy w' (some q)) : Px w' p b n room G := by
  obtain ⟨h1, V, h2, h3⟩ := h
  refine ⟨h1.grown hg (fun e => hp (by injection e)), V, h2.kept hg (fun e => hbb (by injection e)), fun k => ?_⟩
  have := h3 k
  cases hG : G k
  · rw [hG] at this; exact this
  · rw [hG] at this
    obtain ⟨v, e', hs⟩ := this
    exact ⟨v, e', hs.kept_kx hb hv hg⟩
theorem Px.more {w : World} {p b n m : Nat} {room : Int} {G : Told} (h : Px w p b n room G) (hm : n ≤ m) : Px w p b m room G := by
  obtain ⟨h1, V, ⟨h2, D, h3, h4⟩, h5⟩ := h
  exact ⟨h1, V, ⟨h2, D, h3.mono hm, h4⟩, h5⟩
theorem Recs.kept_kx {w w' : World} {u : Value} {R : List Rec} {q : Nat} {room : Int} {v : Value} {T : TypeId} (h : Recs w u R) (hb : CBox w q T #[.int .i64 room, v]) (hv : ∃ ao n c, v = .slice ao n c) (hg : w.grownBy w' (some q)) : Recs w' u R := by
  obtain ⟨ao, cap, rb, ro, rs, rfl, h0, h1, h2⟩ := h
  refine ⟨ao, cap, rb, ro, rs, rfl, h0, h1, fun k hk => ?_⟩
  obtain ⟨q1, q2, q3, q4, q5, q6⟩ := h2 k hk
  have hne : rb ≠ q := fun e => by
    subst e
    exact ns_kx _ hv _ _ (hb.inv q3)
  have hcl : ∀ i, w'.cell? ⟨rb, i, none⟩ = w.cell? ⟨rb, i, none⟩ := fun i => World.cell?_of_block (hg.block rb q1 (fun e => hne (by injection e)))
  exact ⟨Nat.lt_of_lt_of_le q1 hg.size, (hcl _).trans q2, (hcl _).trans q3, (hcl _).trans q4, q5.kept_kx hb hv hg, q6⟩

/-- what Tell answers, whatever it is told -/
def ptella (room : Int) (c : Nat) (G : Told) (v : Int) (g : Str) (e : Bool) (A : List Str) : List Rec × Int × Told :=
  if 1 ≤ v ∧ v ≤ 4094 ∧ isGrp g = true then ptell room c G (v, g) (e, sasc A) else ([], 1, G)
theorem ptella_small {room : Int} {c : Nat} {G : Told} {v : Int} {g : Str} {e : Bool} {A : List Str} (h : SmallT G) (hA : A.length ≤ 60) : SmallT (ptella room c G v g e A).2.2 := by
  unfold ptella
  split
  · exact ptell_small h hA
  · exact h
theorem ptella_keys {room : Int} {c : Nat} {G : Told} {v : Int} {g : Str} {e : Bool} {A : List Str} (k : Int × Str) (h : (ptella room c G v g e A).2.2 k ≠ none) : k = (v, g) ∨ G k ≠ none := by
  unfold ptella at h
  split at h
  · unfold ptell at h
    split at h
    · dsimp only [delT] at h
      split at h
      · exact absurd rfl h
      · exact .inr h
    · split at h
      · exact .inr h
      · dsimp only [updT] at h
        split at h
        · exact .inl ‹_›
        · exact .inr h
  · exact .inr h

theorem nodup_len {α : Type} [BEq α] [LawfulBEq α] : ∀ {A B : List α}, A.Nodup → (∀ x ∈ A, x ∈ B) → A.length ≤ B.length
  | [], _, _, _ => Nat.zero_le _
  | x :: A, B, hn, h => by
    have hx := h x (by simp)
    rw [List.nodup_cons] at hn
    have := nodup_len (A := A) (B := B.erase x) hn.2 fun y hy => (List.mem_erase_of_ne (fun e => hn.1 (by rw [← e]; exact hy))).2 (h y (by simp [hy]))
    rw [List.length_erase_of_mem hx] at this
    have : 0 < B.length := List.length_pos_of_mem hx
    simp only [List.length_cons]
    omega
theorem rel_len {G G' : Told} {R R' : List RowL} {k : Int × Str} (h : RelG G R) (h' : RelG G' R') (hk : ∀ x, G' x ≠ none → x = k ∨ G x ≠ none) : R'.length ≤ R.length + 1 := by
  have a := h.keys; have b := h'.keys
  have := nodup_len (A := R'.map Prod.fst) (B := k :: R.map Prod.fst) b.1 fun x hx => by
    rcases hk x ((b.2 x).1 hx) with rfl | e
    · simp
    · exact List.mem_cons_of_mem _ ((a.2 x).2 e)
  simpa using this

theorem tell_op (p b n : Nat) (room v : Int) (g : Str) (e : Bool) (u : Value) (A : List Str) (G : Told) (R : List RowL) (w : World) (h : Px w p b n room G) (hn : n < 1000000) (hv : Strs w u A) (hA : A.length ≤ 60) (hG : SmallT G) (hR : RelG G R) (c : Nat) (hc : R.length = c) :
    Calls Try.prog 17 #[.pointer (some ⟨p, 0, none⟩), .int .i64 v, .string (bstr g), .agg #[.bool e, u]] w (RetTell w p b n room (ptella room c G v g e A)) := by
  unfold ptella
  by_cases hg : 1 ≤ v ∧ v ≤ 4094 ∧ isGrp g = true
  · rw [if_pos hg]
    exact tell_any p b n room v g e u A G w c h hn hg.1 hg.2.1 hg.2.2 hv hA hG ⟨_, hR.keys, by simpa using hc⟩
  · rw [if_neg hg]
    refine (tell_bad _ v g e u A w hv hg).mono ?_
    rintro x w' ⟨rfl, hb⟩
    exact ⟨_, rfl, Recs.nil _, (h.below hb).more (Nat.le_succ _), CKeep.of_below hb, grown_below (World.grownBy.refl w _) hb⟩
theorem rtell_op (q : Nat) (room v : Int) (g : Str) (e : Bool) (u : Value) (A : List Str) (Q : List QRow) (G : Told) (w : World) (h : Kx w q room Q) (hR : RelG G (Q.map Prod.fst)) (hQ : Q.length ≤ 1000) (hv : Strs w u A) (hA : A.length ≤ 60) :
    Calls Try.prog 18 #[.pointer (some ⟨q, 0, none⟩), .int .i64 v, .string (bstr g), .agg #[.bool e, u]] w (RetRT w q room (ptella room Q.length G v g e A)) := by
  unfold ptella
  by_cases hg : 1 ≤ v ∧ v ≤ 4094 ∧ isGrp g = true
  · rw [if_pos hg]
    exact rtell_good q room v g e u A Q G w h hR hQ hg.1 hg.2.1 hg.2.2 hv hA
  · rw [if_neg hg]
    refine (rtell_bad _ v g e u A w hv hg).mono ?_
    rintro x w' ⟨rfl, hb⟩
    exact ⟨_, Q, rfl, Recs.nil _, h.below hb, hR, grown_below (World.grownBy.refl w _) hb⟩

theorem van_map (v : Int) (Q : List QRow) : (vanQ v Q).map Prod.fst = vrows (Q.map Prod.fst) v := by
  unfold vanQ vrows
  rw [List.filter_map]
  rfl
theorem keep_rel {G : Told} {Q : List QRow} (v : Int) (h : RelG G (Q.map Prod.fst)) : RelG (forgetT G v) ((keepQ v Q).map Prod.fst) := by
  have := forget_rel v h
  unfold keepQ
  rw [List.filter_map] at this
  exact this
theorem van_len {G : Told} {Q : List QRow} {v : Int} {K : List (Int × Str)} (h : RelG G (Q.map Prod.fst)) (hK : OfK G v K) : K.length = (vanQ v Q).length := by
  have := (vrows_of v h).uniq hK
  rw [← this, ← van_map]
  simp
theorem van_recs {G : Told} {Q : List QRow} {v : Int} {K : List (Int × Str)} (h : RelG G (Q.map Prod.fst)) (hK : OfK G v K) : K.map (recT G) = (vanQ v Q).map fun q => recR q.1 := by
  rw [all_rel h hK, ← van_map, List.map_map]
  rfl
theorem forget_small {G : Told} (v : Int) (h : SmallT G) : SmallT (forgetT G v) := fun k f e => by
  unfold forgetT at e
  split at e
  · cases e
  · exact h k f e

/-- the proxies, of one heart -/
def Both (w : World) (p b q : Nat) (room : Int) (k : Nat) : Prop :=
  ∃ n Q G, n ≤ k ∧ Q.length ≤ k ∧ Px w p b n room G ∧ Kx w q room Q ∧ RelG G (Q.map Prod.fst) ∧ SmallT G
theorem Both.below {w w' : World} {p b q : Nat} {room : Int} {k : Nat} (h : Both w p b q room k) (hb : Below w.heap.size w w') : Both w' p b q room k := by
  obtain ⟨n, Q, G, h1, h2, h3, h4, h5⟩ := h
  exact ⟨n, Q, G, h1, h2, h3.below hb, h4.below hb, h5⟩
theorem Both.more {w : World} {p b q : Nat} {room : Int} {k m : Nat} (h : Both w p b q room k) (hm : k ≤ m) : Both w p b q room m := by
  obtain ⟨n, Q, G, h1, h2, h3⟩ := h
  exact ⟨n, Q, G, Nat.le_trans h1 hm, Nat.le_trans h2 hm, h3⟩
end Go.Proofs.Ytfloipdkhmgibaa

/- Writing over what All hands out. -/
namespace Go.Proofs.Ytfloipdkhmgibaa
open Go.RowKit Go.Lib Go.Maps Go.Sort
set_option maxRecDepth 20000

/-- writes at or above B, and none in block g, but for new ones -/
def Wrote (B g : Nat) (w w' : World) : Prop :=
  Below B w w' ∧ (∀ a, (w.cell? a).isSome = true → (w'.cell? a).isSome = true) ∧ (∀ a, w'.frozen? a = w.frozen? a) ∧ ∀ o, w'.cell? ⟨g, o, none⟩ = w.cell? ⟨g, o, none⟩
theorem Wrote.refl (B g : Nat) (w : World) : Wrote B g w w := ⟨Below.refl _ _, fun _ h => h, fun _ => rfl, fun _ => rfl⟩
theorem Wrote.set {B g : Nat} {w w' : World} (h : Wrote B g w w') {p : Addr} (hp : B ≤ p.block) (hg : p.block ≠ g) (hs : (w'.cell? p).isSome = true) (u : Value) : Wrote B g w (w'.setCell p u) := by
  obtain ⟨h1, h2, h3, h4⟩ := h
  refine ⟨h1.setCell hp u, fun a ha => ?_, fun a => ?_, fun o => ?_⟩
  · by_cases e : p = a
    · subst e
      rw [World.cell?_setCell_same' _ _ _ hs]
      rfl
    · rw [World.cell?_setCell_other _ _ _ _ e]
      exact h2 a ha
  · rw [World.frozen?_setCell]
    exact h3 a
  · rw [World.cell?_setCell_far _ _ _ _ hg]
    exact h4 o

/-- the sources of the records, each a slice that may be written -/
theorem rowq_src {w : World} {B : Nat} {r : Value} {Q : List QRec} (h : RowQ w B r Q) (_hl : Q.length ≤ 1099511627776) (hf : ∀ q ∈ Q, NoFz w q.2.2.1 q.2.2.2) :
    ∃ g, (∀ ty w', (Builtin.len_ #[47] ty #[r]).run Try.prog w' = .ok (.int .i64 Q.length) w') ∧
      (∀ k, k < Q.length → ∀ w', (Instr.indexAt 47 r (.int .i64 k)).run Try.prog w' = .ok (.pointer (some ⟨g, k * 3, none⟩)) w') ∧
      ∀ k, k < Q.length → ∃ ao n c, w.cell? ⟨g, k * 3 + 2, none⟩ = some (.slice ao n c) ∧ n ≤ 8796093022208 ∧
        ∀ m, m < n → ∃ sb so, (∀ w', (Instr.indexAt 26 (.slice ao n c) (.int .i64 m)).run Try.prog w' = .ok (.pointer (some ⟨sb, so, none⟩)) w') ∧ B ≤ sb ∧ sb ≠ g ∧ (w.cell? ⟨sb, so, none⟩).isSome = true ∧ w.frozen? ⟨sb, so, none⟩ = false := by
  rcases h.1.2 with ⟨rfl, h0⟩ | ⟨g, cap, cur, rfl, hb, hg, hn, hm, hs, ht⟩
  · exact ⟨0, fun ty w' => by rw [h0]; exact run_len_any Try.underlying47 none 0 0 ty w', fun k hk => by omega, fun k hk => by omega⟩
  · refine ⟨g, fun ty w' => run_len_any Try.underlying47 _ Q.length cap ty w', fun k hk w' => ?_, fun k hk => ?_⟩
    · have := run_index_any (P := Try.prog) (s := 3) Try.underlying47 (fun w => by kernel_rfl) g 0 Q.length cap k hk w'
      rw [Nat.zero_add] at this
      exact this
    · obtain ⟨x0, x1, x2⟩ := flat_get Q k hk default
      have c2 := h.1.cells (g := g) rfl _ _ x2
      rw [add_lit, Nat.zero_add] at c2
      have hq := h.2 (Q.getD k default) (by simp [List.getD_eq_getElem?_getD, hk])
      have hz := hf (Q.getD k default) (by simp [List.getD_eq_getElem?_getD, hk])
      generalize Q.getD k default = y at c2 hq hz
      obtain ⟨y0, y1, yv, A⟩ := y
      obtain ⟨hst, hli, _, hne⟩ := hq
      dsimp only at c2 hst hli hne hz
      obtain ⟨ao, c, sb, so, rfl, h0, h1, h2, h3⟩ := hst
      refine ⟨ao, A.length, c, c2, h1, fun m hm => ?_⟩
      have hA : A ≠ [] := fun e => by subst e; simp at hm
      rcases h0 with h0 | rfl
      · exact absurd h0 hA
      · refine ⟨sb, so + m, fun w' => ?_, hli sb rfl, fun e => hne hA (by rw [e]; rfl), ?_, (hz hA sb rfl).2 _⟩
        · have := run_index_any (P := Try.prog) (s := 1) Try.underlying26 (fun w => by kernel_rfl) sb so A.length c m hm w'
          rw [Nat.mul_one] at this
          exact this
        · rw [(h3 m hm).2]; rfl
end Go.Proofs.Ytfloipdkhmgibaa

/- The walk of ProxyScripts. -/
namespace Go.Proofs.Ytfloipdkhmgibaa
open Go.RowKit Go.Lib Go.Maps Go.Sort
set_option maxRecDepth 20000
attribute [local go_sem ↓] Go.wp_at_zero Go.wp_at_succ

set_option maxHeartbeats 8000000 in
theorem scripts_no (z : Int) (v : Value) (w : World) (hr : ¬ (1 ≤ z ∧ z ≤ 4096)) :
    Calls Try.prog 4 #[.int .i64 z, v] w fun e w' => e = .returned (.bool true) ∧ Below w.heap.size w w' := by
  have HN := Lib.hid (new_no z w hr)
  have HL := Lib.hid (live_yes w)
  cases d1 : decide (z < 1)
  · have d2 : decide (4096 < z) = true := decide_eq_true (by have := of_decide_eq_false d1; omega)
    go_enter Try.func4, Try.ntmps4
    go_wp2_with (first | ((with_reducible refine HN.out.mono ?_); rintro e w1 ⟨rfl, hw1⟩; subst w1) | ((with_reducible refine HL.out.mono ?_); rintro e w2 ⟨rfl, hb⟩; have HB := Lib.hid hb; clear hb))
    go_ret
    exact ⟨rfl, HB.out⟩
  · go_enter Try.func4, Try.ntmps4
    go_wp2_with (first | ((with_reducible refine HN.out.mono ?_); rintro e w1 ⟨rfl, hw1⟩; subst w1) | ((with_reducible refine HL.out.mono ?_); rintro e w2 ⟨rfl, hb⟩; have HB := Lib.hid hb; clear hb))
    go_ret
    exact ⟨rfl, HB.out⟩

set_option maxHeartbeats 16000000 in
theorem law_scripts (z : Int) (v : Value) (R : List POp) (w : World) (h : OpsS w v R) (_hz : (Lit.int .i64 z).wf = true) :
    Calls Try.prog 4 #[.int .i64 z, v] w fun e w' => e = .returned (.bool true) ∧ Below w.heap.size w w' := by
  by_cases hn : ¬ (1 ≤ z ∧ z ≤ 4096)
  · exact scripts_no z v w hn
  have hr : 1 ≤ z ∧ z ≤ 4096 := Classical.not_not.1 hn
  obtain ⟨vo, vc, rfl⟩ := h.shape
  obtain ⟨b0, off, src, hm, hlen, hidx, hc⟩ := h.facts
  clear h
  have d1 : decide (z < 1) = false := decide_eq_false (by omega)
  have d2 : decide (4096 < z) = false := decide_eq_false (by omega)
  have HN := Lib.hid (new_yes z w hr.1 hr.2)
  go_enter Try.func4, Try.ntmps4
  go_upto_region 7 with ((with_reducible refine HN.out.mono ?_); rintro e w1 ⟨p, b, rfl, hpx, hpb, hbb, hpne, hb1⟩; have HPX := Lib.hid hpx; have HLT := Lib.hid hpx.lt; have HBB := Lib.hid (And.intro hpb (And.intro hbb hpne)); have HB1 := Lib.hid hb1; clear hpx hpb hbb hpne hb1 HN)
  obtain ⟨W2, hW2⟩ : ∃ W2, W2 = w1.alloc (.cells #[.int .i64 z, .slice none 0 0] 43) := ⟨_, rfl⟩
  obtain ⟨q, hq⟩ : ∃ q, q = w1.heap.size := ⟨_, rfl⟩
  have hb2 : Below w1.heap.size w1 W2 := by rw [hW2]; exact (Below.refl _ _).alloc (Nat.le_refl _) _
  have hbox : CBox W2 q 43 #[.int .i64 z, .slice none 0 0] := by rw [hW2, hq]; exact CBox.new _ rfl
  have HBO := Lib.hid (show Both W2 p b q z 0 from ⟨0, [], fun _ => none, Nat.le_refl _, Nat.le_refl _, HPX.out.below hb2, ⟨_, hbox, KRows.nil _⟩, RelG.nil, fun _ _ e => by cases e⟩)
  have HB2 := Lib.hid (HB1.out.trans (hb2.mono HB1.out.size))
  have HNE := Lib.hid (show w.heap.size ≤ p ∧ w.heap.size ≤ b ∧ w.heap.size ≤ q ∧ p ≠ q ∧ b ≠ q from by rw [hq]; have := HLT.out; have := HB1.out.size; have := HBB.out; omega)
  have HW2 := Lib.hid hW2; have HQ := Lib.hid hq
  clear hb2 hbox HPX HB1 HLT HBB hW2 hq
  rw [← HW2.out, ← HQ.out]
  clear HW2 HQ
  go_wp2_with fail
  go_loopw [8] (fun i wr => ∃ k, k ≤ R.length ∧ k ≤ 40 ∧ i = .int .i64 (k : Nat) ∧ Both wr p b q z k ∧ Below w.heap.size w wr) (fun i _ => R.length - (intOf i).toNat)
  case atStart => exact ⟨0, Nat.zero_le _, Nat.zero_le _, rfl, HBO.out, HB2.out⟩
  case round =>
    obtain ⟨k, hk, hk40, rfl, hbo, hbr⟩ := hrel
    have HBO := Lib.hid hbo; have HBR := Lib.hid hbr
    clear hbo hbr HB2
    by_cases hlt : k < R.length
    · by_cases h40 : k < 40
      · obtain ⟨⟨d, vl, g, e, A⟩, hst⟩ : ∃ t : POp, t = R.getD k default := ⟨_, rfl⟩
        obtain ⟨hlb, c0, c1, c2, c3, c4, hT, hgm⟩ := hc k hlt
        rw [← hst] at c0 c1 c2 c3 hT hgm
        obtain ⟨so, sc, hso⟩ := hT.shape
        rw [hso] at c4 hT
        dsimp only at c0 c1 c2 c3 hT hgm
        have c0 := (HBR.out.cell (p := ⟨b0, off + k * 5, none⟩) hlb).trans c0
        have c1 := (HBR.out.cell (p := ⟨b0, off + k * 5 + 1, none⟩) hlb).trans c1
        have c2 := (HBR.out.cell (p := ⟨b0, off + k * 5 + 2, none⟩) hlb).trans c2
        have c3 := (HBR.out.cell (p := ⟨b0, off + k * 5 + 3, none⟩) hlb).trans c3
        have c4 := (HBR.out.cell (p := ⟨b0, off + k * 5 + 4, none⟩) hlb).trans c4
        have HT := Lib.hid (hT.mono HBR.out)
        have hp := hidx k hlt
        clear hidx hc hlb hT hso hst
        go_upto_region 11 with fail
        obtain ⟨W3, hW3⟩ : ∃ W3, W3 = wr.alloc (.cells #[.int .i64 d, .int .i64 vl, .string (bstr g), .bool e, .slice so A.length sc] 46) := ⟨_, rfl⟩
        obtain ⟨nb, hnb⟩ : ∃ nb, nb = wr.heap.size := ⟨_, rfl⟩
        have hb3 : Below wr.heap.size wr W3 := by rw [hW3]; exact (Below.refl _ _).alloc (Nat.le_refl _) _
        have hbox : CBox W3 nb 46 #[.int .i64 d, .int .i64 vl, .string (bstr g), .bool e, .slice so A.length sc] := by rw [hW3, hnb]; exact CBox.new _ rfl
        obtain ⟨n, Q, G, hn, hQ, hpx, hkx, hrel, hsm⟩ := HBO.out
        have HLT := Lib.hid (show p < nb ∧ b < nb ∧ q < nb from by rw [hnb]; exact ⟨hpx.lt.1, hpx.lt.2.1, hkx.lt⟩)
        have HPX := Lib.hid (hpx.below hb3); have HKX := Lib.hid (hkx.below hb3); have HRE := Lib.hid hrel; have HSM := Lib.hid hsm
        have HX := Lib.hid hbox
        have HT3 := Lib.hid (HT.out.mono hb3)
        have HB3 := Lib.hid (HBR.out.trans (hb3.mono HBR.out.size))
        have HW3 := Lib.hid hW3; have HNB := Lib.hid hnb
        clear hb3 hbox hpx hkx hrel hsm HT hW3 hnb HBO HBR c0 c1 c2 c3 c4 hp
        rw [← HW3.out, ← HNB.out]
        clear HW3 HNB
        obtain ⟨x0, _⟩ := HX.out.at_ 0 _ rfl
        obtain ⟨x1, _⟩ := HX.out.at_ 1 _ rfl
        obtain ⟨x2, _⟩ := HX.out.at_ 2 _ rfl
        obtain ⟨x3, _⟩ := HX.out.at_ 3 _ rfl
        obtain ⟨x4, _⟩ := HX.out.at_ 4 _ rfl
        have xl := HX.out.lt
        cases d60 : decide ((60 : Int) < (A.length : Int))
        · have hA60 : A.length ≤ 60 := by have := of_decide_eq_false d60; omega
          by_cases hd0 : d = 0
          · subst hd0
            have HT1 := Lib.hid (tell_op p b n z vl g e _ A G _ W3 HPX.out (by omega) HT3.out hA60 HSM.out HRE.out Q.length (by simp))
            go_wp2_with fail
            refine HT1.out.mono ?_
            rintro x w4 ⟨rv, rfl, hrv, hpx4, hck4, hgr4⟩
            have hkx4 := HKX.out.keep hck4
            have T4 := Lib.hid (hck4.strs HT3.out)
            have X4 := hck4.box HX.out
            have B4 := Lib.hid (HB3.out.grown hgr4 HB3.out.size (fun k e => by injection e with e; subst e; exact HNE.out.2.1))
            obtain ⟨y1, _⟩ := X4.at_ 1 _ rfl
            obtain ⟨y2, _⟩ := X4.at_ 2 _ rfl
            obtain ⟨y3, _⟩ := X4.at_ 3 _ rfl
            obtain ⟨y4, _⟩ := X4.at_ 4 _ rfl
            have yl := X4.lt
            have HT2 := Lib.hid (rtell_op q z vl g e _ A Q G w4 hkx4 HRE.out (by omega) T4.out hA60)
            have RV := Lib.hid hrv; have PX4 := Lib.hid hpx4; have KX4 := Lib.hid hkx4
            clear hrv hpx4 hkx4 hck4 hgr4 X4 T4 HT1 HT3 x0 x1 x2 x3 x4 xl HPX HKX HB3
            go_wp2_with fail
            refine HT2.out.mono ?_
            rintro x w5 ⟨rv', Q', rfl, hrv', hkx5, hre5, hgr5⟩
            obtain ⟨kv, hkb, hkr⟩ := KX4.out
            have P5 := Lib.hid (PX4.out.kept_kx hkb hkr.isSlice HNE.out.2.2.2.1 HNE.out.2.2.2.2 hgr5)
            have RV5 := Lib.hid (RV.out.kept_kx hkb hkr.isSlice hgr5)
            have B5 := Lib.hid (B4.out.grown hgr5 B4.out.size (fun k e => by injection e with e; subst e; exact HNE.out.2.2.1))
            have HSR := Lib.hid (samerecs_yes _ _ _ _ w5 RV5.out hrv' rfl)
            have S5 := Lib.hid (ptella_small (room := z) (c := Q.length) (v := vl) (g := g) (e := e) HSM.out hA60)
            have L5 := Lib.hid (show Q'.length ≤ k + 1 from by
              have := rel_len (k := (vl, g)) HRE.out hre5 ptella_keys
              simp only [List.length_map] at this
              omega)
            have K5 := Lib.hid hkx5; have R5 := Lib.hid hre5
            generalize ptella z Q.length G vl g e A = t at HSR S5 R5 P5
            clear hrv' hkx5 hre5 hgr5 hkb hkr HT2 RV PX4 KX4 RV5 B4 y1 y2 y3 y4 yl
            obtain ⟨t1, t2, t3⟩ := t
            go_wp2_with ((with_reducible refine HSR.out.mono ?_); rintro x w6 ⟨rfl, hb⟩; have B6 := Lib.hid hb; clear hb)
            go_roundw
            case rel => exact ⟨k + 1, by omega, by omega, by go_num, ⟨n + 1, Q', _, by omega, L5.out, P5.out.below B6.out, K5.out.below B6.out, R5.out, S5.out⟩, B5.out.trans (B6.out.mono B5.out.size)⟩
            case measure => simp [intOf]; omega
          · by_cases hd1 : d = 1
            · subst hd1
              have D3 : Below W3.heap.size W3 W3.drew := Below.drew (Below.refl _ W3)
              have PX := Lib.hid (HPX.out.below D3); have KX := Lib.hid (HKX.out.below D3); have BX := Lib.hid (HX.out.below D3 HX.out.lt); have GB := Lib.hid (HB3.out.trans (D3.mono HB3.out.size))
              clear D3 HPX HKX HX HB3 HT3
              have hd0 : decide ((1 : Int) = 0) = false := rfl
              go_wp2_with fail
              go_region_with (first
                | (go_at_call 20; (with_reducible refine (forget_any p b n z vl G _ PX.out (by omega)).mono ?_); rintro x v4 ⟨K, rfl, hok, hpx, hck, hgr⟩; rw [van_len HRE.out hok]; replace PX := Lib.hid hpx; replace KX := Lib.hid (KX.out.keep hck); replace BX := Lib.hid (hck.box BX.out); replace GB := Lib.hid (GB.out.grown hgr GB.out.size (fun k e => by injection e with e; subst e; exact HNE.out.2.1)); have z1 := (BX.out.at_ 1 _ rfl).1; have zl := BX.out.lt; clear hok hpx hck hgr)
                | (go_at_call 21; (with_reducible refine (rforget_any q z vl Q _ KX.out (by omega)).mono ?_); rintro x v5 ⟨rfl, hkx, hgr⟩; obtain ⟨kv, hkb, hkr⟩ := KX.out; replace PX := Lib.hid (PX.out.kept_kx hkb hkr.isSlice HNE.out.2.2.2.1 HNE.out.2.2.2.2 hgr); replace KX := Lib.hid hkx; replace BX := Lib.hid (BX.out.grown hgr (fun e => by injection e with e; have := HLT.out; omega)); replace GB := Lib.hid (GB.out.grown hgr GB.out.size (fun k e => by injection e with e; subst e; exact HNE.out.2.2.1)); have z2 := (BX.out.at_ 1 _ rfl).1; have zl2 := BX.out.lt; clear hkx hgr hkb hkr))
              all_goals
                go_wp2_with fail
                go_roundw
                case rel => exact ⟨k + 1, by omega, by omega, by go_num, ⟨n, keepQ vl Q, _, by omega, Nat.le_trans (List.length_filter_le _ _) (by omega), PX.out, KX.out, keep_rel vl HRE.out, forget_small vl HSM.out⟩, GB.out⟩
                case measure => simp [intOf]; omega
            · have hd0' : decide (d = 0) = false := decide_eq_false hd0
              have hd1' : decide (d = 1) = false := decide_eq_false hd1
              have HA := Lib.hid (all_own p b n z vl G W3 HPX.out (by omega) HSM.out)
              clear HT3
              go_wp2_with fail
              refine HA.out.mono ?_
              rintro x w4 ⟨r, P, K, B, rfl, hB, hrq, hok, hkn, hqr, hb4, hnf⟩
              have KX4 := HKX.out.below hb4
              have hPl : P.length ≤ 1000 := by
                have h1 : P.length = K.length := by simpa using congrArg List.length hqr
                omega
              have HR := Lib.hid (rall_any q z vl Q w4 KX4 (by omega))
              have z1 := ((HX.out.below hb4 HX.out.lt).at_ 1 _ rfl).1
              have zl := (HX.out.below hb4 HX.out.lt).lt
              have HRQ := Lib.hid hrq; have HNF := Lib.hid hnf; have HB4 := Lib.hid hb4; have HBB := Lib.hid hB
              have HVR := Lib.hid (show P.map qrec = (vanQ vl Q).map fun q => recR q.1 from hqr.trans (van_recs HRE.out hok))
              clear hrq hnf hb4 hB hqr hok hkn KX4 HA x0 x1 x2 x3 x4 xl hd0' hd1' d1 d2 d60
              go_wp2_with fail
              refine HR.out.mono ?_
              rintro x w5 ⟨r', rfl, hrs, hb5⟩
              have hrq5 := HRQ.out.below hb5
              have HS := Lib.hid (samerecs_yes _ _ _ _ w5 (hrq5.recs (by omega)) hrs HVR.out)
              have HB5 := Lib.hid hb5
              clear hb5 hrs hrq5 HR z1 zl
              go_upto_region 17 with ((with_reducible refine HS.out.mono ?_); rintro x w6 ⟨rfl, hb6⟩; have HB6 := Lib.hid hb6; clear hb6)
              have hb46 : Below w4.heap.size w4 w6 := HB5.out.trans (HB6.out.mono HB5.out.size)
              have hb36 : Below W3.heap.size W3 w6 := HB4.out.trans (hb46.mono HB4.out.size)
              obtain ⟨gr, hlen, hidx, hsrc⟩ := rowq_src (HRQ.out.below hb46) (by omega) (fun y hy => (HNF.out y hy).below hb46)
              have H36 := Lib.hid hb36
              have hBB := HBB.out
              clear hb46 hb36 HB5 HB6 HB4 HRQ HNF HVR HS HBB
              go_wp2_with fail
              go_loopw [15] (fun i wr => ∃ j, j ≤ P.length ∧ i = .int .i64 (j : Nat) ∧ Wrote W3.heap.size gr w6 wr) (fun i _ => P.length - (intOf i).toNat)
              case atStart => exact ⟨0, Nat.zero_le _, rfl, Wrote.refl _ _ _⟩
              case round =>
                rename_i i15 wq
                obtain ⟨j, hj, rfl, hw⟩ := hrel
                by_cases hltj : j < P.length
                · obtain ⟨ao, m0, c, hcell, hm0, hel⟩ := hsrc j hltj
                  have hp := hidx j hltj
                  have HW := Lib.hid hw
                  clear hw hsrc hidx
                  go_wp2_with fail
                  go_loopw [16] (fun i wr => ∃ m, m ≤ m0 ∧ i = .int .i64 (m : Nat) ∧ Wrote W3.heap.size gr w6 wr) (fun i _ => m0 - (intOf i).toNat)
                  case atStart => exact ⟨0, Nat.zero_le _, rfl, HW.out⟩
                  case round =>
                    rename_i i16 wz
                    obtain ⟨m, hm, rfl, hw⟩ := hrel
                    have e2 := (hw.2.2.2 (j * 3 + 2)).trans hcell
                    by_cases hltm : m < m0
                    · obtain ⟨sb, so, hix, hs1, hs2, hs3, hs4⟩ := hel m hltm
                      have s3 := hw.2.1 _ hs3
                      have s4 := (hw.2.2.1 ⟨sb, so, none⟩).trans hs4
                      have HW' := Lib.hid (fun u => hw.set (p := ⟨sb, so, none⟩) (Nat.le_trans hBB hs1) hs2 s3 u)
                      obtain ⟨old, s3'⟩ := Option.isSome_iff_exists.1 s3
                      clear hw hs1 hs2 hs3 hs4 s3 hel hcell HW
                      go_wp2_with fail
                      go_roundw
                      case rel => exact ⟨m + 1, by omega, by go_num, HW'.out _⟩
                      case measure => simp [intOf]; omega
                    · obtain rfl : m = m0 := by omega
                      have HW' := Lib.hid hw
                      clear hel hcell HW hw
                      go_wp2_with fail
                      go_roundw
                      case rel => exact ⟨j + 1, by omega, by go_num, HW'.out⟩
                      case measure => simp [intOf]; omega
                · have HW := Lib.hid hw
                  have HBB := Lib.hid (H36.out.trans (hw.1.mono (Nat.le_refl _)))
                  clear hw hsrc hidx
                  go_wp2_with fail
                  go_roundw
                  case rel => exact ⟨k + 1, by omega, by omega, by go_num, ⟨n, Q, G, by omega, by omega, HPX.out.below HBB.out, HKX.out.below HBB.out, HRE.out, HSM.out⟩, HB3.out.trans (HBB.out.mono HB3.out.size)⟩
                  case measure => simp [intOf]; omega
        · clear HT3
          go_wp2_with fail
          refine (live_yes _).mono ?_
          rintro e w2 ⟨rfl, hb⟩
          have HB := Lib.hid (HB3.out.trans (hb.mono HB3.out.size))
          clear hb
          go_wp2_with fail
          go_ret
          exact ⟨rfl, HB.out⟩
      · obtain rfl : k = 40 := by omega
        have HL := Lib.hid (live_yes wr)
        clear hidx hc
        go_wp2_with ((with_reducible refine HL.out.mono ?_); rintro e w2 ⟨rfl, hb⟩; have HB := Lib.hid (HBR.out.trans (hb.mono HBR.out.size)); clear hb)
        go_ret
        exact ⟨rfl, HB.out⟩
    · have HL := Lib.hid (live_yes wr)
      clear hidx hc
      go_wp2_with ((with_reducible refine HL.out.mono ?_); rintro e w2 ⟨rfl, hb⟩; have HB := Lib.hid (HBR.out.trans (hb.mono HBR.out.size)); clear hb)
      go_ret
      exact ⟨rfl, HB.out⟩
end Go.Proofs.Ytfloipdkhmgibaa
