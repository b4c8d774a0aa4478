/- Texts joined into one file: GRange, GExp, GAdm, GSmall. -/
import Derived.Test.YthcdppppppgckaaGreatDoorC13

namespace Go.Proofs.YthcdppppppgckaaGreatDoor
open Go.RowKit Go.Maps Go.Lib Go.Sort
set_option maxRecDepth 20000

def Rg (w : World) (b r n : Nat) (F : Str → Option Int) (lf : Str → Bool) (cnt : Nat) : Prop :=
 ∃ (D : DataW Unit) (left : Lit → Bool), w.ranges Tryz.prog 25 mpT b r n D left cnt ∧ (∀ a, look D a = F a) ∧ ∀ a, left (.string a) = lf a

theorem Rg.mp {w : World} {b r n cnt : Nat} {F : Str → Option Int} {lf : Str → Bool} (h : Rg w b r n F lf cnt) : Mp w b n F := by
 obtain ⟨D, left, h, e, _⟩ := h
 exact ⟨D, h.owns, e⟩
theorem Rg.left {w : World} {b r n cnt : Nat} {F : Str → Option Int} {lf : Str → Bool} (h : Rg w b r n F lf cnt) : w.rangeLeft b r = cnt := by
 obtain ⟨D, left, h, _, _⟩ := h
 exact h.left_eq
theorem Rg.kept {w w' : World} {b r n cnt : Nat} {F : Str → Option Int} {lf : Str → Bool} {row : Option Nat} (h : Rg w b r n F lf cnt) (hg : w.grownBy w' row) (h1 : some b ≠ row) (h2 : some r ≠ row) : Rg w' b r n F lf cnt := by
 obtain ⟨D, left, h, e, l⟩ := h
 exact ⟨D, left, h.kept hg h1 h2, e, l⟩
theorem Rg.ne {w : World} {b r n cnt : Nat} {F : Str → Option Int} {lf : Str → Bool} (h : Rg w b r n F lf cnt) : r ≠ b := by
 obtain ⟨D, left, h, _, _⟩ := h
 exact h.ne

def strike (lf : Str → Bool) (x : Str) : Str → Bool := fun a => lf a && a != x

theorem strike_left {left : Lit → Bool} {lf : Str → Bool} (h : ∀ a, left (.string a) = lf a) (x : Str) (a : Str) : (left (.string a) && !(Lit.string a).sameKey (.string x)) = strike lf x a := by
 unfold strike
 rw [h]
 by_cases e : a = x
 · subst e
   rw [WideAt.sameKey_self (isKey_str a)]
   simp
 · rw [Maps.sameKey_ne (fun h => e (by injection h))]
   simp [e]

theorem Rg.turn {w : World} {b r n cnt : Nat} {F : Str → Option Int} {lf : Str → Bool} (h : Rg w b r n F lf cnt) (hn : n < maxLen) (x : Str) (hx : x.length ≤ maxLen) (hF : F x ≠ none) (z : Int) (hz : (Lit.int .i64 z).wf = true) :
 ∃ w', (Instr.mapUpdate 260 (.map (some b)) (.string (bstr x)) (.int .i64 z)).run Tryz.prog w = .ok () w' ∧ Rg w' b r n (upd F x z) lf cnt ∧ w.grownBy w' (some b) := by
 obtain ⟨D, left, h, e, l⟩ := h
 obtain ⟨w', hr, h', ht⟩ := ranges_turn h lawS Tryz.underlying260 hn (keyOf_bstr hx) (plainElem_int Tryz.underlying3 hz) ((look_has h.owns x).2 (by rw [e]; exact hF))
 exact ⟨w', hr, ⟨_, left, h', fun a => by rw [look_put h.owns.isMap]; unfold upd; rw [e a], l⟩, ht.grown⟩

theorem Rg.drop {w : World} {b r n cnt : Nat} {F : Str → Option Int} {lf : Str → Bool} (h : Rg w b r n F lf cnt) (x : Str) (hx : x.length ≤ maxLen) (ty : TypeId) :
 ∃ w' cnt', (Builtin.delete_ #[260, 25] ty #[.map (some b), .string (bstr x)]).run Tryz.prog w = .ok (.tuple #[]) w' ∧ Rg w' b r n (del F x) (strike lf x) cnt' ∧ cnt' ≤ cnt ∧ w.grownBy w' (some b) := by
 obtain ⟨D, left, h, e, l⟩ := h
 obtain ⟨w', cnt', hr, h', hle, ht⟩ := h.drop lawS Tryz.underlying260 (keyOf_bstr hx) ty
 exact ⟨w', cnt', hr, ⟨_, _, h', fun a => by rw [look_del]; unfold del; rw [e a], fun a => strike_left l x a⟩, hle, ht.grown⟩

section
variable (w : World) {ops : Array Oper} {rest : List Oper} {o : Oper} {a : Act} {Q : Exit → Act → World → Prop}

theorem wpList_range_mp (hg : o.guard = none) (m : Operand) (hop : o.op = Op.range 260 m) (b n : Nat) (F : Str → Option Int) (hm : a.eval m = .map (some b)) (h : Mp w b n F)
 (hK : ∀ w' cnt, Rg w' b w.heap.size n F (fun a => (F a).isSome) cnt → w.grownBy w' none → w'.heap.size = w.heap.size + 1 → wpList Tryz.prog ops Q rest (a.put o.dst (.pointer (some ⟨w.heap.size, 0, none⟩))) w') :
 wpList Tryz.prog ops Q (o :: rest) a w := by
 obtain ⟨D, hown, e⟩ := h
 refine wpList_range_own w hg m 260 hop 25 3 lawS Tryz.underlying260 mpT b n D hm hown (fun w' h1 h2 h3 => hK w' _ ⟨D, _, h1, e, fun x => ?_⟩ h2 h3)
 have := look_has hown x
 rw [e x] at this
 show has D (.string x) = (F x).isSome
 generalize F x = o at this ⊢
 cases o
 · simpa using this
 · simpa using this

theorem wpList_next_mp (hg : o.guard = none) (it : Operand) (hop : o.op = Op.next it false) (b r n : Nat) (F : Str → Option Int) (lf : Str → Bool) (cnt : Nat) (hit : a.eval it = .pointer (some ⟨r, 0, none⟩)) (h : Rg w b r n F lf cnt)
 (hDone : (∀ x, lf x = false) → wpList Tryz.prog ops Q rest (a.put o.dst (.tuple #[.bool false])) w)
 (hMore : ∀ (x : Str) (c : Int) (w' : World) (cnt' : Nat), x.length ≤ maxLen → (Lit.int .i64 c).wf = true → F x = some c → lf x = true → Rg w' b r n F (strike lf x) cnt' → cnt' < cnt → w.grownBy w' (some r) →
   (Instr.entry (.pointer (some ⟨r, 0, none⟩))).run Tryz.prog w' = .ok (.tuple #[.string (bstr x), .int .i64 c]) w' → wpList Tryz.prog ops Q rest (a.put o.dst (.tuple #[.bool true, .string (bstr x), .int .i64 c])) w') :
 wpList Tryz.prog ops Q (o :: rest) a w := by
 obtain ⟨D, left, h, e, l⟩ := h
 refine wpList_next_ranges w hg it hop 25 lawS mpT (fun x : Str => Value.string (bstr x)) (Value.int .i64) (fun key kl hkey => by obtain ⟨x, e, _⟩ := Maps.keyOf_str Tryz.underlying25 hkey; exact ⟨x, by rw [e, enc_bstr]⟩)
  (fun v y hv => by obtain ⟨c, rfl, _⟩ := plainElem_int_inv Tryz.underlying3 hv; exact ⟨c, rfl⟩) b r n D left cnt hit h (fun _ h => hDone (fun x => by rw [← l]; exact h _))
  (fun x c kl y w' cnt' hkey hlk hv hat hrg hlt hgr hsz hen => ?_)
 obtain ⟨x', ex, rfl, hx⟩ := Maps.keyOf_str Tryz.underlying25 hkey
 rw [enc_bstr] at ex
 obtain rfl : x = x' := bstr_inj (by injection ex)
 obtain ⟨c', ec, e2, wc⟩ := plainElem_int_inv Tryz.underlying3 hv
 obtain rfl : c = c' := by simpa using ec
 refine hMore x c w' cnt' hx wc ?_ (by rw [← l]; exact hlk) ⟨D, _, hrg, e, fun a => strike_left l x a⟩ hlt hgr hen
 rw [← e x]
 unfold look
 rw [if_pos (has_true_of_atKey hat), hat, e2]
end
end Go.Proofs.YthcdppppppgckaaGreatDoor

namespace Go.Proofs.YthcdppppppgckaaGreatDoor
open Go.RowKit Go.Lib Go.Maps Go.Sort
set_option maxRecDepth 20000

def exF (ex : Bool) (now : Int) (F : Str → Option Int) : Str → Option Int := fun a =>
 match F a with
 | none => none
 | some z => if now < z then some z else if ex then some 0 else none

theorem Mp.len {w : World} {b n : Nat} {F : Str → Option Int} (h : Mp w b n F) : ∃ m : Nat, (∀ ty, (Builtin.len_ #[260] ty #[.map (some b)]).run Tryz.prog w = .ok (.int .i64 m) w) ∧ (m = 0 ↔ ∀ a, F a = none) := by
 obtain ⟨D, h, e⟩ := h
 refine ⟨Maps.size D, fun ty => h.len Tryz.underlying260 ty, ?_⟩
 have hl : (strKeys D).length = Maps.size D := by obtain ⟨es, rfl⟩ := h.isMap; simp [strKeys, Maps.size]
 constructor
 · intro h0 a
   rw [← e a]
   by_cases hn : look D a = none
   · exact hn
   · have := (mem_strKeys h a).2 ((look_has h a).2 hn)
     rw [List.eq_nil_of_length_eq_zero (hl.trans h0)] at this
     cases this
 · intro hall
   rw [← hl, List.length_eq_zero_iff, List.eq_nil_iff_forall_not_mem]
   intro a ha
   have := (look_has h a).1 ((mem_strKeys h a).1 ha)
   exact this ((e a).trans (hall a))

theorem asc_nil {F : Str → Option Int} (h : ∀ a, F a = none) : Asc F [] := ⟨⟨List.Pairwise.nil, fun a => by simp [h a]⟩, by simp⟩
theorem asc_ne {F : Str → Option Int} {L : List Tmd} (h : Asc F L) (hne : ¬ ∀ a, F a = none) : L.isEmpty = false := by
 cases L
 · exfalso
   apply hne
   intro a
   cases hF : F a
   · rfl
   · have := (h.1.2 a).2 (by simp [hF])
     simp at this
 · rfl

def mixF (ex : Bool) (now : Int) (F : Str → Option Int) (lf : Str → Bool) : Str → Option Int := fun a => if lf a then F a else exF ex now F a
theorem mix_start (ex : Bool) (now : Int) (F : Str → Option Int) : mixF ex now F (fun a => (F a).isSome) = F := by
 funext a
 unfold mixF exF
 cases h : F a <;> simp [h]
theorem mix_done {ex : Bool} {now : Int} {F : Str → Option Int} {lf : Str → Bool} (h : ∀ x, lf x = false) : mixF ex now F lf = exF ex now F := by
 funext a
 unfold mixF
 simp [h a]
theorem mix_keep {ex : Bool} {now : Int} {F : Str → Option Int} {lf : Str → Bool} {x : Str} {c : Int} (hF : F x = some c) (hl : lf x = true) (hc : now < c) : mixF ex now F (strike lf x) = mixF ex now F lf := by
 funext a
 unfold mixF strike
 by_cases e : a = x
 · subst e; simp [hl, exF, hF, hc]
 · simp [e]
theorem mix_turn {now : Int} {F : Str → Option Int} {lf : Str → Bool} {x : Str} {c : Int} (hF : F x = some c) (hl : lf x = true) (hc : ¬ now < c) : mixF true now F (strike lf x) = upd (mixF true now F lf) x 0 := by
 funext a
 unfold mixF strike upd
 by_cases e : a = x
 · subst e; simp [hl, exF, hF, hc]
 · simp [e]
theorem mix_del {now : Int} {F : Str → Option Int} {lf : Str → Bool} {x : Str} {c : Int} (hF : F x = some c) (hl : lf x = true) (hc : ¬ now < c) : mixF false now F (strike lf x) = del (mixF false now F lf) x := by
 funext a
 unfold mixF strike del
 by_cases e : a = x
 · subst e; simp [hl, exF, hF, hc]
 · simp [e]
theorem strike_twice (lf : Str → Bool) (x : Str) : strike (strike lf x) x = strike lf x := by
 funext a
 unfold strike
 cases lf a <;> cases (a != x) <;> rfl

def RetExp (w : World) (ex : Bool) (at' : Int) (L : List Tmd) (now : Int) (e2 : Bool) (e : Ending) (w' : World) : Prop :=
 (pcheck ex at' L = false ∧ e = .returned (.tuple #[.agg #[.bool false, .int .i64 0, .slice none 0 0], .bool false]) ∧ Below w.heap.size w w') ∨
 (pcheck ex at' L = true ∧ ∃ v L', e = .returned (.tuple #[.agg #[.bool e2, .int .i64 (if e2 then at' else 0), v], .bool (e2 || !L'.isEmpty)]) ∧ Tms w' v L' ∧ Asc (exF e2 now (rd L)) L' ∧ L'.length ≤ L.length ∧ Lies w.heap.size v ∧ Below w.heap.size w w')

set_option maxRecDepth 20000 in
set_option maxHeartbeats 1000000 in
theorem expire_any (ex : Bool) (at' : Int) (v : Value) (L : List Tmd) (now : Int) (w : World) (h : Tms w v L) :
 Calls Tryz.prog 130 #[.agg #[.bool ex, .int .i64 at', v], .int .i64 now] w (RetExp w ex at' L now (ex && decide (now < at'))) := by
 obtain ⟨ao, cap, rfl⟩ := h.shape
 obtain ⟨W0, hW0⟩ : ∃ W0, W0 = (w.alloc (.cells #[.bool ex, .int .i64 at', .slice ao L.length cap] 181)).alloc (.cells #[.bool false, .int .i64 0, .slice none 0 0] 181) := ⟨_, rfl⟩
 have hb0 : Below w.heap.size w W0 := by rw [hW0]; exact ((Below.refl _ _).alloc (Nat.le_refl _) _).alloc (by simp) _
 have hs0 : W0.heap.size = w.heap.size + 2 := by rw [hW0]; simp
 have s1 : CBox W0 w.heap.size 181 #[.bool ex, .int .i64 at', .slice ao L.length cap] := by rw [hW0]; exact (CBox.new _ rfl).old _
 have s2 : CBox W0 (w.heap.size + 1) 181 #[.bool false, .int .i64 0, .slice none 0 0] := by rw [hW0]; exact CBox.new _ (by simp)
 have HC := Lib.hid (check_any ex at' _ L W0 (h.mono hb0))
 have HT := Lib.hid h
 have HB := Lib.hid hb0; have S1 := Lib.hid s1; have S2 := Lib.hid s2; have HZ := Lib.hid hs0
 rw [hW0] at HC
 have HB1 := Lib.hid (fun (w1 : World) (h1 : Below W0.heap.size W0 w1) => show CBox w1 w.heap.size 181 #[.bool ex, .int .i64 at', .slice ao L.length cap] ∧ CBox w1 (w.heap.size + 1) 181 #[.bool false, .int .i64 0, .slice none 0 0] ∧ Below w.heap.size w w1 from ⟨s1.below h1 (by omega), s2.below h1 (by omega), hb0.trans (h1.mono (by omega))⟩)
 rw [hW0] at HB1
 clear h hb0 hs0 s1 s2
 go_enter Tryz.func130, Tryz.ntmps130
 go_wp2_with fail
 refine HC.out.mono ?_
 rintro e w1 ⟨rfl, hb1⟩
 obtain ⟨t1, t2, hbw⟩ := HB1.out w1 hb1
 have T1 := Lib.hid t1; have T2 := Lib.hid t2; have HBW := Lib.hid hbw
 obtain ⟨x0, _⟩ := t1.at_ 0 _ rfl
 obtain ⟨x1, _⟩ := t1.at_ 1 _ rfl
 obtain ⟨x2, _⟩ := t1.at_ 2 _ rfl
 obtain ⟨y0, _⟩ := t2.at_ 0 _ rfl
 obtain ⟨y1, _⟩ := t2.at_ 1 _ rfl
 obtain ⟨y2, _⟩ := t2.at_ 2 _ rfl
 clear HC HB1 hb1 hbw t1 t2 HB S1 S2 HZ hW0 W0
 cases hp : pcheck ex at' L
 · have HP := Lib.hid hp
   go_wp2
   have R := fun u1 u2 u3 => ((T2.out.set 0 u1).set 1 u2).set 2 u3
   have r0 := fun u1 u2 u3 => ((R u1 u2 u3).at_ 0 _ rfl).1
   have r1 := fun u1 u2 u3 => ((R u1 u2 u3).at_ 1 _ rfl).1
   have r2 := fun u1 u2 u3 => ((R u1 u2 u3).at_ 2 _ rfl).1
   refine bodyPost_ret (v := .tuple #[.agg #[.bool false, .int .i64 0, .slice none 0 0], .bool false]) (by simp [results, Tryz.results130, go_sem, r0, r1, r2]) rfl (.inl ⟨HP.out, rfl, ((HBW.out.setCell (by simp) _).setCell (by simp) _).setCell (by simp) _⟩)
 · have HP := Lib.hid hp
   have HR := Lib.hid (read_any ex at' _ L w1 (HT.out.mono HBW.out))
   go_wp2_with fail
   refine HR.out.mono ?_
   rintro e w2 ⟨b, rfl, hm2, hbb, hb2⟩
   have M2 := Lib.hid hm2
   have HBB := Lib.hid (show w.heap.size ≤ b from Nat.le_trans HBW.out.size hbb)
   have HBZ := Lib.hid (show w.heap.size + 1 < b from Nat.lt_of_lt_of_le T2.out.lt hbb)
   have Z2 := Lib.hid (T2.out.below hb2 T2.out.lt)
   have B2 := Lib.hid (HBW.out.trans (hb2.mono HBW.out.size))
   have HLL := Lib.hid (show L.length ≤ 1099511627775 from by have := HP.out; unfold pcheck at this; simp only [Bool.and_eq_true, decide_eq_true_eq] at this; omega)
   clear HR T1 T2 HBW hm2 hb2 hbb x0 x1 x2 y0 y1 y2 hp
   cases hq : decide (at' ≤ now)
   · have hlt : now < at' := by have := of_decide_eq_false hq; omega
     cases ex
     · have ha0 : at' = 0 := by
        have := HP.out
        unfold pcheck at this
        simp only [Bool.and_eq_true, decide_eq_true_eq, beq_iff_eq] at this
        have h1 := this.1.2
        have h2 := this.1.1.2
        simp at h1
        omega
       subst ha0
       have HE : (false && decide (now < 0)) = false := rfl
       obtain ⟨W3, hW3⟩ : ∃ W3, W3 = w2.alloc (.cells #[.bool false, .int .i64 0, .map (some b)] 262) := ⟨_, rfl⟩
       have hb3 : Below w2.heap.size w2 W3 := by rw [hW3]; exact (Below.refl _ _).alloc (Nat.le_refl _) _
       have k3 : CBox W3 w2.heap.size 262 #[.bool false, .int .i64 0, .map (some b)] := by rw [hW3]; exact CBox.new _ rfl
       have hs3 : W3.heap.size = w2.heap.size + 1 := by rw [hW3]; simp
       have z3 : CBox W3 (w.heap.size + 1) 181 #[.bool false, .int .i64 0, .slice none 0 0] := Z2.out.below hb3 (by have := Z2.out.lt; omega)
       have m3 : Mp W3 b L.length (rd L) := M2.out.below hb3 M2.out.lt
       have b3 : Below w.heap.size w W3 := B2.out.trans (hb3.mono B2.out.size)
       have hE := Lib.hid HE
       clear HE
       rw [hW3] at m3
       go_wp2_with (at_range; refine wpList_range_mp _ rfl _ rfl b L.length (rd L) rfl m3 ?_; intro w0 cnt0 hrg0 hg0 hs0; rw [← hW3] at hrg0 hg0 hs0; rw [hs3] at hrg0)
       try go_frame
       simp only [World.size_alloc]
       have U3 := Lib.hid k3; have Y3 := Lib.hid z3; have V3 := Lib.hid b3; have N3 := Lib.hid hs3
       have hk0 := k3.grown hg0 (by simp)
       have hz0 := z3.grown hg0 (by simp)
       have hb0 := b3.grown hg0 b3.size (fun j e => by cases e)
       rw [hs3] at hs0
       clear k3 z3 b3 hs3 hb3 m3 hW3
       go_loopw [7] (fun _ wr => ∃ lf cnt, Rg wr b (w2.heap.size + 1) L.length (mixF false now (rd L) lf) lf cnt ∧ CBox wr w2.heap.size 262 #[.bool false, .int .i64 0, .map (some b)] ∧ CBox wr (w.heap.size + 1) 181 #[.bool false, .int .i64 0, .slice none 0 0] ∧ Below w.heap.size w wr ∧ w2.heap.size + 1 < wr.heap.size) (fun _ wr => wr.rangeLeft b (w2.heap.size + 1))
       case atStart => exact ⟨_, cnt0, by rw [mix_start]; exact hrg0, hk0, hz0, hb0, by omega⟩
       case round =>
        clear hrg0 hg0 hs0 hk0 hz0 hb0
        obtain ⟨lf, cnt, hrg, hk, hz, hb, hsz⟩ := hrel
        have K := Lib.hid hk; have Z := Lib.hid hz; have B := Lib.hid hb; have S := Lib.hid hsz; have G := Lib.hid hrg
        go_wp2_with (at_next; refine wpList_next_mp _ rfl _ rfl b (w2.heap.size + 1) L.length _ lf cnt rfl hrg ?_ ?_)
        · intro hl
          have GM := Lib.hid (show Mp wr b L.length (exF false now (rd L)) from by have := hrg.mp; rwa [mix_done hl] at this)
          clear hrg hl
          obtain ⟨c0, _⟩ := hk.at_ 0 _ rfl
          obtain ⟨c1, _⟩ := hk.at_ 1 _ rfl
          obtain ⟨c2, _⟩ := hk.at_ 2 _ rfl
          clear hk hz hb hsz
          obtain ⟨m, hml, hm0⟩ := GM.out.len
          have M0 := Lib.hid hm0
          have ZZ := Lib.hid (Z.out)
          obtain ⟨z0, _⟩ := Z.out.at_ 0 _ rfl
          obtain ⟨z1, _⟩ := Z.out.at_ 1 _ rfl
          obtain ⟨z2, _⟩ := Z.out.at_ 2 _ rfl
          clear hm0
          by_cases hmz : m = 0
          · subst hmz
            go_wp2
            have R := fun u1 u2 u3 => ((Z.out.set 0 u1).set 1 u2).set 2 u3
            have r0 := fun u1 u2 u3 => ((R u1 u2 u3).at_ 0 _ rfl).1
            have r1 := fun u1 u2 u3 => ((R u1 u2 u3).at_ 1 _ rfl).1
            have r2 := fun u1 u2 u3 => ((R u1 u2 u3).at_ 2 _ rfl).1
            refine bodyPost_ret (v := .tuple #[.agg #[.bool false, .int .i64 0, .slice none 0 0], .bool false]) (by simp [results, Tryz.results130, go_sem, r0, r1, r2]) rfl (.inr ⟨HP.out, _, [], by first | (rw [hE.out]; rfl) | rfl, Tms.nil _, by first | (rw [hE.out]; exact asc_nil (M0.out.1 (by simp))) | exact asc_nil (M0.out.1 (by simp)), Nat.zero_le _, fun j hj => by simp [Value.ownBlock] at hj, ((B.out.setCell (by simp) _).setCell (by simp) _).setCell (by simp) _⟩)
          · have hmb : ((m : Int) == 0) = false := by simp; exact hmz
            have NE := Lib.hid (show ¬ ∀ a, exF false now (rd L) a = none from fun h => hmz (M0.out.2 h))
            have HST := Lib.hid (state_any false 0 b L.length (exF false now (rd L)) wr GM.out HLL.out)
            go_wp2_with fail
            refine HST.out.mono ?_
            rintro e w5 ⟨v5, L5, rfl, h51, h52, h53, h54, h55⟩
            obtain ⟨o5, c5, rfl⟩ := h51.shape
            have Z5 := Lib.hid (Z.out.below h55 Z.out.lt)
            have A5 := Lib.hid h51; have A6 := Lib.hid h52; have A7 := Lib.hid h53; have A8 := Lib.hid (h54.mono B.out.size); have A9 := Lib.hid (B.out.trans (h55.mono B.out.size))
            have A10 := Lib.hid (show w.heap.size + 2 ≤ wr.heap.size by have := Z.out.lt; omega)
            have A11 := Lib.hid h54
            obtain ⟨q0, _⟩ := Z5.out.at_ 0 _ rfl
            obtain ⟨q1, _⟩ := Z5.out.at_ 1 _ rfl
            obtain ⟨q2, _⟩ := Z5.out.at_ 2 _ rfl
            clear h51 h52 h53 h54 h55 c0 c1 c2
            go_wp2
            have R := fun u1 u2 u3 => ((Z5.out.set 0 u1).set 1 u2).set 2 u3
            have r0 := fun u1 u2 u3 => ((R u1 u2 u3).at_ 0 _ rfl).1
            have r1 := fun u1 u2 u3 => ((R u1 u2 u3).at_ 1 _ rfl).1
            have r2 := fun u1 u2 u3 => ((R u1 u2 u3).at_ 2 _ rfl).1
            refine bodyPost_ret (v := .tuple #[.agg #[.bool false, .int .i64 0, .slice o5 L5.length c5], .bool true]) (by simp [results, Tryz.results130, go_sem, r0, r1, r2]) rfl (.inr ⟨HP.out, _, L5, ?_, ?_, by first | (rw [hE.out]; exact A6.out) | exact A6.out, A7.out, A8.out, ((A9.out.setCell (by simp) _).setCell (by simp) _).setCell (by simp) _⟩)
            · (try rw [hE.out]); simp [asc_ne A6.out NE.out]
            · exact ((A5.out.far A11.out (by have := A10.out; simp; omega) _).far A11.out (by have := A10.out; simp; omega) _).far A11.out (by have := A10.out; simp; omega) _
        · intro x c w3 cnt' hxl hwc hF hlf hrg' hlt hgr hen
          clear hrg hk hz hb hsz
          have hFx : rd L x = some c := by simpa [mixF, hlf] using hF
          have k' := K.out.grown hgr (by simp)
          have z' := Z.out.grown hgr (by have := Z2.out.lt; intro e; injection e with e; omega)
          have b' := B.out.grown hgr B.out.size (fun j e => by cases e; have := B2.out.size; omega)
          have s' := hgr.size
          have K' := Lib.hid k'; have Z' := Lib.hid z'; have B' := Lib.hid b'; have G' := Lib.hid hrg'
          obtain ⟨c0, _⟩ := k'.at_ 0 _ rfl
          obtain ⟨c2, _⟩ := k'.at_ 2 _ rfl
          have LT := Lib.hid hlt
          have NF := Lib.hid (show mixF false now (rd L) lf x ≠ none from by rw [hF]; simp)
          have FX := Lib.hid hFx; have LX := Lib.hid hlf; have SS := Lib.hid s'
          clear k' z' b' s' hgr hF hlf hFx hlt
          cases hnc : decide (now < c)
          · have NC := Lib.hid (show ¬ now < c by simpa using hnc)
            obtain ⟨w4, cnt4, hrun, hrg4, hle4, hg4⟩ := hrg'.drop x hxl 0
            have G4 := Lib.hid hrg4; have L4 := Lib.hid hle4; have H4 := Lib.hid hg4
            clear hrg' hrg4 hle4 hg4
            go_wp2
            go_roundw
            case rel => exact ⟨strike lf x, cnt4, by rw [mix_del FX.out LX.out NC.out]; have := G4.out; rwa [strike_twice] at this, K'.out.grown H4.out (by have := M2.out.lt; intro e; injection e with e; omega), Z'.out.grown H4.out (by have := HBB.out; have := HBZ.out; intro e; injection e with e; omega), B'.out.grown H4.out B'.out.size (fun j e => by cases e; exact HBB.out), Nat.lt_of_lt_of_le S.out (Nat.le_trans SS.out H4.out.size)⟩
            case measure => rw [G4.out.left, G.out.left]; exact Nat.lt_of_le_of_lt L4.out LT.out
          · have NC := Lib.hid (show now < c by simpa using hnc)
            clear hrg'
            go_wp2
            go_roundw
            case rel => exact ⟨strike lf x, cnt', by rw [mix_keep FX.out LX.out NC.out]; exact G'.out, K'.out, Z'.out, B'.out, Nat.lt_of_lt_of_le S.out SS.out⟩
            case measure => rw [G'.out.left, G.out.left]; exact LT.out

     · have HE : (true && decide (now < at')) = true := by simp [hlt]
       obtain ⟨W3, hW3⟩ : ∃ W3, W3 = w2.alloc (.cells #[.bool true, .int .i64 at', .map (some b)] 262) := ⟨_, rfl⟩
       have hb3 : Below w2.heap.size w2 W3 := by rw [hW3]; exact (Below.refl _ _).alloc (Nat.le_refl _) _
       have k3 : CBox W3 w2.heap.size 262 #[.bool true, .int .i64 at', .map (some b)] := by rw [hW3]; exact CBox.new _ rfl
       have hs3 : W3.heap.size = w2.heap.size + 1 := by rw [hW3]; simp
       have z3 : CBox W3 (w.heap.size + 1) 181 #[.bool false, .int .i64 0, .slice none 0 0] := Z2.out.below hb3 (by have := Z2.out.lt; omega)
       have m3 : Mp W3 b L.length (rd L) := M2.out.below hb3 M2.out.lt
       have b3 : Below w.heap.size w W3 := B2.out.trans (hb3.mono B2.out.size)
       have hE := Lib.hid HE
       clear HE
       rw [hW3] at m3
       go_wp2_with (at_range; refine wpList_range_mp _ rfl _ rfl b L.length (rd L) rfl m3 ?_; intro w0 cnt0 hrg0 hg0 hs0; rw [← hW3] at hrg0 hg0 hs0; rw [hs3] at hrg0)
       try go_frame
       simp only [World.size_alloc]
       have U3 := Lib.hid k3; have Y3 := Lib.hid z3; have V3 := Lib.hid b3; have N3 := Lib.hid hs3
       have hk0 := k3.grown hg0 (by simp)
       have hz0 := z3.grown hg0 (by simp)
       have hb0 := b3.grown hg0 b3.size (fun j e => by cases e)
       rw [hs3] at hs0
       clear k3 z3 b3 hs3 hb3 m3 hW3
       go_loopw [7] (fun _ wr => ∃ lf cnt, Rg wr b (w2.heap.size + 1) L.length (mixF true now (rd L) lf) lf cnt ∧ CBox wr w2.heap.size 262 #[.bool true, .int .i64 at', .map (some b)] ∧ CBox wr (w.heap.size + 1) 181 #[.bool false, .int .i64 0, .slice none 0 0] ∧ Below w.heap.size w wr ∧ w2.heap.size + 1 < wr.heap.size) (fun _ wr => wr.rangeLeft b (w2.heap.size + 1))
       case atStart => exact ⟨_, cnt0, by rw [mix_start]; exact hrg0, hk0, hz0, hb0, by omega⟩
       case round =>
        clear hrg0 hg0 hs0 hk0 hz0 hb0
        obtain ⟨lf, cnt, hrg, hk, hz, hb, hsz⟩ := hrel
        have K := Lib.hid hk; have Z := Lib.hid hz; have B := Lib.hid hb; have S := Lib.hid hsz; have G := Lib.hid hrg
        go_wp2_with (at_next; refine wpList_next_mp _ rfl _ rfl b (w2.heap.size + 1) L.length _ lf cnt rfl hrg ?_ ?_)
        · intro hl
          have GM := Lib.hid (show Mp wr b L.length (exF true now (rd L)) from by have := hrg.mp; rwa [mix_done hl] at this)
          clear hrg hl
          obtain ⟨c0, _⟩ := hk.at_ 0 _ rfl
          obtain ⟨c1, _⟩ := hk.at_ 1 _ rfl
          obtain ⟨c2, _⟩ := hk.at_ 2 _ rfl
          clear hk hz hb hsz
          have HST := Lib.hid (state_any true at' b L.length (exF true now (rd L)) wr GM.out HLL.out)
          go_wp2_with fail
          refine HST.out.mono ?_
          rintro e w5 ⟨v5, L5, rfl, h51, h52, h53, h54, h55⟩
          obtain ⟨o5, c5, rfl⟩ := h51.shape
          have Z5 := Lib.hid (Z.out.below h55 Z.out.lt)
          have A5 := Lib.hid h51; have A6 := Lib.hid h52; have A7 := Lib.hid h53; have A8 := Lib.hid (h54.mono B.out.size); have A9 := Lib.hid (B.out.trans (h55.mono B.out.size))
          have A10 := Lib.hid (show w.heap.size + 2 ≤ wr.heap.size by have := Z.out.lt; omega)
          have A11 := Lib.hid h54
          obtain ⟨q0, _⟩ := Z5.out.at_ 0 _ rfl
          obtain ⟨q1, _⟩ := Z5.out.at_ 1 _ rfl
          obtain ⟨q2, _⟩ := Z5.out.at_ 2 _ rfl
          clear h51 h52 h53 h54 h55 c0 c1 c2
          go_wp2
          have R := fun u1 u2 u3 => ((Z5.out.set 0 u1).set 1 u2).set 2 u3
          have r0 := fun u1 u2 u3 => ((R u1 u2 u3).at_ 0 _ rfl).1
          have r1 := fun u1 u2 u3 => ((R u1 u2 u3).at_ 1 _ rfl).1
          have r2 := fun u1 u2 u3 => ((R u1 u2 u3).at_ 2 _ rfl).1
          refine bodyPost_ret (v := .tuple #[.agg #[.bool true, .int .i64 at', .slice o5 L5.length c5], .bool true]) (by simp [results, Tryz.results130, go_sem, r0, r1, r2]) rfl (.inr ⟨HP.out, _, L5, ?_, ?_, by first | (rw [hE.out]; exact A6.out) | exact A6.out, A7.out, A8.out, ((A9.out.setCell (by simp) _).setCell (by simp) _).setCell (by simp) _⟩)
          · (try rw [hE.out]); rfl
          · exact ((A5.out.far A11.out (by have := A10.out; simp; omega) _).far A11.out (by have := A10.out; simp; omega) _).far A11.out (by have := A10.out; simp; omega) _
        · intro x c w3 cnt' hxl hwc hF hlf hrg' hlt hgr hen
          clear hrg hk hz hb hsz
          have hFx : rd L x = some c := by simpa [mixF, hlf] using hF
          have k' := K.out.grown hgr (by simp)
          have z' := Z.out.grown hgr (by have := Z2.out.lt; intro e; injection e with e; omega)
          have b' := B.out.grown hgr B.out.size (fun j e => by cases e; have := B2.out.size; omega)
          have s' := hgr.size
          have K' := Lib.hid k'; have Z' := Lib.hid z'; have B' := Lib.hid b'; have G' := Lib.hid hrg'
          obtain ⟨c0, _⟩ := k'.at_ 0 _ rfl
          obtain ⟨c2, _⟩ := k'.at_ 2 _ rfl
          have LT := Lib.hid hlt
          have NF := Lib.hid (show mixF true now (rd L) lf x ≠ none from by rw [hF]; simp)
          have FX := Lib.hid hFx; have LX := Lib.hid hlf; have SS := Lib.hid s'
          clear k' z' b' s' hgr hF hlf hFx hlt
          cases hnc : decide (now < c)
          · have NC := Lib.hid (show ¬ now < c by simpa using hnc)
            obtain ⟨w4, hrun, hrg4, hg4⟩ := hrg'.turn (by have := HLL.out; unfold maxLen; omega) x hxl NF.out 0 (by decide)
            have G4 := Lib.hid hrg4; have H4 := Lib.hid hg4
            clear hrg' hrg4 hg4
            go_wp2
            go_roundw
            case rel => exact ⟨strike lf x, cnt', by rw [mix_turn FX.out LX.out NC.out]; exact G4.out, K'.out.grown H4.out (by have := M2.out.lt; intro e; injection e with e; omega), Z'.out.grown H4.out (by have := HBB.out; have := HBZ.out; intro e; injection e with e; omega), B'.out.grown H4.out B'.out.size (fun j e => by cases e; exact HBB.out), Nat.lt_of_lt_of_le S.out (Nat.le_trans SS.out H4.out.size)⟩
            case measure => rw [G4.out.left, G.out.left]; exact LT.out
          · have NC := Lib.hid (show now < c by simpa using hnc)
            clear hrg'
            go_wp2
            go_roundw
            case rel => exact ⟨strike lf x, cnt', by rw [mix_keep FX.out LX.out NC.out]; exact G'.out, K'.out, Z'.out, B'.out, Nat.lt_of_lt_of_le S.out SS.out⟩
            case measure => rw [G'.out.left, G.out.left]; exact LT.out

   · have HE : (ex && decide (now < at')) = false := by simp; intro _; simpa using hq
     obtain ⟨W3, hW3⟩ : ∃ W3, W3 = w2.alloc (.cells #[.bool false, .int .i64 0, .map (some b)] 262) := ⟨_, rfl⟩
     have hb3 : Below w2.heap.size w2 W3 := by rw [hW3]; exact (Below.refl _ _).alloc (Nat.le_refl _) _
     have k3 : CBox W3 w2.heap.size 262 #[.bool false, .int .i64 0, .map (some b)] := by rw [hW3]; exact CBox.new _ rfl
     have hs3 : W3.heap.size = w2.heap.size + 1 := by rw [hW3]; simp
     have z3 : CBox W3 (w.heap.size + 1) 181 #[.bool false, .int .i64 0, .slice none 0 0] := Z2.out.below hb3 (by have := Z2.out.lt; omega)
     have m3 : Mp W3 b L.length (rd L) := M2.out.below hb3 M2.out.lt
     have b3 : Below w.heap.size w W3 := B2.out.trans (hb3.mono B2.out.size)
     have hE := Lib.hid HE
     clear HE
     rw [hW3] at m3
     go_wp2_with (at_range; refine wpList_range_mp _ rfl _ rfl b L.length (rd L) rfl m3 ?_; intro w0 cnt0 hrg0 hg0 hs0; rw [← hW3] at hrg0 hg0 hs0; rw [hs3] at hrg0)
     try go_frame
     simp only [World.size_alloc]
     have U3 := Lib.hid k3; have Y3 := Lib.hid z3; have V3 := Lib.hid b3; have N3 := Lib.hid hs3
     have hk0 := k3.grown hg0 (by simp)
     have hz0 := z3.grown hg0 (by simp)
     have hb0 := b3.grown hg0 b3.size (fun j e => by cases e)
     rw [hs3] at hs0
     clear k3 z3 b3 hs3 hb3 m3 hW3
     go_loopw [7] (fun _ wr => ∃ lf cnt, Rg wr b (w2.heap.size + 1) L.length (mixF false now (rd L) lf) lf cnt ∧ CBox wr w2.heap.size 262 #[.bool false, .int .i64 0, .map (some b)] ∧ CBox wr (w.heap.size + 1) 181 #[.bool false, .int .i64 0, .slice none 0 0] ∧ Below w.heap.size w wr ∧ w2.heap.size + 1 < wr.heap.size) (fun _ wr => wr.rangeLeft b (w2.heap.size + 1))
     case atStart => exact ⟨_, cnt0, by rw [mix_start]; exact hrg0, hk0, hz0, hb0, by omega⟩
     case round =>
      clear hrg0 hg0 hs0 hk0 hz0 hb0
      obtain ⟨lf, cnt, hrg, hk, hz, hb, hsz⟩ := hrel
      have K := Lib.hid hk; have Z := Lib.hid hz; have B := Lib.hid hb; have S := Lib.hid hsz; have G := Lib.hid hrg
      go_wp2_with (at_next; refine wpList_next_mp _ rfl _ rfl b (w2.heap.size + 1) L.length _ lf cnt rfl hrg ?_ ?_)
      · intro hl
        have GM := Lib.hid (show Mp wr b L.length (exF false now (rd L)) from by have := hrg.mp; rwa [mix_done hl] at this)
        clear hrg hl
        obtain ⟨c0, _⟩ := hk.at_ 0 _ rfl
        obtain ⟨c1, _⟩ := hk.at_ 1 _ rfl
        obtain ⟨c2, _⟩ := hk.at_ 2 _ rfl
        clear hk hz hb hsz
        obtain ⟨m, hml, hm0⟩ := GM.out.len
        have M0 := Lib.hid hm0
        have ZZ := Lib.hid (Z.out)
        obtain ⟨z0, _⟩ := Z.out.at_ 0 _ rfl
        obtain ⟨z1, _⟩ := Z.out.at_ 1 _ rfl
        obtain ⟨z2, _⟩ := Z.out.at_ 2 _ rfl
        clear hm0
        by_cases hmz : m = 0
        · subst hmz
          go_wp2
          have R := fun u1 u2 u3 => ((Z.out.set 0 u1).set 1 u2).set 2 u3
          have r0 := fun u1 u2 u3 => ((R u1 u2 u3).at_ 0 _ rfl).1
          have r1 := fun u1 u2 u3 => ((R u1 u2 u3).at_ 1 _ rfl).1
          have r2 := fun u1 u2 u3 => ((R u1 u2 u3).at_ 2 _ rfl).1
          refine bodyPost_ret (v := .tuple #[.agg #[.bool false, .int .i64 0, .slice none 0 0], .bool false]) (by simp [results, Tryz.results130, go_sem, r0, r1, r2]) rfl (.inr ⟨HP.out, _, [], by first | (rw [hE.out]; rfl) | rfl, Tms.nil _, by first | (rw [hE.out]; exact asc_nil (M0.out.1 (by simp))) | exact asc_nil (M0.out.1 (by simp)), Nat.zero_le _, fun j hj => by simp [Value.ownBlock] at hj, ((B.out.setCell (by simp) _).setCell (by simp) _).setCell (by simp) _⟩)
        · have hmb : ((m : Int) == 0) = false := by simp; exact hmz
          have NE := Lib.hid (show ¬ ∀ a, exF false now (rd L) a = none from fun h => hmz (M0.out.2 h))
          have HST := Lib.hid (state_any false 0 b L.length (exF false now (rd L)) wr GM.out HLL.out)
          go_wp2_with fail
          refine HST.out.mono ?_
          rintro e w5 ⟨v5, L5, rfl, h51, h52, h53, h54, h55⟩
          obtain ⟨o5, c5, rfl⟩ := h51.shape
          have Z5 := Lib.hid (Z.out.below h55 Z.out.lt)
          have A5 := Lib.hid h51; have A6 := Lib.hid h52; have A7 := Lib.hid h53; have A8 := Lib.hid (h54.mono B.out.size); have A9 := Lib.hid (B.out.trans (h55.mono B.out.size))
          have A10 := Lib.hid (show w.heap.size + 2 ≤ wr.heap.size by have := Z.out.lt; omega)
          have A11 := Lib.hid h54
          obtain ⟨q0, _⟩ := Z5.out.at_ 0 _ rfl
          obtain ⟨q1, _⟩ := Z5.out.at_ 1 _ rfl
          obtain ⟨q2, _⟩ := Z5.out.at_ 2 _ rfl
          clear h51 h52 h53 h54 h55 c0 c1 c2
          go_wp2
          have R := fun u1 u2 u3 => ((Z5.out.set 0 u1).set 1 u2).set 2 u3
          have r0 := fun u1 u2 u3 => ((R u1 u2 u3).at_ 0 _ rfl).1
          have r1 := fun u1 u2 u3 => ((R u1 u2 u3).at_ 1 _ rfl).1
          have r2 := fun u1 u2 u3 => ((R u1 u2 u3).at_ 2 _ rfl).1
          refine bodyPost_ret (v := .tuple #[.agg #[.bool false, .int .i64 0, .slice o5 L5.length c5], .bool true]) (by simp [results, Tryz.results130, go_sem, r0, r1, r2]) rfl (.inr ⟨HP.out, _, L5, ?_, ?_, by first | (rw [hE.out]; exact A6.out) | exact A6.out, A7.out, A8.out, ((A9.out.setCell (by simp) _).setCell (by simp) _).setCell (by simp) _⟩)
          · (try rw [hE.out]); simp [asc_ne A6.out NE.out]
          · exact ((A5.out.far A11.out (by have := A10.out; simp; omega) _).far A11.out (by have := A10.out; simp; omega) _).far A11.out (by have := A10.out; simp; omega) _
      · intro x c w3 cnt' hxl hwc hF hlf hrg' hlt hgr hen
        clear hrg hk hz hb hsz
        have hFx : rd L x = some c := by simpa [mixF, hlf] using hF
        have k' := K.out.grown hgr (by simp)
        have z' := Z.out.grown hgr (by have := Z2.out.lt; intro e; injection e with e; omega)
        have b' := B.out.grown hgr B.out.size (fun j e => by cases e; have := B2.out.size; omega)
        have s' := hgr.size
        have K' := Lib.hid k'; have Z' := Lib.hid z'; have B' := Lib.hid b'; have G' := Lib.hid hrg'
        obtain ⟨c0, _⟩ := k'.at_ 0 _ rfl
        obtain ⟨c2, _⟩ := k'.at_ 2 _ rfl
        have LT := Lib.hid hlt
        have NF := Lib.hid (show mixF false now (rd L) lf x ≠ none from by rw [hF]; simp)
        have FX := Lib.hid hFx; have LX := Lib.hid hlf; have SS := Lib.hid s'
        clear k' z' b' s' hgr hF hlf hFx hlt
        cases hnc : decide (now < c)
        · have NC := Lib.hid (show ¬ now < c by simpa using hnc)
          obtain ⟨w4, cnt4, hrun, hrg4, hle4, hg4⟩ := hrg'.drop x hxl 0
          have G4 := Lib.hid hrg4; have L4 := Lib.hid hle4; have H4 := Lib.hid hg4
          clear hrg' hrg4 hle4 hg4
          go_wp2
          go_roundw
          case rel => exact ⟨strike lf x, cnt4, by rw [mix_del FX.out LX.out NC.out]; have := G4.out; rwa [strike_twice] at this, K'.out.grown H4.out (by have := M2.out.lt; intro e; injection e with e; omega), Z'.out.grown H4.out (by have := HBB.out; have := HBZ.out; intro e; injection e with e; omega), B'.out.grown H4.out B'.out.size (fun j e => by cases e; exact HBB.out), Nat.lt_of_lt_of_le S.out (Nat.le_trans SS.out H4.out.size)⟩
          case measure => rw [G4.out.left, G.out.left]; exact Nat.lt_of_le_of_lt L4.out LT.out
        · have NC := Lib.hid (show now < c by simpa using hnc)
          clear hrg'
          go_wp2
          go_roundw
          case rel => exact ⟨strike lf x, cnt', by rw [mix_keep FX.out LX.out NC.out]; exact G'.out, K'.out, Z'.out, B'.out, Nat.lt_of_lt_of_le S.out SS.out⟩
          case measure => rw [G'.out.left, G.out.left]; exact LT.out


theorem rd_fold : ∀ (L : List Tmd) (F0 : Str → Option Int), (L.map Prod.fst).Nodup → (∀ t ∈ L, L.foldl (fun F t => upd F t.1 t.2) F0 t.1 = some t.2) ∧ ∀ a, a ∉ L.map Prod.fst → L.foldl (fun F t => upd F t.1 t.2) F0 a = F0 a
 | [], F0, _ => ⟨by simp, fun _ _ => rfl⟩
 | t :: L, F0, h => by
   rw [List.map_cons, List.nodup_cons] at h
   obtain ⟨i1, i2⟩ := rd_fold L (upd F0 t.1 t.2) h.2
   rw [List.foldl_cons]
   refine ⟨fun u hu => ?_, fun a ha => ?_⟩
   · rcases List.mem_cons.1 hu with rfl | hu
     · rw [i2 u.1 h.1]; simp [upd]
     · exact i1 u hu
   · rw [List.map_cons, List.mem_cons, not_or] at ha
     rw [i2 a ha.2]
     simp [upd, ha.1]

theorem rd_nodup (L : List Tmd) (h : (L.map Prod.fst).Nodup) : (∀ t ∈ L, rd L t.1 = some t.2) ∧ ∀ a, a ∉ L.map Prod.fst → rd L a = none := rd_fold L _ h

def padm (ex : Bool) (at' : Int) (L : List Tmd) (now : Int) (a : Str) : Bool :=
 pcheck ex at' L && (if (ex && decide (now < at')) then !(exF (ex && decide (now < at')) now (rd L) a == some 0) else (exF (ex && decide (now < at')) now (rd L) a).getD 0 != 0)


end Go.Proofs.YthcdppppppgckaaGreatDoor
