/- Texts joined into one file: JEnc, JMay, JEncode, JBytes, JSame. -/
import Derived.Test.YthkibgdeibolfaaQ10
import Derived.Test.YthkibgdeibolfaaQ12
import Derived.Test.YthkibgdeibolfaaQ11
import Derived.Test.YthkibgdeibolfaaQ05
import Derived.Test.YthkibgdeibolfaaQ03

/- igmp.bare, ask, tell, Encode. -/
namespace Go.Proofs.Ythkibgdeibolfaa
open Go.RowKit Go.Sort
set_option maxRecDepth 20000
set_option maxRecDepth 20000
attribute [local go_sem] bstr_size bstr_extract bstr_toList bstr_get

def bareB (mx : Int) (q : Bool) (r ev : Int) (ns nr : Nat) : Bool := (mx == 0) && !q && (r == 0) && (ev == 0) && ((ns : Int) == 0) && ((nr : Int) == 0)
/-! ### a message on its way into a writer -/
def AskSt (w0 : World) (b mb : Nat) (cs : Array Value) (v : Value) (L : List Str) (S : Str) (bad : Bool) (W : World) : Prop :=
  Wr W b S bad ∧ (CBox W mb 29 cs ∧ mb ≠ b) ∧ (Strs W v L ∧ Apart W v L b) ∧ Below b w0 W
def RetA (st : World → Prop) (e : Ending) (w' : World) : Prop := (∃ v, e = .returned v) ∧ st w'
section
variable {w0 W : World} {b mb : Nat} {cs : Array Value} {v : Value} {L : List Str} {S : Str} {bad : Bool}
theorem AskSt.tur {W' : World} {S' : Str} {bad' : Bool} (h : AskSt w0 b mb cs v L S bad W) (ht : Tur W W' b) (hw : Wr W' b S' bad') : AskSt w0 b mb cs v L S' bad' W' :=
  ⟨hw, ⟨ht.box h.2.1.1 h.2.1.2 (by decide), h.2.1.2⟩, h.2.2.1.1.tur h.2.2.1.2 ht, h.2.2.2.trans ht.1⟩
theorem AskSt.kept {W' : World} (h : AskSt w0 b mb cs v L S bad W) (hb : Below W.heap.size W W') : AskSt w0 b mb cs v L S bad W' := h.tur (Tur.of_below hb (Nat.le_of_lt h.1.lt)) (h.1.kept hb)
theorem AskSt.mark (h : AskSt w0 b mb cs v L S bad W) (c : Bool) : AskSt w0 b mb cs v L S c (W.setCell ⟨b, 2, none⟩ (.bool c)) := h.tur ((Tur.refl W b).set 2 _) (h.1.bad c)
theorem AskSt.strs (h : AskSt w0 b mb cs v L S bad W) : Strs W v L := h.2.2.1.1
theorem AskSt.box (h : AskSt w0 b mb cs v L S bad W) : CBox W mb 29 cs := h.2.1.1
theorem AskSt.flag (h : AskSt w0 b mb cs v L S bad W) : W.cell? ⟨b, 2, none⟩ = some (.bool bad) ∧ W.frozen? ⟨b, 2, none⟩ = false := by
  obtain ⟨p, v, hbk, _⟩ := h.1.p
  exact hbk.at_ 2 _ rfl
theorem AskSt.write (h : AskSt w0 b mb cs v L S bad W) (x : Str) (hl : S.length + x.length ≤ 140737488355328) :
    Calls Try.prog 96 #[.pointer (some ⟨b, 0, none⟩), .string (bstr x)] W (RetA (AskSt w0 b mb cs v L (S ++ x) bad)) :=
  (wstring_any b S x bad W h.1 hl).mono fun _ _ ⟨⟨_, he⟩, hw, ht⟩ => ⟨⟨_, he⟩, h.tur ht hw⟩
theorem AskSt.put1 (h : AskSt w0 b mb cs v L S bad W) (n : Int) (hl : S.length ≤ 100000000) :
    Calls Try.prog 86 #[.pointer (some ⟨b, 0, none⟩), .int .i64 n, .int .i64 1] W (RetA (AskSt w0 b mb cs v L (S ++ putS n 1) (bad || !okPut n 1))) :=
  (wput1 b S bad n W h.1 hl).mono fun _ _ ⟨he, hw, ht⟩ => ⟨⟨_, he⟩, h.tur ht hw⟩
theorem AskSt.put2 (h : AskSt w0 b mb cs v L S bad W) (n : Int) (hl : S.length ≤ 100000000) :
    Calls Try.prog 86 #[.pointer (some ⟨b, 0, none⟩), .int .i64 n, .int .i64 2] W (RetA (AskSt w0 b mb cs v L (S ++ putS n 2) (bad || !okPut n 2))) :=
  (wput2 b S bad n W h.1 hl).mono fun _ _ ⟨he, hw, ht⟩ => ⟨⟨_, he⟩, h.tur ht hw⟩
theorem AskSt.put3 (h : AskSt w0 b mb cs v L S bad W) (n : Int) (hl : S.length ≤ 100000000) :
    Calls Try.prog 86 #[.pointer (some ⟨b, 0, none⟩), .int .i64 n, .int .i64 3] W (RetA (AskSt w0 b mb cs v L (S ++ putS n 3) (bad || !okPut n 3))) :=
  (wput3 b S bad n W h.1 hl).mono fun _ _ ⟨he, hw, ht⟩ => ⟨⟨_, he⟩, h.tur ht hw⟩
theorem AskSt.addrs (h : AskSt w0 b mb cs v L S bad W) (hl : S.length + L.flatten.length ≤ 140737488355328) :
    Calls Try.prog 87 #[.pointer (some ⟨b, 0, none⟩), v] W (RetA (AskSt w0 b mb cs v L (S ++ L.flatten) bad)) :=
  (waddrs_any b S bad v L W h.1 h.2.2.1.1 h.2.2.1.2 hl).mono fun _ _ ⟨he, hw, ht⟩ => ⟨⟨_, he⟩, h.tur ht hw⟩
theorem AskSt.group (h : AskSt w0 b mb cs v L S bad W) (g : Str) (hg : g.length ≤ maxLen) (hl : S.length + g.length ≤ 140737488355328) :
    Calls Try.prog 87 #[.pointer (some ⟨b, 0, none⟩), .slice (some ⟨W.heap.size, 0, none⟩) 1 1] (W.alloc (.cells #[.string (bstr g)] 22)) (RetA (AskSt w0 b mb cs v L (S ++ g) bad)) := by
  have h' := h.kept ((Below.refl _ _).alloc (Nat.le_refl _) (.cells #[.string (bstr g)] 22))
  refine (waddrs_any b S bad _ [g] _ h'.1 (strs_one W g hg) (apart_one W g b h.1.lt) (by simpa using hl)).mono fun _ _ ⟨he, hw, ht⟩ => ⟨⟨_, he⟩, ?_⟩
  have := h'.tur ht hw
  simpa using this
end

theorem fit4 (v : Value) (L : List Str) (w : World) (h : Strs w v L) : Calls Try.prog 85 #[v, .int .i64 4] w fun e w' => e = .returned (.bool (sized L 4)) ∧ w = w' := fit_any v L 4 w h
theorem beq_empty (g : Str) : (g == []) = g.isEmpty := by cases g <;> rfl
def askZ0 (g : Str) (nr : Nat) : Bool := decide (0 < nr) || (g != [] && !grp g 4)
def askZ1 (g : Str) (ns nr : Nat) : Bool := askZ0 g nr || (g == [] && decide (0 < ns))
def gOr (g : Str) : Str := if g = [] then nobody4 else g
abbrev msgCells (k v : Int) (g : Str) (mx : Int) (q : Bool) (r ev : Int) (so : Option Addr) (ns sc : Nat) (ro : Option Addr) (nr rc : Nat) : Array Value :=
  #[.int .i64 k, .int .i64 v, .string (bstr g), .int .i64 mx, .bool q, .int .i64 r, .int .i64 ev, .slice so ns sc, .slice ro nr rc]
def RetAsk (w : World) (b : Nat) (m : Msg) (e : Ending) (w' : World) : Prop :=
  (∃ v, e = .returned v) ∧ ∃ S bad, Wr w' b S bad ∧ Below b w w' ∧ bad = !mayM m ∧ (bad = false → S = bytesM m)
theorem encV_nat (n : Int) (h : 0 ≤ n) : encV_4 n = pencode n.toNat 4 := if_pos h
theorem exact8_nn {n : Int} (h : exact8 n = true) : 0 ≤ n := by unfold exact8 at h; simp at h; exact h.1
theorem ask_long (g : Str) (mx : Int) (q : Bool) (r ev : Int) (L : List Str) (R : List Rec) (F : Int) (z0 z7 : Bool) (S7 : Str) (nr : Nat) (hR : R.length = nr) (hz0 : z0 = askZ0 g nr) (hf : (if q then wrap64 (r + 8) else r) = F)
    (hz : z7 = (((((((z0 || (g == [] && decide (0 < L.length))) || !exact8 mx) || decide (7 < r) || !sized L 4) || decide (r < 0)) || !okPut (max F 0) 1) || !exact8 ev) || !okPut (L.length : Int) 2))
    (hs : S7 = [17] ++ ofN (encV_4 mx) 1 ++ [0, 0] ++ gOr g ++ putS (max F 0) 1 ++ ofN (encV_4 ev) 1 ++ putS (L.length : Int) 2 ++ L.flatten) :
    z7 = !mayM ⟨1, 3, g, mx, q, r, ev, L, R⟩ ∧ (z7 = false → S7 = bytesM ⟨1, 3, g, mx, q, r, ev, L, R⟩) := by
  have hm : mayM ⟨1, 3, g, mx, q, r, ev, L, R⟩ = ((decide (g = []) || grp g 4) && decide (R = []) && (exact8 mx && exact8 ev && decide (0 ≤ r) && decide (r ≤ 7) && sized L 4 && (decide (g ≠ []) || decide (L = [])))) := rfl
  have key : z7 = !mayM ⟨1, 3, g, mx, q, r, ev, L, R⟩ := by
    rw [hz, hm, hz0]
    unfold askZ0
    have e1 : decide (0 < nr) = !decide (R = []) := by rw [← hR]; cases R <;> simp
    have e2 : decide (0 < L.length) = !decide (L = []) := by cases L <;> simp
    have e3 : (g == []) = decide (g = []) := by cases g <;> rfl
    have e4 : (g != []) = decide (g ≠ []) := by cases g <;> rfl
    rw [e1, e2, e3, e4]
    by_cases hr : 0 ≤ r ∧ r ≤ 7
    · rw [decide_eq_true hr.1, decide_eq_true hr.2, decide_eq_false (show ¬ 7 < r by omega), decide_eq_false (show ¬ r < 0 by omega)]
      have hF : okPut (max F 0) 1 = true := by
        have : 0 ≤ F ∧ F ≤ 15 := by
          rw [← hf]
          cases q
          · simp only [Bool.false_eq_true, if_false]; omega
          · simp only [if_true]; unfold wrap64; omega
        unfold okPut; rw [decide_eq_true (by omega), decide_eq_true (by omega)]; rfl
      rw [hF]
      by_cases hsz : sized L 4 = true
      · have hn : okPut (L.length : Int) 2 = true := by
          have : L.length ≤ 60 := by unfold sized at hsz; simp at hsz; exact hsz.1
          unfold okPut; rw [decide_eq_true (by omega), decide_eq_true (by omega)]; rfl
        rw [hn, hsz]
        by_cases hg : g = []
        · rw [decide_eq_true hg, decide_eq_false (show ¬ g ≠ [] from fun h => h hg)]
          cases exact8 mx <;> cases exact8 ev <;> cases decide (R = []) <;> cases decide (L = []) <;> cases grp g 4 <;> rfl
        · rw [decide_eq_false hg, decide_eq_true (show g ≠ [] from hg)]
          cases exact8 mx <;> cases exact8 ev <;> cases decide (R = []) <;> cases decide (L = []) <;> cases grp g 4 <;> rfl
      · rw [Bool.not_eq_true] at hsz
        rw [hsz]
        simp
    · have : (decide (0 ≤ r) && decide (r ≤ 7)) = false := by rw [← Bool.decide_and]; exact decide_eq_false hr
      have h2 : decide (7 < r) = true ∨ decide (r < 0) = true := by
        rcases Int.lt_or_le r 0 with h | h
        · exact .inr (decide_eq_true h)
        · exact .inl (decide_eq_true (by omega))
      rcases h2 with h2 | h2
      · rw [h2, decide_eq_false (show ¬ r ≤ 7 by have := of_decide_eq_true h2; omega)]; simp
      · rw [h2, decide_eq_false (show ¬ 0 ≤ r by have := of_decide_eq_true h2; omega)]; simp
  refine ⟨key, fun h => ?_⟩
  rw [key] at h
  have hmm : mayM ⟨1, 3, g, mx, q, r, ev, L, R⟩ = true := by simpa using h
  rw [hm] at hmm
  simp only [Bool.and_eq_true, decide_eq_true_eq] at hmm
  obtain ⟨⟨hg, hR0⟩, ⟨⟨⟨⟨h1, h2⟩, h3⟩, h4⟩, h5⟩, h6⟩ := hmm
  have hn : L.length ≤ 60 := by unfold sized at h5; simp at h5; exact h5.1
  have hF : max F 0 = ((r.toNat + if q then 8 else 0 : Nat) : Int) := by
    rw [← hf]
    cases q
    · simp only [Bool.false_eq_true, if_false]; omega
    · simp only [if_true]; unfold wrap64; omega
  have ok1 : okPut (max F 0) 1 = true := by unfold okPut; rw [hF, decide_eq_true (by omega), decide_eq_true (by cases q <;> simp <;> omega)]; rfl
  have ok2 : okPut (L.length : Int) 2 = true := by unfold okPut; rw [decide_eq_true (by omega), decide_eq_true (by omega)]; rfl
  rw [hs]
  unfold putS
  rw [if_pos ok1, if_pos ok2, hF, Int.toNat_natCast, Int.toNat_natCast, encV_nat mx (exact8_nn h1), encV_nat ev (exact8_nn h2)]
  rfl
theorem bareB_bare (k v : Int) (g : Str) (mx : Int) (q : Bool) (r ev : Int) (L : List Str) (R : List Rec) : bareB mx q r ev L.length R.length = bare ⟨k, v, g, mx, q, r, ev, L, R⟩ := by
  unfold bareB bare
  have e1 : ((L.length : Int) == 0) = decide (L = []) := by cases L <;> simp; omega
  have e2 : ((R.length : Int) == 0) = decide (R = []) := by cases R <;> simp; omega
  rw [e1, e2]
  rfl
theorem ask_short (v : Int) (g : Str) (mx : Int) (q : Bool) (r ev : Int) (L : List Str) (R : List Rec) (z0 z5 : Bool) (S6 : Str) (nr : Nat) (hR : R.length = nr) (hv : ¬ v = 3) (hz0 : z0 = askZ0 g nr)
    (hz : z5 = ((z0 || (g == [] && decide (0 < L.length)) || !bareB 0 q r ev L.length nr || ((v != 1) && (v != 2)) || ((v == 1) != (mx == 0))) || !okPut mx 1))
    (hs : S6 = [17] ++ putS mx 1 ++ [0, 0] ++ gOr g) :
    z5 = !mayM ⟨1, v, g, mx, q, r, ev, L, R⟩ ∧ (z5 = false → S6 = bytesM ⟨1, v, g, mx, q, r, ev, L, R⟩) := by
  have hm : mayM ⟨1, v, g, mx, q, r, ev, L, R⟩ = ((decide (g = []) || grp g 4) && decide (R = []) && (bare ⟨1, v, g, 0, q, r, ev, L, R⟩ && ((decide (v = 1) && decide (mx = 0)) || (decide (v = 2) && decide (1 ≤ mx) && decide (mx ≤ 255))))) := by
    unfold mayM
    rw [if_pos rfl, if_neg hv]
  have key : z5 = !mayM ⟨1, v, g, mx, q, r, ev, L, R⟩ := by
    rw [hz, hm, hz0, ← hR, bareB_bare 1 v g 0 q r ev L R]
    unfold askZ0
    have e1 : decide (0 < R.length) = !decide (R = []) := by cases R <;> simp
    have e2 : decide (0 < L.length) = !decide (L = []) := by cases L <;> simp
    have e3 : (g == []) = decide (g = []) := by cases g <;> rfl
    have e4 : (g != []) = !decide (g = []) := by cases g <;> rfl
    rw [e1, e2, e3, e4]
    have e5 : bare ⟨1, v, g, 0, q, r, ev, L, R⟩ = true → decide (L = []) = true := by
      unfold bare; simp only [Bool.and_eq_true]; intro h; exact h.1.2
    have e6 : (((v != 1) && (v != 2)) || ((v == 1) != (mx == 0)) || !okPut mx 1) = !((decide (v = 1) && decide (mx = 0)) || (decide (v = 2) && decide (1 ≤ mx) && decide (mx ≤ 255))) := by
      unfold okPut
      by_cases h1 : v = 1
      · subst h1
        by_cases h0 : mx = 0
        · subst h0; rfl
        · simp [h0]
      · by_cases h2 : v = 2
        · subst h2
          by_cases h0 : mx = 0
          · subst h0; rfl
          · by_cases h3 : 0 ≤ mx ∧ mx < 256
            · rw [decide_eq_true h3.1, decide_eq_true (show mx < 256 ^ 1 by omega), decide_eq_true (show 1 ≤ mx by omega), decide_eq_true (show mx ≤ 255 by omega)]
              simp [h0]
            · have : (decide (0 ≤ mx) && decide (mx < 256 ^ 1)) = false := by rw [← Bool.decide_and]; exact decide_eq_false (by omega)
              rw [this]
              have : (decide (1 ≤ mx) && decide (mx ≤ 255)) = false := by rw [← Bool.decide_and]; exact decide_eq_false (by omega)
              rw [Bool.and_assoc, this]
              simp
        · simp [h1, h2]
    generalize hX : ((decide (v = 1) && decide (mx = 0)) || (decide (v = 2) && decide (1 ≤ mx) && decide (mx ≤ 255))) = X at e6 ⊢
    generalize hY : bare ⟨1, v, g, 0, q, r, ev, L, R⟩ = Y at e5 ⊢
    generalize ((v != 1) && (v != 2)) = a1 at e6 ⊢
    generalize ((v == 1) != (mx == 0)) = a2 at e6 ⊢
    generalize (okPut mx 1) = a3 at e6 ⊢
    generalize decide (L = []) = a4 at e5 ⊢
    generalize decide (R = []) = a5
    generalize decide (g = []) = a6
    generalize grp g 4 = a7
    cases Y <;> cases a4 <;> simp at e5 <;> cases X <;> cases a1 <;> cases a2 <;> cases a3 <;> simp at e6 <;> cases a5 <;> cases a6 <;> cases a7 <;> rfl
  refine ⟨key, fun h => ?_⟩
  rw [key] at h
  have hmm : mayM ⟨1, v, g, mx, q, r, ev, L, R⟩ = true := by simpa using h
  rw [hm] at hmm
  simp only [Bool.and_eq_true, Bool.or_eq_true, decide_eq_true_eq] at hmm
  obtain ⟨_, _, hvm⟩ := hmm
  have hb : 0 ≤ mx ∧ mx < 256 := by omega
  have hlt : v < 3 := by omega
  have ok1 : okPut mx 1 = true := by unfold okPut; rw [decide_eq_true hb.1, decide_eq_true (by omega)]; rfl
  rw [hs]
  unfold putS bytesM
  rw [if_pos ok1, if_pos rfl, if_pos hlt]
  rfl
end Go.Proofs.Ythkibgdeibolfaa

/- siphonref08.Bare, May. -/
namespace Go.Proofs.Ythkibgdeibolfaa
open Go.RowKit Go.Sort
set_option maxRecDepth 20000
set_option maxRecDepth 20000
attribute [local go_sem] bstr_size bstr_extract bstr_toList bstr_get

set_option maxHeartbeats 4000000 in
theorem rbare_any (k v mx r ev : Int) (g : Str) (q : Bool) (so : Option Addr) (ns sc : Nat) (ro : Option Addr) (nr rc : Nat) (w : World) :
    Calls Try.prog 65 #[.agg #[.int .i64 k, .int .i64 v, .string (bstr g), .int .i64 mx, .bool q, .int .i64 r, .int .i64 ev, .slice so ns sc, .slice ro nr rc]] w fun e w' => e = .returned (.bool (bareB mx q r ev ns nr)) ∧ Below w.heap.size w w' := by
  unfold bareB
  have l1 := run_len_any (P := Try.prog) Try.underlying26 so ns sc
  have l2 := run_len_any (P := Try.prog) Try.underlying27 ro nr rc
  obtain ⟨b1, h1⟩ : ∃ b1, (mx == 0) = b1 := ⟨_, rfl⟩
  obtain ⟨b3, h3⟩ : ∃ b3, (r == 0) = b3 := ⟨_, rfl⟩
  obtain ⟨b4, h4⟩ : ∃ b4, (ev == 0) = b4 := ⟨_, rfl⟩
  obtain ⟨b5, h5⟩ : ∃ b5, ((ns : Int) == 0) = b5 := ⟨_, rfl⟩
  obtain ⟨b6, h6⟩ : ∃ b6, ((nr : Int) == 0) = b6 := ⟨_, rfl⟩
  rw [h1, h3, h4, h5, h6]
  have HB := Lib.hid (show ∀ o, Below w.heap.size w (w.alloc o) from fun o => (Below.refl _ _).alloc (Nat.le_refl _) o)
  cases b1
  · go_enter Try.func65, Try.ntmps65
    go_wp2_with fail
    go_ret
    exact ⟨rfl, HB.out _⟩
  · cases q
    rotate_left
    · go_enter Try.func65, Try.ntmps65
      go_wp2_with fail
      go_ret
      exact ⟨rfl, HB.out _⟩
    · cases b3
      · go_enter Try.func65, Try.ntmps65
        go_wp2_with fail
        go_ret
        exact ⟨rfl, HB.out _⟩
      · cases b4
        · go_enter Try.func65, Try.ntmps65
          go_wp2_with fail
          go_ret
          exact ⟨rfl, HB.out _⟩
        · cases b5
          · go_enter Try.func65, Try.ntmps65
            go_wp2_with fail
            go_ret
            exact ⟨rfl, HB.out _⟩
          · go_enter Try.func65, Try.ntmps65
            go_wp2_with fail
            go_ret
            exact ⟨rfl, HB.out _⟩

theorem rbody4 (v : Value) (R : List Rec) (w : World) (h : Recs w v R) :
    Calls Try.prog 64 #[v, .int .i64 4] w (RetBody w (pbody R 4).1 (pbody R 4).2) := rbody_any v R 4 w h
theorem sized4 (v : Value) (L : List Str) (w : World) (h : Strs w v L) : Calls Try.prog 89 #[v, .int .i64 4] w fun e w' => e = .returned (.bool (sized L 4)) ∧ w = w' := sized_any v L 4 w h
def RetB (w : World) (c : Bool) (e : Ending) (w' : World) : Prop := e = .returned (.bool c) ∧ Below w.heap.size w w'
theorem may_23 (g : Str) (mx : Int) (q : Bool) (r ev : Int) (L : List Str) (R : List Rec) : mayM ⟨2, 3, g, mx, q, r, ev, L, R⟩ = (decide (g = []) && ((pbody R 4).2 == 0) && bareB mx q r ev L.length 0) := by
  have h : mayM ⟨2, 3, g, mx, q, r, ev, L, R⟩ = (decide (g = []) && bodyOk R 4 && bare ⟨2, 3, g, mx, q, r, ev, L, []⟩) := rfl
  have hb := bareB_bare 2 3 g mx q r ev L []
  rw [List.length_nil] at hb
  have hp : ((pbody R 4).2 == 0) = bodyOk R 4 := by unfold pbody; cases bodyOk R 4 <;> rfl
  rw [h, hb, hp]
theorem may_21 (g : Str) (mx : Int) (q : Bool) (r ev : Int) (L : List Str) (R : List Rec) : mayM ⟨2, 1, g, mx, q, r, ev, L, R⟩ = (grp g 4 && bareB mx q r ev L.length R.length) := by rw [bareB_bare 2 1 g]; rfl
theorem may_22 (g : Str) (mx : Int) (q : Bool) (r ev : Int) (L : List Str) (R : List Rec) : mayM ⟨2, 2, g, mx, q, r, ev, L, R⟩ = (grp g 4 && bareB mx q r ev L.length R.length) := by rw [bareB_bare 2 2 g]; rfl
theorem may_32 (g : Str) (mx : Int) (q : Bool) (r ev : Int) (L : List Str) (R : List Rec) : mayM ⟨3, 2, g, mx, q, r, ev, L, R⟩ = (grp g 4 && bareB mx q r ev L.length R.length) := by rw [bareB_bare 3 2 g]; rfl
theorem may_no (k v : Int) (g : Str) (mx : Int) (q : Bool) (r ev : Int) (L : List Str) (R : List Rec) (hk : ¬ k = 1) (h1 : ¬ (k = 2 ∧ (v = 1 ∨ v = 2 ∨ v = 3))) (h2 : ¬ (k = 3 ∧ v = 2)) : mayM ⟨k, v, g, mx, q, r, ev, L, R⟩ = false := by
  unfold mayM
  rw [if_neg hk, if_neg (show ¬ (k = 2 ∧ v = 3) from fun h => h1 ⟨h.1, .inr (.inr h.2)⟩)]
  have : ((decide (k = 2) && (decide (v = 1) || decide (v = 2))) || (decide (k = 3) && decide (v = 2))) = false := by
    by_cases a1 : k = 2 <;> by_cases a2 : v = 1 <;> by_cases a3 : v = 2 <;> by_cases a4 : k = 3 <;> simp_all
  rw [this]; rfl
theorem isEmpty_ne {g : Str} (h : ¬ g = []) : g.isEmpty = false := by
  cases g
  · exact absurd rfl h
  · rfl
def qZ (g : Str) (nr : Nat) : Bool := (!decide (g = []) && !grp g 4) || decide (0 < nr)
theorem may_1 (v : Int) (g : Str) (mx : Int) (q : Bool) (r ev : Int) (L : List Str) (R : List Rec) : mayM ⟨1, v, g, mx, q, r, ev, L, R⟩ = (!qZ g R.length &&
    (if v = 3 then exact8 mx && exact8 ev && decide (0 ≤ r) && decide (r ≤ 7) && sized L 4 && (!decide (g = []) || ((L.length : Int) == 0))
     else bareB 0 q r ev L.length R.length && ((decide (v = 1) && (mx == 0)) || (decide (v = 2) && decide (1 ≤ mx) && decide (mx ≤ 255))))) := by
  rw [bareB_bare 1 v g 0 q r ev L R]
  have e1 : decide (0 < R.length) = !decide (R = []) := by cases R <;> simp
  have e2 : ((L.length : Int) == 0) = decide (L = []) := by cases L <;> simp; omega
  have e3 : decide (g ≠ []) = !decide (g = []) := by cases g <;> rfl
  have e5 : (mx == 0) = decide (mx = 0) := by rw [Bool.eq_iff_iff, beq_iff_eq, decide_eq_true_eq]
  have h : mayM ⟨1, v, g, mx, q, r, ev, L, R⟩ = ((decide (g = []) || grp g 4) && decide (R = []) &&
    (if v = 3 then exact8 mx && exact8 ev && decide (0 ≤ r) && decide (r ≤ 7) && sized L 4 && (decide (g ≠ []) || decide (L = []))
     else bare ⟨1, v, g, 0, q, r, ev, L, R⟩ && ((decide (v = 1) && decide (mx = 0)) || (decide (v = 2) && decide (1 ≤ mx) && decide (mx ≤ 255))))) := by
    unfold mayM
    rw [if_pos rfl]
  rw [h, e2, e3, e5]
  unfold qZ
  rw [e1]
  by_cases hg : g = []
  · rw [decide_eq_true hg]; cases decide (R = []) <;> rfl
  · rw [decide_eq_false hg]; cases grp g 4 <;> cases decide (R = []) <;> rfl

end Go.Proofs.Ythkibgdeibolfaa

/- igmp.Encode. -/
namespace Go.Proofs.Ythkibgdeibolfaa
open Go.RowKit Go.Sort
set_option maxRecDepth 20000
set_option maxRecDepth 20000
attribute [local go_sem] bstr_size bstr_extract bstr_toList bstr_get

theorem bytesM_len (m : Msg) (h : mayM m = true) : 8 ≤ (bytesM m).length ∧ (bytesM m).length ≤ 40000 := by
  have hg4 : (decide (m.group = []) || grp m.group 4) = true → (grpB m).length = 4 := by
    intro hg
    unfold grpB
    by_cases hz : m.group = []
    · rw [if_pos hz]; rfl
    · rw [if_neg hz]
      rw [decide_eq_false hz, Bool.false_or] at hg
      unfold grp at hg
      simp only [Bool.and_eq_true, decide_eq_true_eq] at hg
      exact hg.1
  unfold mayM at h
  unfold bytesM
  by_cases hk : m.kind = 1
  · rw [if_pos hk] at h ⊢
    simp only [Bool.and_eq_true] at h
    have h4 := hg4 h.1.1
    by_cases hv : m.version = 3
    · rw [if_pos hv] at h
      rw [if_neg (by omega)]
      simp only [Bool.and_eq_true] at h
      have hs := h.2.1.2
      unfold sized at hs
      simp only [Bool.and_eq_true, decide_eq_true_eq, List.all_eq_true] at hs
      have := flat_len m.sources 60 4 hs.1 (fun a ha => by rw [hs.2 a ha]; exact Nat.le_refl _)
      simp only [List.length_append, ofN_length, h4, List.length_cons, List.length_nil]
      omega
    · by_cases hv' : m.version < 3
      · rw [if_pos hv']
        simp only [List.length_append, ofN_length, h4, List.length_cons, List.length_nil]
        omega
      · rw [if_neg hv] at h
        have := h.2
        simp only [Bool.and_eq_true, Bool.or_eq_true, decide_eq_true_eq] at this
        omega
  · rw [if_neg hk] at h ⊢
    by_cases h23 : m.kind = 2 ∧ m.version = 3
    · rw [if_pos h23] at h
      rw [if_neg (by omega), if_pos h23.2]
      simp only [Bool.and_eq_true] at h
      have hb := h.1.2
      unfold bodyOk at hb
      simp only [Bool.and_eq_true, decide_eq_true_eq, List.all_eq_true] at hb
      have := bodyB_len 4 (by decide) m.records hb.2
      have := hb.1.2
      simp only [List.length_append, ofN_length, List.length_cons, List.length_nil]
      omega
    · rw [if_neg h23] at h
      simp only [Bool.and_eq_true] at h
      have h4 := hg4 (by rw [h.1.2, Bool.or_true])
      have hh := h.1.1
      simp only [Bool.and_eq_true, Bool.or_eq_true, decide_eq_true_eq] at hh
      by_cases h3 : m.kind = 3
      · rw [if_pos h3]; simp only [List.length_append, h4, List.length_cons, List.length_nil]; omega
      · rw [if_neg h3, if_neg (by omega)]
        by_cases h1 : m.version = 1
        · rw [if_pos h1]; simp only [List.length_append, h4, List.length_cons, List.length_nil]; omega
        · rw [if_neg h1]; simp only [List.length_append, h4, List.length_cons, List.length_nil]; omega

theorem fill0_any (s : Str) (w : World) (h4 : 4 ≤ s.length) (hs : s.length ≤ 1000000) :
    Calls Try.prog 31 #[.string (bstr []), .string (bstr s), .int .i64 2] w fun e w' => e = .returned (.tuple #[.string (bstr (fillS [] s 2)), .int .i64 0]) ∧ Below w.heap.size w w' :=
  fill_any [] s w rfl (Nat.zero_le _) h4 hs

end Go.Proofs.Ythkibgdeibolfaa

/- siphonref08.bytes, Encode. -/
namespace Go.Proofs.Ythkibgdeibolfaa
open Go.RowKit Go.Sort
set_option maxRecDepth 20000
set_option maxRecDepth 20000
attribute [local go_sem] bstr_size bstr_extract bstr_toList bstr_get

def RetS (w : World) (s : Str) (e : Ending) (w' : World) : Prop := e = .returned (.string (bstr s)) ∧ Below w.heap.size w w'
theorem may_gOr (k v mx r ev : Int) (g : Str) (q : Bool) (L : List Str) (R : List Rec) (h : mayM ⟨k, v, g, mx, q, r, ev, L, R⟩ = true) : (gOr g).length = 4 := by
  have key : (decide (g = []) || grp g 4) = true := by
    unfold mayM at h
    by_cases hk : k = 1
    · rw [if_pos hk] at h; simp only [Bool.and_eq_true] at h; exact h.1.1
    · rw [if_neg hk] at h
      by_cases h2 : k = 2 ∧ v = 3
      · rw [if_pos h2] at h; simp only [Bool.and_eq_true] at h; rw [h.1.1]; rfl
      · rw [if_neg h2] at h; simp only [Bool.and_eq_true] at h; rw [h.1.2, Bool.or_true]
  unfold gOr
  by_cases hz : g = []
  · rw [if_pos hz]; rfl
  · rw [if_neg hz]
    rw [decide_eq_false hz, Bool.false_or] at key
    unfold grp at key
    simp only [Bool.and_eq_true, decide_eq_true_eq] at key
    exact key.1
theorem of_1 (n : Int) (w : World) (h : 0 ≤ n) (h' : n < 256) : Calls Try.prog 48 #[.int .i64 n, .int .i64 1] w (RetS w (ofN n.toNat 1)) := by
  obtain ⟨m, rfl⟩ := Int.eq_ofNat_of_zero_le h
  exact of_any m 1 w (by decide) (by decide) (by omega)
theorem of_2 (n : Nat) (w : World) (h' : n < 65536) : Calls Try.prog 48 #[.int .i64 n, .int .i64 2] w (RetS w (ofN n 2)) := of_any n 2 w (by decide) (by decide) (by omega)

theorem rfill0_any (s : Str) (w : World) (h4 : 4 ≤ s.length) (hs : s.length ≤ 1000000) :
    Calls Try.prog 34 #[.string (bstr []), .string (bstr s), .int .i64 2] w fun e w' => e = .returned (.tuple #[.string (bstr (fillS [] s 2)), .int .i64 0]) ∧ Below w.heap.size w w' :=
  rfill_any [] s w rfl (Nat.zero_le _) h4 hs
end Go.Proofs.Ythkibgdeibolfaa

/- siphonref08.Same where both are the same; live. -/
namespace Go.Proofs.Ythkibgdeibolfaa
open Go.RowKit Go.Sort
set_option maxRecDepth 20000
set_option maxRecDepth 20000
attribute [local go_sem] bstr_size bstr_extract bstr_toList bstr_get

theorem ssame_yes (v u : Value) (A : List Str) (w : World) (h : Strs w v A) (h' : Strs w u A) :
    Calls Try.prog 27 #[v, u] w fun e w' => e = .returned (.bool true) ∧ Below w.heap.size w w' :=
  (ssame_any v u A A w h h').mono fun e w' ⟨he, n, hw⟩ => ⟨by rw [he, beq_self_eq_true], hw ▸ below_draws _ (Below.refl _ _) n⟩
theorem srecs_yes (v u : Value) (A : List Rec) (w : World) (h : Recs w v A) (h' : Recs w u A) :
    Calls Try.prog 28 #[v, u] w fun e w' => e = .returned (.bool true) ∧ Below w.heap.size w w' :=
  (samerecs_any v u A A w h h').mono fun e w' ⟨he, n, hw⟩ => ⟨by rw [he, decide_eq_true rfl], hw ▸ below_draws _ (Below.refl _ _) n⟩

set_option maxHeartbeats 4000000 in
theorem same_yes (k v mx r ev : Int) (g : Str) (q : Bool) (so : Option Addr) (L : List Str) (sc : Nat) (ro : Option Addr) (R : List Rec) (rc : Nat) (so' : Option Addr) (sc' : Nat) (ro' : Option Addr) (rc' : Nat) (w : World)
    (hs : Strs w (.slice so L.length sc) L) (hr : Recs w (.slice ro R.length rc) R) (hs' : Strs w (.slice so' L.length sc') L) (hr' : Recs w (.slice ro' R.length rc') R) :
    Calls Try.prog 11 #[.agg (msgCells k v g mx q r ev so L.length sc ro R.length rc), .agg (msgCells k v g mx q r ev so' L.length sc' ro' R.length rc')] w fun e w' => e = .returned (.bool true) ∧ Below w.heap.size w w' := by
  obtain ⟨ns, hns⟩ : ∃ ns, L.length = ns := ⟨_, rfl⟩
  obtain ⟨nr, hnr⟩ : ∃ nr, R.length = nr := ⟨_, rfl⟩
  rw [hns] at hs hs' ⊢
  rw [hnr] at hr hr' ⊢
  obtain ⟨b1, hb1⟩ : ∃ b, w.heap.size = b := ⟨_, rfl⟩
  obtain ⟨W1, hW1⟩ : ∃ W1, w.alloc (.cells (msgCells k v g mx q r ev so ns sc ro nr rc) 29) = W1 := ⟨_, rfl⟩
  obtain ⟨W2, hW2⟩ : ∃ W2, W1.alloc (.cells (msgCells k v g mx q r ev so' ns sc' ro' nr rc') 29) = W2 := ⟨_, rfl⟩
  have hz1 : W1.heap.size = b1 + 1 := by rw [← hW1, World.size_alloc, hb1]
  have k1 : Below w.heap.size w W1 := by rw [← hW1]; exact (Below.refl _ _).alloc (Nat.le_refl _) _
  have k2 : Below W1.heap.size W1 W2 := by rw [← hW2]; exact (Below.refl _ _).alloc (Nat.le_refl _) _
  have X1 : CBox W2 b1 29 (msgCells k v g mx q r ev so ns sc ro nr rc) := (show CBox W1 b1 _ _ from by rw [← hW1]; exact CBox.new _ hb1.symm).below k2 (by omega)
  have X2 : CBox W2 (b1 + 1) 29 (msgCells k v g mx q r ev so' ns sc' ro' nr rc') := by rw [← hW2]; exact CBox.new _ hz1.symm
  have HX1 := Lib.hid X1; have HX2 := Lib.hid X2
  have HB := Lib.hid (show Below b1 w W2 from by rw [← hb1]; exact k1.trans (k2.mono k1.size))
  have HS := Lib.hid (fun W (hb : Below W2.heap.size W2 W) => ssame_yes _ _ L W (((hs.mono k1).mono k2).mono hb) (((hs'.mono k1).mono k2).mono hb))
  have HR := Lib.hid (fun W (hb : Below W2.heap.size W2 W) => srecs_yes _ _ R W (((hr.mono k1).mono k2).mono hb) (((hr'.mono k1).mono k2).mono hb))
  have HB1 := Lib.hid hb1; have HW1 := Lib.hid hW1; have HW2 := Lib.hid hW2; have HZ1 := Lib.hid hz1
  clear hs hr hs' hr' hns hnr hb1 hW1 hW2 hz1 k1 k2 X1 X2
  go_enter Try.func11, Try.ntmps11
  go_upto_region 1 with fail
  rw [HB1.out, HW1.out, HW2.out]
  obtain ⟨x0, xf0⟩ := CBox.at_ HX1.out 0 _ rfl
  obtain ⟨x1, xf1⟩ := CBox.at_ HX1.out 1 _ rfl
  obtain ⟨x2, xf2⟩ := CBox.at_ HX1.out 2 _ rfl
  obtain ⟨x3, xf3⟩ := CBox.at_ HX1.out 3 _ rfl
  obtain ⟨x4, xf4⟩ := CBox.at_ HX1.out 4 _ rfl
  obtain ⟨x5, xf5⟩ := CBox.at_ HX1.out 5 _ rfl
  obtain ⟨x6, xf6⟩ := CBox.at_ HX1.out 6 _ rfl
  obtain ⟨x7, xf7⟩ := CBox.at_ HX1.out 7 _ rfl
  obtain ⟨x8, xf8⟩ := CBox.at_ HX1.out 8 _ rfl
  obtain ⟨y0, yf0⟩ := CBox.at_ HX2.out 0 _ rfl
  obtain ⟨y1, yf1⟩ := CBox.at_ HX2.out 1 _ rfl
  obtain ⟨y2, yf2⟩ := CBox.at_ HX2.out 2 _ rfl
  obtain ⟨y3, yf3⟩ := CBox.at_ HX2.out 3 _ rfl
  obtain ⟨y4, yf4⟩ := CBox.at_ HX2.out 4 _ rfl
  obtain ⟨y5, yf5⟩ := CBox.at_ HX2.out 5 _ rfl
  obtain ⟨y6, yf6⟩ := CBox.at_ HX2.out 6 _ rfl
  obtain ⟨y7, yf7⟩ := CBox.at_ HX2.out 7 _ rfl
  obtain ⟨y8, yf8⟩ := CBox.at_ HX2.out 8 _ rfl
  have RF := Lib.hid (Below.refl W2.heap.size W2)
  go_wp2_with (first | ((with_reducible refine (HS.out _ RF.out).mono ?_); rintro e w3 ⟨rfl, hb3⟩; have HB3 := Lib.hid hb3; have HX3 := Lib.hid (HX1.out.below hb3 HX1.out.lt); have HX4 := Lib.hid (HX2.out.below hb3 HX2.out.lt); clear hb3 x0 xf0 x1 xf1 x2 xf2 x3 xf3 x4 xf4 x5 xf5 x6 xf6 x7 xf7 x8 xf8 y0 yf0 y1 yf1 y2 yf2 y3 yf3 y4 yf4 y5 yf5 y6 yf6 y7 yf7 y8 yf8; obtain ⟨x8, xf8⟩ := HX3.out.at_ 8 _ rfl; obtain ⟨y8, yf8⟩ := HX4.out.at_ 8 _ rfl) | ((with_reducible refine (HR.out _ HB3.out).mono ?_); rintro e w4 ⟨rfl, hb4⟩; have HB4 := Lib.hid (HB.out.trans ((HB3.out.mono (Nat.le_of_lt HX1.out.lt)).trans (hb4.mono (Nat.le_trans (Nat.le_of_lt HX1.out.lt) HB3.out.size)))); clear hb4))
  go_ret
  exact ⟨rfl, HB1.out ▸ HB4.out⟩

def liveM : Msg := ⟨3, 2, [224, 1, 2, 3], 0, false, 0, 0, [], []⟩
theorem live_enc : penc liveM = ([23, 0, 6, 251, 224, 1, 2, 3], 0) := by decide +kernel
theorem live_dec : pdec [23, 0, 6, 251, 224, 1, 2, 3] = (0, liveM) := by decide +kernel
theorem live_bad : pdec [23, 0, 6, 251, 224, 1, 2, 4] = (4, Msg.zero) := by decide +kernel
theorem live_not : penc Msg.zero = ([], 1) := by decide +kernel
def RetDec (w : World) (k v : Int) (g : Str) (er : Int) (e : Ending) (w' : World) : Prop := ∃ so sc ro rc, e = .returned (.tuple #[.agg #[.int .i64 k, .int .i64 v, .string (bstr g), .int .i64 0, .bool false, .int .i64 0, .int .i64 0, .slice so 0 sc, .slice ro 0 rc], .int .i64 er]) ∧ Below w.heap.size w w'
theorem ret_dec (w w' : World) (e : Ending) (k v : Int) (g : Str) (er : Int) (h : RetMsg w er ⟨k, v, g, 0, false, 0, 0, [], []⟩ e w') : RetDec w k v g er e w' := by
  obtain ⟨vs, vr, he, hs, _, hr, hb⟩ := h
  obtain ⟨so, sc, rfl⟩ := hs.shape
  obtain ⟨ro, rc, rfl⟩ := hr.shape
  exact ⟨so, sc, ro, rc, he, hb⟩
end Go.Proofs.Ythkibgdeibolfaa
