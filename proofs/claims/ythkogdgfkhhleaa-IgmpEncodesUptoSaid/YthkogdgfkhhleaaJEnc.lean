/- igmp.bare, ask, tell, Encode. -/
import Derived.Test.YthkogdgfkhhleaaJBody
import Derived.Test.YthkogdgfkhhleaaJDecode
namespace Go.Proofs.Ythkogdgfkhhleaa
open Go.RowKit Go.Sort
set_option maxRecDepth 20000
set_option maxRecDepth 20000
attribute [local go_sem] bstr_size bstr_extract bstr_toList bstr_get

def bareB (mx : Int) (q : Bool) (r ev : Int) (ns nr : Nat) : Bool := (mx == 0) && !q && (r == 0) && (ev == 0) && ((ns : Int) == 0) && ((nr : Int) == 0)
set_option maxHeartbeats 4000000 in
theorem bare_any (k v mx r ev : Int) (g : Str) (q : Bool) (so : Option Addr) (ns sc : Nat) (ro : Option Addr) (nr rc : Nat) (w : World) :
    Calls Try.prog 60 #[.agg #[.int .i64 k, .int .i64 v, .string (bstr g), .int .i64 mx, .bool q, .int .i64 r, .int .i64 ev, .slice so ns sc, .slice ro nr rc]] w fun e w' => e = .returned (.bool (bareB mx q r ev ns nr)) ∧ Below w.heap.size w w' := by
  unfold bareB
  have l1 := run_len_any (P := Try.prog) Try.underlying24 so ns sc
  have l2 := run_len_any (P := Try.prog) Try.underlying25 ro nr rc
  obtain ⟨b1, h1⟩ : ∃ b1, (mx == 0) = b1 := ⟨_, rfl⟩
  obtain ⟨b3, h3⟩ : ∃ b3, (r == 0) = b3 := ⟨_, rfl⟩
  obtain ⟨b4, h4⟩ : ∃ b4, (ev == 0) = b4 := ⟨_, rfl⟩
  obtain ⟨b5, h5⟩ : ∃ b5, ((ns : Int) == 0) = b5 := ⟨_, rfl⟩
  obtain ⟨b6, h6⟩ : ∃ b6, ((nr : Int) == 0) = b6 := ⟨_, rfl⟩
  rw [h1, h3, h4, h5, h6]
  have HB := Lib.hid (show ∀ o, Below w.heap.size w (w.alloc o) from fun o => (Below.refl _ _).alloc (Nat.le_refl _) o)
  cases b1
  · go_enter Try.func60, Try.ntmps60
    go_wp2_with fail
    go_ret
    exact ⟨rfl, HB.out _⟩
  · cases q
    rotate_left
    · go_enter Try.func60, Try.ntmps60
      go_wp2_with fail
      go_ret
      exact ⟨rfl, HB.out _⟩
    · cases b3
      · go_enter Try.func60, Try.ntmps60
        go_wp2_with fail
        go_ret
        exact ⟨rfl, HB.out _⟩
      · cases b4
        · go_enter Try.func60, Try.ntmps60
          go_wp2_with fail
          go_ret
          exact ⟨rfl, HB.out _⟩
        · cases b5
          · go_enter Try.func60, Try.ntmps60
            go_wp2_with fail
            go_ret
            exact ⟨rfl, HB.out _⟩
          · go_enter Try.func60, Try.ntmps60
            go_wp2_with fail
            go_ret
            exact ⟨rfl, HB.out _⟩

/-! ### a message on its way into a writer -/
def AskSt (w0 : World) (b mb : Nat) (cs : Array Value) (v : Value) (L : List Str) (S : Str) (bad : Bool) (W : World) : Prop :=
  Wr W b S bad ∧ (CBox W mb 27 cs ∧ mb ≠ b) ∧ (Strs W v L ∧ Apart W v L b) ∧ Below b w0 W
def RetA (st : World → Prop) (e : Ending) (w' : World) : Prop := (∃ v, e = .returned v) ∧ st w'
section
variable {w0 W : World} {b mb : Nat} {cs : Array Value} {v : Value} {L : List Str} {S : Str} {bad : Bool}
theorem AskSt.tur {W' : World} {S' : Str} {bad' : Bool} (h : AskSt w0 b mb cs v L S bad W) (ht : Tur W W' b) (hw : Wr W' b S' bad') : AskSt w0 b mb cs v L S' bad' W' :=
  ⟨hw, ⟨ht.box h.2.1.1 h.2.1.2 (by decide), h.2.1.2⟩, h.2.2.1.1.tur h.2.2.1.2 ht, h.2.2.2.trans ht.1⟩
theorem AskSt.kept {W' : World} (h : AskSt w0 b mb cs v L S bad W) (hb : Below W.heap.size W W') : AskSt w0 b mb cs v L S bad W' := h.tur (Tur.of_below hb (Nat.le_of_lt h.1.lt)) (h.1.kept hb)
theorem AskSt.mark (h : AskSt w0 b mb cs v L S bad W) (c : Bool) : AskSt w0 b mb cs v L S c (W.setCell ⟨b, 2, none⟩ (.bool c)) := h.tur ((Tur.refl W b).set 2 _) (h.1.bad c)
theorem AskSt.strs (h : AskSt w0 b mb cs v L S bad W) : Strs W v L := h.2.2.1.1
theorem AskSt.box (h : AskSt w0 b mb cs v L S bad W) : CBox W mb 27 cs := h.2.1.1
theorem AskSt.flag (h : AskSt w0 b mb cs v L S bad W) : W.cell? ⟨b, 2, none⟩ = some (.bool bad) ∧ W.frozen? ⟨b, 2, none⟩ = false := by
  obtain ⟨p, v, hbk, _⟩ := h.1.p
  exact hbk.at_ 2 _ rfl
theorem AskSt.write (h : AskSt w0 b mb cs v L S bad W) (x : Str) (hl : S.length + x.length ≤ 140737488355328) :
    Calls Try.prog 58 #[.pointer (some ⟨b, 0, none⟩), .string (bstr x)] W (RetA (AskSt w0 b mb cs v L (S ++ x) bad)) :=
  (wstring_any b S x bad W h.1 hl).mono fun _ _ ⟨⟨_, he⟩, hw, ht⟩ => ⟨⟨_, he⟩, h.tur ht hw⟩
theorem AskSt.put1 (h : AskSt w0 b mb cs v L S bad W) (n : Int) (hl : S.length ≤ 100000000) :
    Calls Try.prog 44 #[.pointer (some ⟨b, 0, none⟩), .int .i64 n, .int .i64 1] W (RetA (AskSt w0 b mb cs v L (S ++ putS n 1) (bad || !okPut n 1))) :=
  (wput1 b S bad n W h.1 hl).mono fun _ _ ⟨he, hw, ht⟩ => ⟨⟨_, he⟩, h.tur ht hw⟩
theorem AskSt.put2 (h : AskSt w0 b mb cs v L S bad W) (n : Int) (hl : S.length ≤ 100000000) :
    Calls Try.prog 44 #[.pointer (some ⟨b, 0, none⟩), .int .i64 n, .int .i64 2] W (RetA (AskSt w0 b mb cs v L (S ++ putS n 2) (bad || !okPut n 2))) :=
  (wput2 b S bad n W h.1 hl).mono fun _ _ ⟨he, hw, ht⟩ => ⟨⟨_, he⟩, h.tur ht hw⟩
theorem AskSt.put3 (h : AskSt w0 b mb cs v L S bad W) (n : Int) (hl : S.length ≤ 100000000) :
    Calls Try.prog 44 #[.pointer (some ⟨b, 0, none⟩), .int .i64 n, .int .i64 3] W (RetA (AskSt w0 b mb cs v L (S ++ putS n 3) (bad || !okPut n 3))) :=
  (wput3 b S bad n W h.1 hl).mono fun _ _ ⟨he, hw, ht⟩ => ⟨⟨_, he⟩, h.tur ht hw⟩
theorem AskSt.time (h : AskSt w0 b mb cs v L S bad W) (n : Int) (hn : n < 2 ^ 63) (hl : S.length ≤ 100000000) :
    Calls Try.prog 59 #[.pointer (some ⟨b, 0, none⟩), .int .i64 n] W (RetA (AskSt w0 b mb cs v L (S ++ ofN (encV_4 n) 1) (bad || !exact8 n))) :=
  (wtime_any b S bad n W h.1 hn hl).mono fun _ _ ⟨he, hw, ht⟩ => ⟨⟨_, he⟩, h.tur ht hw⟩
theorem AskSt.addrs (h : AskSt w0 b mb cs v L S bad W) (hl : S.length + L.flatten.length ≤ 140737488355328) :
    Calls Try.prog 45 #[.pointer (some ⟨b, 0, none⟩), v] W (RetA (AskSt w0 b mb cs v L (S ++ L.flatten) bad)) :=
  (waddrs_any b S bad v L W h.1 h.2.2.1.1 h.2.2.1.2 hl).mono fun _ _ ⟨he, hw, ht⟩ => ⟨⟨_, he⟩, h.tur ht hw⟩
theorem AskSt.group (h : AskSt w0 b mb cs v L S bad W) (g : Str) (hg : g.length ≤ maxLen) (hl : S.length + g.length ≤ 140737488355328) :
    Calls Try.prog 45 #[.pointer (some ⟨b, 0, none⟩), .slice (some ⟨W.heap.size, 0, none⟩) 1 1] (W.alloc (.cells #[.string (bstr g)] 23)) (RetA (AskSt w0 b mb cs v L (S ++ g) bad)) := by
  have h' := h.kept ((Below.refl _ _).alloc (Nat.le_refl _) (.cells #[.string (bstr g)] 23))
  refine (waddrs_any b S bad _ [g] _ h'.1 (strs_one W g hg) (apart_one W g b h.1.lt) (by simpa using hl)).mono fun _ _ ⟨he, hw, ht⟩ => ⟨⟨_, he⟩, ?_⟩
  have := h'.tur ht hw
  simpa using this
end

theorem fit4 (v : Value) (L : List Str) (w : World) (h : Strs w v L) : Calls Try.prog 43 #[v, .int .i64 4] w fun e w' => e = .returned (.bool (sized L 4)) ∧ w = w' := fit_any v L 4 w h
theorem beq_empty (g : Str) : (g == []) = g.isEmpty := by cases g <;> rfl
def askZ0 (g : Str) (nr : Nat) : Bool := decide (0 < nr) || (g != [] && !grp g 4)
def askZ1 (g : Str) (ns nr : Nat) : Bool := askZ0 g nr || (g == [] && decide (0 < ns))
def gOr (g : Str) : Str := if g = [] then nobody4 else g
abbrev msgCells (k v : Int) (g : Str) (mx : Int) (q : Bool) (r ev : Int) (so : Option Addr) (ns sc : Nat) (ro : Option Addr) (nr rc : Nat) : Array Value :=
  #[.int .i64 k, .int .i64 v, .string (bstr g), .int .i64 mx, .bool q, .int .i64 r, .int .i64 ev, .slice so ns sc, .slice ro nr rc]
def RetAsk (w : World) (b : Nat) (m : Msg) (e : Ending) (w' : World) : Prop :=
  (∃ v, e = .returned v) ∧ ∃ S bad, Wr w' b S bad ∧ Below b w w' ∧ bad = !mayM m ∧ (bad = false → S = bytesM m)
theorem encV_nat (n : Int) (h : 0 ≤ n) : encV_4 n = pencode n.toNat 4 := if_pos h
theorem exact8_nn {n : Int} (h : exact8 n = true) : 0 ≤ n := by unfold exact8 at h; simp at h; exact h.1
theorem ask_long (g : Str) (mx : Int) (q : Bool) (r ev : Int) (L : List Str) (R : List Rec) (F : Int) (z0 z7 : Bool) (S7 : Str) (nr : Nat) (hR : R.length = nr) (hz0 : z0 = askZ0 g nr) (hf : (if q then wrap64 (r + 8) else r) = F)
    (hz : z7 = (((((((z0 || (g == [] && decide (0 < L.length))) || !exact8 mx) || decide (7 < r) || !sized L 4) || decide (r < 0)) || !okPut (max F 0) 1) || !exact8 ev) || !okPut (L.length : Int) 2))
    (hs : S7 = [17] ++ ofN (encV_4 mx) 1 ++ [0, 0] ++ gOr g ++ putS (max F 0) 1 ++ ofN (encV_4 ev) 1 ++ putS (L.length : Int) 2 ++ L.flatten) :
    z7 = !mayM ⟨1, 3, g, mx, q, r, ev, L, R⟩ ∧ (z7 = false → S7 = bytesM ⟨1, 3, g, mx, q, r, ev, L, R⟩) := by
  have hm : mayM ⟨1, 3, g, mx, q, r, ev, L, R⟩ = ((decide (g = []) || grp g 4) && decide (R = []) && (exact8 mx && exact8 ev && decide (0 ≤ r) && decide (r ≤ 7) && sized L 4 && (decide (g ≠ []) || decide (L = [])))) := rfl
  have key : z7 = !mayM ⟨1, 3, g, mx, q, r, ev, L, R⟩ := by
    rw [hz, hm, hz0]
    unfold askZ0
    have e1 : decide (0 < nr) = !decide (R = []) := by rw [← hR]; cases R <;> simp
    have e2 : decide (0 < L.length) = !decide (L = []) := by cases L <;> simp
    have e3 : (g == []) = decide (g = []) := by cases g <;> rfl
    have e4 : (g != []) = decide (g ≠ []) := by cases g <;> rfl
    rw [e1, e2, e3, e4]
    by_cases hr : 0 ≤ r ∧ r ≤ 7
    · rw [decide_eq_true hr.1, decide_eq_true hr.2, decide_eq_false (show ¬ 7 < r by omega), decide_eq_false (show ¬ r < 0 by omega)]
      have hF : okPut (max F 0) 1 = true := by
        have : 0 ≤ F ∧ F ≤ 15 := by
          rw [← hf]
          cases q
          · simp only [Bool.false_eq_true, if_false]; omega
          · simp only [if_true]; unfold wrap64; omega
        unfold okPut; rw [decide_eq_true (by omega), decide_eq_true (by omega)]; rfl
      rw [hF]
      by_cases hsz : sized L 4 = true
      · have hn : okPut (L.length : Int) 2 = true := by
          have : L.length ≤ 60 := by unfold sized at hsz; simp at hsz; exact hsz.1
          unfold okPut; rw [decide_eq_true (by omega), decide_eq_true (by omega)]; rfl
        rw [hn, hsz]
        by_cases hg : g = []
        · rw [decide_eq_true hg, decide_eq_false (show ¬ g ≠ [] from fun h => h hg)]
          cases exact8 mx <;> cases exact8 ev <;> cases decide (R = []) <;> cases decide (L = []) <;> cases grp g 4 <;> rfl
        · rw [decide_eq_false hg, decide_eq_true (show g ≠ [] from hg)]
          cases exact8 mx <;> cases exact8 ev <;> cases decide (R = []) <;> cases decide (L = []) <;> cases grp g 4 <;> rfl
      · rw [Bool.not_eq_true] at hsz
        rw [hsz]
        simp
    · have : (decide (0 ≤ r) && decide (r ≤ 7)) = false := by rw [← Bool.decide_and]; exact decide_eq_false hr
      have h2 : decide (7 < r) = true ∨ decide (r < 0) = true := by
        rcases Int.lt_or_le r 0 with h | h
        · exact .inr (decide_eq_true h)
        · exact .inl (decide_eq_true (by omega))
      rcases h2 with h2 | h2
      · rw [h2, decide_eq_false (show ¬ r ≤ 7 by have := of_decide_eq_true h2; omega)]; simp
      · rw [h2, decide_eq_false (show ¬ 0 ≤ r by have := of_decide_eq_true h2; omega)]; simp
  refine ⟨key, fun h => ?_⟩
  rw [key] at h
  have hmm : mayM ⟨1, 3, g, mx, q, r, ev, L, R⟩ = true := by simpa using h
  rw [hm] at hmm
  simp only [Bool.and_eq_true, decide_eq_true_eq] at hmm
  obtain ⟨⟨hg, hR0⟩, ⟨⟨⟨⟨h1, h2⟩, h3⟩, h4⟩, h5⟩, h6⟩ := hmm
  have hn : L.length ≤ 60 := by unfold sized at h5; simp at h5; exact h5.1
  have hF : max F 0 = ((r.toNat + if q then 8 else 0 : Nat) : Int) := by
    rw [← hf]
    cases q
    · simp only [Bool.false_eq_true, if_false]; omega
    · simp only [if_true]; unfold wrap64; omega
  have ok1 : okPut (max F 0) 1 = true := by unfold okPut; rw [hF, decide_eq_true (by omega), decide_eq_true (by cases q <;> simp <;> omega)]; rfl
  have ok2 : okPut (L.length : Int) 2 = true := by unfold okPut; rw [decide_eq_true (by omega), decide_eq_true (by omega)]; rfl
  rw [hs]
  unfold putS
  rw [if_pos ok1, if_pos ok2, hF, Int.toNat_natCast, Int.toNat_natCast, encV_nat mx (exact8_nn h1), encV_nat ev (exact8_nn h2)]
  rfl
theorem bareB_bare (k v : Int) (g : Str) (mx : Int) (q : Bool) (r ev : Int) (L : List Str) (R : List Rec) : bareB mx q r ev L.length R.length = bare ⟨k, v, g, mx, q, r, ev, L, R⟩ := by
  unfold bareB bare
  have e1 : ((L.length : Int) == 0) = decide (L = []) := by cases L <;> simp; omega
  have e2 : ((R.length : Int) == 0) = decide (R = []) := by cases R <;> simp; omega
  rw [e1, e2]
  rfl
theorem ask_short (v : Int) (g : Str) (mx : Int) (q : Bool) (r ev : Int) (L : List Str) (R : List Rec) (z0 z5 : Bool) (S6 : Str) (nr : Nat) (hR : R.length = nr) (hv : ¬ v = 3) (hz0 : z0 = askZ0 g nr)
    (hz : z5 = ((z0 || (g == [] && decide (0 < L.length)) || !bareB 0 q r ev L.length nr || ((v != 1) && (v != 2)) || ((v == 1) != (mx == 0))) || !okPut mx 1))
    (hs : S6 = [17] ++ putS mx 1 ++ [0, 0] ++ gOr g) :
    z5 = !mayM ⟨1, v, g, mx, q, r, ev, L, R⟩ ∧ (z5 = false → S6 = bytesM ⟨1, v, g, mx, q, r, ev, L, R⟩) := by
  have hm : mayM ⟨1, v, g, mx, q, r, ev, L, R⟩ = ((decide (g = []) || grp g 4) && decide (R = []) && (bare ⟨1, v, g, 0, q, r, ev, L, R⟩ && ((decide (v = 1) && decide (mx = 0)) || (decide (v = 2) && decide (1 ≤ mx) && decide (mx ≤ 255))))) := by
    unfold mayM
    rw [if_pos rfl, if_neg hv]
  have key : z5 = !mayM ⟨1, v, g, mx, q, r, ev, L, R⟩ := by
    rw [hz, hm, hz0, ← hR, bareB_bare 1 v g 0 q r ev L R]
    unfold askZ0
    have e1 : decide (0 < R.length) = !decide (R = []) := by cases R <;> simp
    have e2 : decide (0 < L.length) = !decide (L = []) := by cases L <;> simp
    have e3 : (g == []) = decide (g = []) := by cases g <;> rfl
    have e4 : (g != []) = !decide (g = []) := by cases g <;> rfl
    rw [e1, e2, e3, e4]
    have e5 : bare ⟨1, v, g, 0, q, r, ev, L, R⟩ = true → decide (L = []) = true := by
      unfold bare; simp only [Bool.and_eq_true]; intro h; exact h.1.2
    have e6 : (((v != 1) && (v != 2)) || ((v == 1) != (mx == 0)) || !okPut mx 1) = !((decide (v = 1) && decide (mx = 0)) || (decide (v = 2) && decide (1 ≤ mx) && decide (mx ≤ 255))) := by
      unfold okPut
      by_cases h1 : v = 1
      · subst h1
        by_cases h0 : mx = 0
        · subst h0; rfl
        · simp [h0]
      · by_cases h2 : v = 2
        · subst h2
          by_cases h0 : mx = 0
          · subst h0; rfl
          · by_cases h3 : 0 ≤ mx ∧ mx < 256
            · rw [decide_eq_true h3.1, decide_eq_true (show mx < 256 ^ 1 by omega), decide_eq_true (show 1 ≤ mx by omega), decide_eq_true (show mx ≤ 255 by omega)]
              simp [h0]
            · have : (decide (0 ≤ mx) && decide (mx < 256 ^ 1)) = false := by rw [← Bool.decide_and]; exact decide_eq_false (by omega)
              rw [this]
              have : (decide (1 ≤ mx) && decide (mx ≤ 255)) = false := by rw [← Bool.decide_and]; exact decide_eq_false (by omega)
              rw [Bool.and_assoc, this]
              simp
        · simp [h1, h2]
    generalize hX : ((decide (v = 1) && decide (mx = 0)) || (decide (v = 2) && decide (1 ≤ mx) && decide (mx ≤ 255))) = X at e6 ⊢
    generalize hY : bare ⟨1, v, g, 0, q, r, ev, L, R⟩ = Y at e5 ⊢
    generalize ((v != 1) && (v != 2)) = a1 at e6 ⊢
    generalize ((v == 1) != (mx == 0)) = a2 at e6 ⊢
    generalize (okPut mx 1) = a3 at e6 ⊢
    generalize decide (L = []) = a4 at e5 ⊢
    generalize decide (R = []) = a5
    generalize decide (g = []) = a6
    generalize grp g 4 = a7
    cases Y <;> cases a4 <;> simp at e5 <;> cases X <;> cases a1 <;> cases a2 <;> cases a3 <;> simp at e6 <;> cases a5 <;> cases a6 <;> cases a7 <;> rfl
  refine ⟨key, fun h => ?_⟩
  rw [key] at h
  have hmm : mayM ⟨1, v, g, mx, q, r, ev, L, R⟩ = true := by simpa using h
  rw [hm] at hmm
  simp only [Bool.and_eq_true, Bool.or_eq_true, decide_eq_true_eq] at hmm
  obtain ⟨_, _, hvm⟩ := hmm
  have hb : 0 ≤ mx ∧ mx < 256 := by omega
  have hlt : v < 3 := by omega
  have ok1 : okPut mx 1 = true := by unfold okPut; rw [decide_eq_true hb.1, decide_eq_true (by omega)]; rfl
  rw [hs]
  unfold putS bytesM
  rw [if_pos ok1, if_pos rfl, if_pos hlt]
  rfl
set_option maxHeartbeats 4000000 in
theorem ask_any (k v mx r ev : Int) (g : Str) (q : Bool) (so : Option Addr) (L : List Str) (sc : Nat) (ro : Option Addr) (nr rc : Nat) (b : Nat) (w : World) (h : Wr w b [] false) (hs : Strs w (.slice so L.length sc) L) (ha : Apart w (.slice so L.length sc) L b)
    (hg : g.length ≤ 10000000) (hL : L.flatten.length ≤ 10000000) (hn : L.length ≤ 10000000) (hmx : mx < 2 ^ 63) (hev : ev < 2 ^ 63) (R : List Rec) (hR : R.length = nr) :
    Calls Try.prog 33 #[.pointer (some ⟨b, 0, none⟩), .agg (msgCells k v g mx q r ev so L.length sc ro nr rc)] w (RetAsk w b ⟨1, v, g, mx, q, r, ev, L, R⟩) := by
  have l1 := run_len_any (P := Try.prog) Try.underlying24 so L.length sc
  have l2 := run_len_any (P := Try.prog) Try.underlying25 ro nr rc
  have b0 : (⟨#[]⟩ : ByteArray) = bstr [] := bstr_nil.symm
  have b4 : (⟨#[0, 0, 0, 0]⟩ : ByteArray) = bstr [0, 0, 0, 0] := by rw [bstr_eq]
  have b17 : (⟨#[17]⟩ : ByteArray) = bstr [17] := by rw [bstr_eq]
  obtain ⟨ns, hns⟩ : ∃ ns, L.length = ns := ⟨_, rfl⟩
  rw [hns] at l1 hs ha ⊢
  obtain ⟨mb, hmb⟩ : ∃ mb, w.heap.size = mb := ⟨_, rfl⟩
  obtain ⟨W1, hW1⟩ : ∃ W1, w.alloc (.cells (msgCells k v g mx q r ev so ns sc ro nr rc) 27) = W1 := ⟨_, rfl⟩
  have HA1 := Lib.hid (show AskSt w b mb (msgCells k v g mx q r ev so ns sc ro nr rc) (.slice so ns sc) L [] false W1 from by
    have hb1 : Below w.heap.size w W1 := by rw [← hW1]; exact (Below.refl _ _).alloc (Nat.le_refl _) _
    have ht : Tur w W1 b := Tur.of_below hb1 (Nat.le_of_lt h.lt)
    exact ⟨h.kept hb1, ⟨by rw [← hW1]; exact CBox.new _ hmb.symm, by have := h.lt; omega⟩, hs.tur ha ht, ht.1⟩)
  have HW1 := Lib.hid hW1; have HMB := Lib.hid hmb
  have HLN := Lib.hid (And.intro hg (And.intro hL hn)); have HNS := Lib.hid hns
  clear hW1 hmb h hs ha hg hL hn hns
  go_enter Try.func33, Try.ntmps33
  go_upto_region 1 with fail
  rw [HMB.out, HW1.out]
  obtain ⟨x2, f2⟩ := HA1.out.2.1.1.at_ 2 _ rfl
  obtain ⟨x8, f8⟩ := HA1.out.2.1.1.at_ 8 _ rfl
  obtain ⟨y2, yf2⟩ := HA1.out.flag
  obtain ⟨t1, ht1⟩ : ∃ t, decide (0 < nr) = t := ⟨_, rfl⟩
  have HGR := Lib.hid (fun W => isGroup4 g W (Nat.le_trans HLN.out.1 (by decide)))
  obtain ⟨t3, ht3⟩ : ∃ t, grp g 4 = t := ⟨_, rfl⟩
  rw [ht3] at HGR
  obtain ⟨z0, hz0⟩ : ∃ z, askZ0 g nr = z := ⟨_, rfl⟩
  have HZ0 := Lib.hid (show z0 = (t1 || (g != [] && !t3)) from by rw [← hz0, ← ht1, ← ht3]; rfl)
  have HZ0X := Lib.hid hz0.symm
  clear hz0 ht3
  go_upto_region 2 with fail
  go_cut [] (fun w' => AskSt w b mb (msgCells k v g mx q r ev so ns sc ro nr rc) (.slice so ns sc) L [] z0 w')
  case first =>
    cases t1
    · by_cases hg0 : g = []
      · subst hg0
        go_wp2_with fail
        go_meet
        case rel => rw [HZ0.out]; exact HA1.out.mark _
      · have e1 : (g == []) = false := beq_eq_false_iff_ne.2 hg0
        have e2 : (g != []) = true := bne_iff_ne.2 hg0
        rw [e2] at HZ0
        clear hg0
        go_wp2_with ((with_reducible refine (HGR.out _).mono ?_); rintro e w2 ⟨rfl, hb2⟩; have HA2 := Lib.hid (HA1.out.kept hb2); clear hb2 x2 f2 x8 f8 y2 yf2; obtain ⟨y2, yf2⟩ := HA2.out.flag)
        go_meet
        case rel => rw [HZ0.out]; exact HA2.out.mark _
    · go_wp2_with fail
      go_meet
      case rel => rw [HZ0.out]; exact HA1.out.mark _
  case rest =>
    have HA3 := Lib.hid hcut
    clear hcut x2 f2 x8 f8 y2 yf2
    obtain ⟨z1, hz1⟩ : ∃ z, (z0 || (g == [] && decide (0 < ns))) = z := ⟨_, rfl⟩
    have HZ1 := Lib.hid hz1
    clear hz1
    obtain ⟨x7, f7⟩ := HA3.out.2.1.1.at_ 7 _ rfl
    obtain ⟨y2, yf2⟩ := HA3.out.flag
    go_upto_if 26 with fail
    obtain ⟨te, hte⟩ : ∃ t, List.isEmpty g = t := ⟨_, rfl⟩
    rw [hte]
    go_cut [4] (fun s4 w' => s4 = .string (bstr (gOr g)) ∧ AskSt w b mb (msgCells k v g mx q r ev so ns sc ro nr rc) (.slice so ns sc) L [] z1 w')
    case first =>
      cases te
      rotate_left
      · have hg0 : g = [] := List.isEmpty_iff.1 hte
        clear hte
        obtain ⟨t4, ht4⟩ : ∃ t, decide (0 < ns) = t := ⟨_, rfl⟩
        have ht4' : decide ((0 : Int) < ns) = t4 := by rw [← ht4]; exact decide_eq_decide.2 (by omega)
        have HZ1' := Lib.hid (show z1 = (z0 || t4) from by rw [← HZ1.out, hg0, ht4]; rfl)
        subst hg0
        cases z0
        · cases t4
          · go_wp2_with fail
            go_meet
            case rel => rw [HZ1'.out]; exact ⟨by rw [b4]; rfl, HA3.out.mark _⟩
          · go_wp2_with fail
            go_meet
            case rel => rw [HZ1'.out]; exact ⟨by rw [b4]; rfl, HA3.out.mark _⟩
        · go_wp2_with fail
          go_meet
          case rel => rw [HZ1'.out]; exact ⟨by rw [b4]; rfl, HA3.out.mark _⟩
      · have HZ1' := Lib.hid (show z1 = z0 from by rw [← HZ1.out, show (g == []) = false from by rw [beq_empty]; exact hte]; cases z0 <;> rfl)
        have HGO := Lib.hid (show gOr g = g from if_neg (fun h => by rw [h] at hte; cases hte))
        clear hte
        go_wp2_with fail
        go_meet
        case rel => rw [HZ1'.out, HGO.out]; exact ⟨rfl, HA3.out⟩
    case rest =>
      obtain ⟨rfl, hcut⟩ := hcut
      have HA4 := Lib.hid hcut
      clear hcut x7 f7 y2 yf2 hte
      obtain ⟨GB, hGB⟩ : ∃ GB, gOr g = GB := ⟨_, rfl⟩
      rw [hGB]
      have HGB := Lib.hid hGB
      have hgl : GB.length ≤ 10000000 := by rw [← hGB]; unfold gOr; split; exact (by decide); exact HLN.out.1
      have HGL := Lib.hid hgl
      clear hGB hgl
      go_upto_region 7 with ((with_reducible refine (HA4.out.write [17] (by decide)).mono ?_); rintro e w5 ⟨⟨_, rfl⟩, ha⟩; have HA5 := Lib.hid ha; clear ha; obtain ⟨x1, f1⟩ := HA5.out.2.1.1.at_ 1 _ rfl)
      obtain ⟨S0, hS0⟩ : ∃ S : Str, [] ++ [17] = S := ⟨_, rfl⟩
      rw [hS0] at HA5
      have HS0 := Lib.hid (show S0.length = 1 ∧ S0 = [17] from by rw [← hS0]; exact ⟨rfl, rfl⟩)
      clear hS0
      by_cases hv : v = 3
      · have ev3 : (v == 3) = true := beq_iff_eq.2 hv
        have HV := Lib.hid hv
        clear hv
        obtain ⟨z2, hz2⟩ : ∃ z, (z1 || !exact8 mx) = z := ⟨_, rfl⟩
        obtain ⟨E1, hE1⟩ : ∃ E, ofN (encV_4 mx) 1 = E := ⟨_, rfl⟩
        have HE1 := Lib.hid (show E1.length = 1 from by rw [← hE1, ofN_length])
        obtain ⟨S1, hS1⟩ : ∃ S, S0 ++ E1 = S := ⟨_, rfl⟩
        obtain ⟨S2, hS2⟩ : ∃ S, S1 ++ putS 0 2 = S := ⟨_, rfl⟩
        obtain ⟨S3, hS3⟩ : ∃ S, S2 ++ GB = S := ⟨_, rfl⟩
        have HT := Lib.hid (fun W (h : AskSt w b mb (msgCells k v g mx q r ev so ns sc ro nr rc) (.slice so ns sc) L S0 z1 W) => h.time mx hmx (by rw [HS0.out.1]; decide))
        rw [hz2, hE1, hS1] at HT
        have lS1 : S1.length = 2 := by rw [← hS1, List.length_append, HS0.out.1, HE1.out]
        have lS2 : S2.length = 4 := by rw [← hS2, List.length_append, lS1]; rfl
        have lS3 : S3.length ≤ 10000004 := by rw [← hS3, List.length_append, lS2]; have := HGL.out; omega
        have HP := Lib.hid (fun W (h : AskSt w b mb (msgCells k v g mx q r ev so ns sc ro nr rc) (.slice so ns sc) L S1 z2 W) => h.put2 0 (by rw [lS1]; decide))
        rw [hS2, show okPut 0 2 = true from rfl, Bool.not_true, Bool.or_false] at HP
        have HGP := Lib.hid (fun W (h : AskSt w b mb (msgCells k v g mx q r ev so ns sc ro nr rc) (.slice so ns sc) L S2 z2 W) => h.group GB (Nat.le_trans HGL.out (by decide)) (by rw [lS2]; have := HGL.out; omega))
        rw [hS3] at HGP
        have HSS := Lib.hid (show S3 = [17] ++ E1 ++ [0, 0] ++ GB from by rw [← hS3, ← hS2, ← hS1, HS0.out.2]; rfl)
        have HL3 := Lib.hid lS3
        have HQ := Lib.hid (And.intro hz2 hE1)
        clear hz2 hE1 hS1 hS2 hS3 lS1 lS2 lS3
        clear x1 f1
        obtain ⟨x1, f1⟩ := HA5.out.2.1.1.at_ 1 _ rfl
        obtain ⟨x3, f3⟩ := HA5.out.2.1.1.at_ 3 _ rfl
        go_upto_region 12 with (first | ((with_reducible refine (HT.out _ HA5.out).mono ?_); rintro e w6 ⟨⟨_, rfl⟩, ha⟩; have HA6 := Lib.hid ha; clear ha x1 f1 x3 f3) | ((with_reducible refine (HP.out _ HA6.out).mono ?_); rintro e w7 ⟨⟨_, rfl⟩, ha⟩; have HA7 := Lib.hid ha; clear ha) | ((with_reducible refine (HGP.out _ HA7.out).mono ?_); rintro e w8 ⟨⟨_, rfl⟩, ha⟩; have HA8 := Lib.hid ha; clear ha; obtain ⟨x5, f5⟩ := HA8.out.2.1.1.at_ 5 _ rfl; obtain ⟨x7, f7⟩ := HA8.out.2.1.1.at_ 7 _ rfl; obtain ⟨y2, yf2⟩ := HA8.out.flag))
        obtain ⟨z3, hz3⟩ : ∃ z, (z2 || decide (7 < r) || !sized L 4) = z := ⟨_, rfl⟩
        obtain ⟨t5, ht5⟩ : ∃ t, decide (7 < r) = t := ⟨_, rfl⟩
        obtain ⟨t6, ht6⟩ : ∃ t, sized L 4 = t := ⟨_, rfl⟩
        have HZ3 := Lib.hid hz3
        have HFT := Lib.hid (fun W (h : Strs W (.slice so ns sc) L) => fit4 _ L W h)
        rw [ht6] at HFT
        have HZ3' := Lib.hid (show z3 = (z2 || t5 || !t6) from by rw [← ht5, ← ht6, ← hz3])
        clear hz3 ht6
        go_cut [] (fun w' => AskSt w b mb (msgCells k v g mx q r ev so ns sc ro nr rc) (.slice so ns sc) L S3 z3 w')
        case first =>
          cases z2
          · cases t5
            · go_wp2_with ((with_reducible refine (HFT.out _ HA8.out.strs).mono ?_); rintro e w9 ⟨rfl, hw9⟩; subst hw9)
              go_meet
              case rel => rw [HZ3'.out]; exact HA8.out.mark _
            · go_wp2_with fail
              go_meet
              case rel => rw [HZ3'.out]; exact HA8.out.mark _
          · go_wp2_with fail
            go_meet
            case rel => rw [HZ3'.out]; exact HA8.out.mark _
        case rest =>
          have HA9 := Lib.hid hcut
          clear hcut x5 f5 x7 f7 y2 yf2 ht5 HZ3' HFT HGP HP HT
          obtain ⟨x4, f4⟩ := HA9.out.2.1.1.at_ 4 _ rfl
          obtain ⟨F, hF⟩ : ∃ F, (if q then wrap64 (r + 8) else r) = F := ⟨_, rfl⟩
          go_upto_if 77 with fail
          go_cut [5] (fun s5 w' => s5 = .int .i64 F ∧ AskSt w b mb (msgCells k v g mx q r ev so ns sc ro nr rc) (.slice so ns sc) L S3 z3 w')
          case first =>
            cases q
            · go_wp2_with fail
              go_meet
              case rel => exact ⟨by rw [← hF]; rfl, HA9.out⟩
            · go_wp2_with fail
              go_meet
              case rel => exact ⟨by rw [← hF]; rfl, HA9.out⟩
          case rest =>
            obtain ⟨rfl, hcut⟩ := hcut
            have HA10 := Lib.hid hcut
            have HF := Lib.hid hF
            clear hcut x4 f4 hF
            obtain ⟨x5, f5⟩ := HA10.out.2.1.1.at_ 5 _ rfl
            obtain ⟨y2, yf2⟩ := HA10.out.flag
            obtain ⟨z4, hz4⟩ : ∃ z, (z3 || decide (r < 0)) = z := ⟨_, rfl⟩
            obtain ⟨t7, ht7⟩ : ∃ t, decide (r < 0) = t := ⟨_, rfl⟩
            have HZ4 := Lib.hid hz4
            have HZ4' := Lib.hid (show z4 = (z3 || t7) from by rw [← ht7, ← hz4])
            clear hz4
            go_upto_region 15 with fail
            go_cut [] (fun w' => AskSt w b mb (msgCells k v g mx q r ev so ns sc ro nr rc) (.slice so ns sc) L S3 z4 w')
            case first =>
              cases z3
              · go_wp2_with fail
                go_meet
                case rel => rw [HZ4'.out]; exact HA10.out.mark _
              · go_wp2_with fail
                go_meet
                case rel => rw [HZ4'.out]; exact HA10.out.mark _
            case rest =>
              have HA11 := Lib.hid hcut
              clear hcut x5 f5 y2 yf2 ht7 HZ4'
              obtain ⟨x6, f6⟩ := HA11.out.2.1.1.at_ 6 _ rfl
              obtain ⟨x7, f7⟩ := HA11.out.2.1.1.at_ 7 _ rfl
              obtain ⟨o1, ho1⟩ : ∃ o, okPut (max F 0) 1 = o := ⟨_, rfl⟩
              obtain ⟨o2, ho2⟩ : ∃ o, okPut (ns : Int) 2 = o := ⟨_, rfl⟩
              obtain ⟨x8, hx8⟩ : ∃ o, exact8 ev = o := ⟨_, rfl⟩
              obtain ⟨D1, hD1⟩ : ∃ D, putS (max F 0) 1 = D := ⟨_, rfl⟩
              obtain ⟨D2, hD2⟩ : ∃ D, ofN (encV_4 ev) 1 = D := ⟨_, rfl⟩
              obtain ⟨D3, hD3⟩ : ∃ D, putS (ns : Int) 2 = D := ⟨_, rfl⟩
              have lD1 : D1.length ≤ 1 := by rw [← hD1]; exact putS_len _ _
              have lD2 : D2.length = 1 := by rw [← hD2, ofN_length]
              have lD3 : D3.length ≤ 2 := by rw [← hD3]; exact putS_len _ _
              have hl3 := HL3.out
              have HC1 := Lib.hid (fun W (h : AskSt w b mb (msgCells k v g mx q r ev so ns sc ro nr rc) (.slice so ns sc) L S3 z4 W) => h.put1 (max F 0) (by omega))
              rw [ho1, hD1] at HC1
              obtain ⟨S4, hS4⟩ : ∃ S, S3 ++ D1 = S := ⟨_, rfl⟩
              rw [hS4] at HC1
              have l4 : S4.length ≤ 10000005 := by rw [← hS4, List.length_append]; omega
              obtain ⟨z5, hz5⟩ : ∃ z, (z4 || !o1) = z := ⟨_, rfl⟩
              rw [hz5] at HC1
              have HC2 := Lib.hid (fun W (h : AskSt w b mb (msgCells k v g mx q r ev so ns sc ro nr rc) (.slice so ns sc) L S4 z5 W) => h.time ev hev (by omega))
              rw [hx8, hD2] at HC2
              obtain ⟨S5, hS5⟩ : ∃ S, S4 ++ D2 = S := ⟨_, rfl⟩
              rw [hS5] at HC2
              have l5 : S5.length ≤ 10000006 := by rw [← hS5, List.length_append]; omega
              obtain ⟨z6, hz6⟩ : ∃ z, (z5 || !x8) = z := ⟨_, rfl⟩
              rw [hz6] at HC2
              have HC3 := Lib.hid (fun W (h : AskSt w b mb (msgCells k v g mx q r ev so ns sc ro nr rc) (.slice so ns sc) L S5 z6 W) => h.put2 (ns : Int) (by omega))
              rw [ho2, hD3] at HC3
              obtain ⟨S6, hS6⟩ : ∃ S, S5 ++ D3 = S := ⟨_, rfl⟩
              rw [hS6] at HC3
              have l6 : S6.length ≤ 10000008 := by rw [← hS6, List.length_append]; omega
              obtain ⟨z7, hz7⟩ : ∃ z, (z6 || !o2) = z := ⟨_, rfl⟩
              rw [hz7] at HC3
              have HC4 := Lib.hid (fun W (h : AskSt w b mb (msgCells k v g mx q r ev so ns sc ro nr rc) (.slice so ns sc) L S6 z7 W) => h.addrs (by have := HLN.out.2.1; omega))
              obtain ⟨S7, hS7⟩ : ∃ S, S6 ++ L.flatten = S := ⟨_, rfl⟩
              rw [hS7] at HC4
              have HFIN := Lib.hid (And.intro ho1 (And.intro ho2 (And.intro hx8 (And.intro hD1 (And.intro hD2 (And.intro hD3 (And.intro hz5 (And.intro hz6 hz7))))))))
              have HTX := Lib.hid (show S7 = S3 ++ D1 ++ D2 ++ D3 ++ L.flatten from by rw [← hS7, ← hS6, ← hS5, ← hS4])
              clear ho1 ho2 hx8 hD1 hD2 hD3 hz5 hz6 hz7 hS4 hS5 hS6 hS7 lD1 lD2 lD3 hl3 l4 l5 l6
              go_wp2_with (first | ((with_reducible refine (HC1.out _ HA11.out).mono ?_); rintro e w12 ⟨⟨_, rfl⟩, ha⟩; have HA12 := Lib.hid ha; clear ha x6 f6 x7 f7; obtain ⟨x6, f6⟩ := HA12.out.box.at_ 6 _ rfl) | ((with_reducible refine (HC2.out _ HA12.out).mono ?_); rintro e w13 ⟨⟨_, rfl⟩, ha⟩; have HA13 := Lib.hid ha; clear ha x6 f6; obtain ⟨x7, f7⟩ := HA13.out.box.at_ 7 _ rfl) | ((with_reducible refine (HC3.out _ HA13.out).mono ?_); rintro e w14 ⟨⟨_, rfl⟩, ha⟩; have HA14 := Lib.hid ha; clear ha x7 f7; obtain ⟨x7, f7⟩ := HA14.out.box.at_ 7 _ rfl) | ((with_reducible refine (HC4.out _ HA14.out).mono ?_); rintro e w15 ⟨⟨_, rfl⟩, ha⟩; have HA15 := Lib.hid ha; clear ha x7 f7))
              go_end0
              refine ⟨⟨_, rfl⟩, S7, z7, HA15.out.1, HA15.out.2.2.2, ?_⟩
              have h1 := HFIN.out
              have hz4 := HZ4.out
              have hz3 := HZ3.out
              have hz2 := HQ.out
              have hzz := HZ1.out
              have hss := HSS.out
              have hgb := HGB.out
              have hf := HF.out
              have htx := HTX.out
              have hns := HNS.out
              rw [HV.out]
              obtain ⟨p1, p2, p3, p4, p5, p6, p7, p8, p9⟩ := h1
              obtain ⟨hz2, hE1⟩ := hz2
              subst hns
              exact ask_long g mx q r ev L R F z0 z7 S7 nr hR HZ0X.out hf (by rw [← p9, ← p8, ← p7, ← hz4, ← hz3, ← hz2, ← hzz, p1, p2, p3]) (by rw [htx, hss, ← hE1, ← hgb, p4, p5, p6])
      · have ev3 : (v == 3) = false := beq_eq_false_iff_ne.2 hv
        have HV := Lib.hid hv
        clear hv
        obtain ⟨x0, f0⟩ := HA5.out.box.at_ 0 _ rfl
        obtain ⟨x2, f2⟩ := HA5.out.box.at_ 2 _ rfl
        obtain ⟨x3, f3⟩ := HA5.out.box.at_ 3 _ rfl
        obtain ⟨x4, f4⟩ := HA5.out.box.at_ 4 _ rfl
        obtain ⟨x5, f5⟩ := HA5.out.box.at_ 5 _ rfl
        obtain ⟨x6, f6⟩ := HA5.out.box.at_ 6 _ rfl
        obtain ⟨x7, f7⟩ := HA5.out.box.at_ 7 _ rfl
        obtain ⟨x8, f8⟩ := HA5.out.box.at_ 8 _ rfl
        go_upto_region 22 with fail
        obtain ⟨sb, hsb⟩ : ∃ sb, w5.heap.size = sb := ⟨_, rfl⟩
        obtain ⟨W6, hW6⟩ : ∃ W6, w5.alloc (.cells (msgCells k v g 0 q r ev so ns sc ro nr rc) 27) = W6 := ⟨_, rfl⟩
        have hb6 : Below w5.heap.size w5 W6 := by rw [← hW6]; exact (Below.refl _ _).alloc (Nat.le_refl _) _
        have X6 : CBox W6 sb 27 (msgCells k v g 0 q r ev so ns sc ro nr rc) := by rw [← hW6, ← hsb]; exact CBox.new _ rfl
        have HA6 := Lib.hid (HA5.out.kept hb6)
        rw [hW6, hsb]
        have HX6 := Lib.hid X6
        clear hW6 hsb hb6 X6 x0 f0 x2 f2 x3 f3 x4 f4 x5 f5 x6 f6 x7 f7 x8 f8 x1 f1
        obtain ⟨t8, ht8⟩ : ∃ t, bareB 0 q r ev ns nr = t := ⟨_, rfl⟩
        have HBR := Lib.hid (fun W => bare_any k v 0 r ev g q so ns sc ro nr rc W)
        rw [ht8] at HBR
        obtain ⟨c1, hc1⟩ : ∃ c, (v != 1) = c := ⟨_, rfl⟩
        obtain ⟨c2, hc2⟩ : ∃ c, (v != 2) = c := ⟨_, rfl⟩
        obtain ⟨c3, hc3⟩ : ∃ c, (mx == 0) = c := ⟨_, rfl⟩
        obtain ⟨c4, hc4⟩ : ∃ c, (v == 1) = c := ⟨_, rfl⟩
        obtain ⟨zA, hzA⟩ : ∃ z, (z1 || !t8 || (c1 && c2) || (c4 != c3)) = z := ⟨_, rfl⟩
        have HZA := Lib.hid hzA
        have HCC := Lib.hid (And.intro ht8 (And.intro hc1 (And.intro hc2 (And.intro hc3 hc4))))
        clear hzA ht8
        obtain ⟨s0, sf0⟩ := HX6.out.at_ 0 _ rfl
        obtain ⟨s1, sf1⟩ := HX6.out.at_ 1 _ rfl
        obtain ⟨s2, sf2⟩ := HX6.out.at_ 2 _ rfl
        obtain ⟨s3, sf3⟩ := HX6.out.at_ 3 _ rfl
        obtain ⟨s4, sf4⟩ := HX6.out.at_ 4 _ rfl
        obtain ⟨s5, sf5⟩ := HX6.out.at_ 5 _ rfl
        obtain ⟨s6, sf6⟩ := HX6.out.at_ 6 _ rfl
        obtain ⟨s7, sf7⟩ := HX6.out.at_ 7 _ rfl
        obtain ⟨s8, sf8⟩ := HX6.out.at_ 8 _ rfl
        obtain ⟨x1, f1⟩ := HA6.out.box.at_ 1 _ rfl
        obtain ⟨x3, f3⟩ := HA6.out.box.at_ 3 _ rfl
        obtain ⟨y2, yf2⟩ := HA6.out.flag
        go_cut [] (fun w' => AskSt w b mb (msgCells k v g mx q r ev so ns sc ro nr rc) (.slice so ns sc) L S0 zA w')
        case first =>
          cases z1
          rotate_left
          · go_wp2_with fail
            go_meet
            case rel => rw [← HZA.out]; exact HA6.out.mark _
          · cases t8
            · go_wp2_with ((with_reducible refine (HBR.out _).mono ?_); rintro e w7 ⟨rfl, hb7⟩; have HA7 := Lib.hid (HA6.out.kept hb7); clear hb7 y2 yf2 x1 f1 x3 f3; obtain ⟨y2, yf2⟩ := HA7.out.flag; obtain ⟨x1, f1⟩ := HA7.out.box.at_ 1 _ rfl; obtain ⟨x3, f3⟩ := HA7.out.box.at_ 3 _ rfl)
              go_meet
              case rel => rw [← HZA.out]; exact HA7.out.mark _
            · cases c1
              · go_wp2_with ((with_reducible refine (HBR.out _).mono ?_); rintro e w7 ⟨rfl, hb7⟩; have HA7 := Lib.hid (HA6.out.kept hb7); clear hb7 y2 yf2 x1 f1 x3 f3; obtain ⟨y2, yf2⟩ := HA7.out.flag; obtain ⟨x1, f1⟩ := HA7.out.box.at_ 1 _ rfl; obtain ⟨x3, f3⟩ := HA7.out.box.at_ 3 _ rfl)
                go_meet
                case rel => rw [← HZA.out]; exact HA7.out.mark _
              · cases c2
                · go_wp2_with ((with_reducible refine (HBR.out _).mono ?_); rintro e w7 ⟨rfl, hb7⟩; have HA7 := Lib.hid (HA6.out.kept hb7); clear hb7 y2 yf2 x1 f1 x3 f3; obtain ⟨y2, yf2⟩ := HA7.out.flag; obtain ⟨x1, f1⟩ := HA7.out.box.at_ 1 _ rfl; obtain ⟨x3, f3⟩ := HA7.out.box.at_ 3 _ rfl)
                  go_meet
                  case rel => rw [← HZA.out]; exact HA7.out.mark _
                · go_wp2_with ((with_reducible refine (HBR.out _).mono ?_); rintro e w7 ⟨rfl, hb7⟩; have HA7 := Lib.hid (HA6.out.kept hb7); clear hb7 y2 yf2 x1 f1 x3 f3; obtain ⟨y2, yf2⟩ := HA7.out.flag; obtain ⟨x1, f1⟩ := HA7.out.box.at_ 1 _ rfl; obtain ⟨x3, f3⟩ := HA7.out.box.at_ 3 _ rfl)
                  go_meet
                  case rel => rw [← HZA.out]; exact HA7.out.mark _
        case rest =>
          have HA8 := Lib.hid hcut
          clear hcut s0 sf0 s1 sf1 s2 sf2 s3 sf3 s4 sf4 s5 sf5 s6 sf6 s7 sf7 s8 sf8 x1 f1 x3 f3 y2 yf2
          obtain ⟨x3, f3⟩ := HA8.out.box.at_ 3 _ rfl
          obtain ⟨o1, ho1⟩ : ∃ o, okPut mx 1 = o := ⟨_, rfl⟩
          obtain ⟨D1, hD1⟩ : ∃ D, putS mx 1 = D := ⟨_, rfl⟩
          have lD1 : D1.length ≤ 1 := by rw [← hD1]; exact putS_len _ _
          have HC1 := Lib.hid (fun W (h : AskSt w b mb (msgCells k v g mx q r ev so ns sc ro nr rc) (.slice so ns sc) L S0 zA W) => h.put1 mx (by rw [HS0.out.1]; decide))
          rw [ho1, hD1] at HC1
          obtain ⟨S4, hS4⟩ : ∃ S, S0 ++ D1 = S := ⟨_, rfl⟩
          rw [hS4] at HC1
          have l4 : S4.length ≤ 2 := by rw [← hS4, List.length_append, HS0.out.1]; omega
          obtain ⟨z5, hz5⟩ : ∃ z, (zA || !o1) = z := ⟨_, rfl⟩
          rw [hz5] at HC1
          have HC2 := Lib.hid (fun W (h : AskSt w b mb (msgCells k v g mx q r ev so ns sc ro nr rc) (.slice so ns sc) L S4 z5 W) => h.put2 0 (by omega))
          obtain ⟨S5, hS5⟩ : ∃ S, S4 ++ putS 0 2 = S := ⟨_, rfl⟩
          rw [hS5, show okPut 0 2 = true from rfl, Bool.not_true, Bool.or_false] at HC2
          have l5 : S5.length ≤ 4 := by rw [← hS5, List.length_append]; have := putS_len 0 2; omega
          have HC3 := Lib.hid (fun W (h : AskSt w b mb (msgCells k v g mx q r ev so ns sc ro nr rc) (.slice so ns sc) L S5 z5 W) => h.group GB (Nat.le_trans HGL.out (by decide)) (by have := HGL.out; omega))
          obtain ⟨S6, hS6⟩ : ∃ S, S5 ++ GB = S := ⟨_, rfl⟩
          rw [hS6] at HC3
          have HTX := Lib.hid (show S6 = [17] ++ D1 ++ [0, 0] ++ GB from by rw [← hS6, ← hS5, ← hS4, HS0.out.2]; rfl)
          have HFIN := Lib.hid (And.intro ho1 (And.intro hD1 hz5))
          clear ho1 hD1 hz5 hS4 hS5 hS6 lD1 l4 l5 hc1 hc2 hc3 hc4
          go_wp2_with (first | ((with_reducible refine (HC1.out _ HA8.out).mono ?_); rintro e w12 ⟨⟨_, rfl⟩, ha⟩; have HA12 := Lib.hid ha; clear ha x3 f3) | ((with_reducible refine (HC2.out _ HA12.out).mono ?_); rintro e w13 ⟨⟨_, rfl⟩, ha⟩; have HA13 := Lib.hid ha; clear ha) | ((with_reducible refine (HC3.out _ HA13.out).mono ?_); rintro e w14 ⟨⟨_, rfl⟩, ha⟩; have HA14 := Lib.hid ha; clear ha))
          go_end0
          refine ⟨⟨_, rfl⟩, S6, z5, HA14.out.1, HA14.out.2.2.2, ?_⟩
          have hzz := HZ1.out
          have hgb := HGB.out
          have htx := HTX.out
          have hns := HNS.out
          have hza := HZA.out
          obtain ⟨p1, p2, p3⟩ := HFIN.out
          obtain ⟨q1, q2, q3, q4, q5⟩ := HCC.out
          subst hns
          exact ask_short v g mx q r ev L R z0 z5 S6 nr hR HV.out HZ0X.out (by rw [← p3, ← hza, ← hzz, p1, q1, q2, q3, q4, q5]) (by rw [htx, p2, hgb])
end Go.Proofs.Ythkogdgfkhhleaa
