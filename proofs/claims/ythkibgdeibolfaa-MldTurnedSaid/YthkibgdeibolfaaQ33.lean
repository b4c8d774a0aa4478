/- Texts joined into one file: JBack, JLawBack, JLawTurn, MCut, MBack. -/
import Derived.Test.YthkibgdeibolfaaQ13
import Derived.Test.YthkibgdeibolfaaQ12
import Derived.Test.YthkibgdeibolfaaQ14
import Derived.Test.YthkibgdeibolfaaQ09
import Derived.Test.YthkibgdeibolfaaQ11
import Derived.Test.YthkibgdeibolfaaQ03
import Derived.Laws.AppendOwn
import Derived.Test.YthkibgdeibolfaaQ26

/- Plain laws: what was encoded is decoded; records behind one another; a message turned, freed. No program in sight. -/
namespace Go.Proofs.Ythkibgdeibolfaa
set_option maxRecDepth 20000

theorem ofN_one (n : Nat) : ∃ b, ofN n 1 = [b] := by
  have h := ofN_length 1 n
  match hq : ofN n 1, h with
  | [b], _ => exact ⟨b, rfl⟩
theorem ofN_two (n : Nat) : ∃ a b, ofN n 2 = [a, b] := by
  have h := ofN_length 2 n
  match hq : ofN n 2, h with
  | [a, b], _ => exact ⟨a, b, rfl⟩
theorem ofN1_toNat (n : Nat) (h : n < 256) (b : UInt8) (hb : ofN n 1 = [b]) : b.toNat = n := by
  have := big_ofN_lt 1 n (by omega)
  rw [hb] at this
  simpa [big] using this
/-- a message with its sum in it -/
theorem fill_cons (x y p q : UInt8) (rest : Str) : ∃ c d, fillS [] (x :: y :: p :: q :: rest) 2 = x :: y :: c :: d :: rest := by
  obtain ⟨a, b, h⟩ := ofN_two (psum ([] ++ (x :: y :: p :: q :: rest).take 2 ++ [0, 0] ++ (x :: y :: p :: q :: rest).drop (2 + 2)))
  refine ⟨a, b, ?_⟩
  unfold fillS
  rw [h]
  rfl
theorem fill_right (x y p q : UInt8) (rest : Str) : psum (fillS [] (x :: y :: p :: q :: rest) 2) = 0 := by
  have := psum_fill [] (x :: y :: p :: q :: rest) 2 rfl rfl (by simp)
  simpa using this

theorem flat_parts (size : Nat) : ∀ (L : List Str), (∀ a ∈ L, a.length = size) → ∀ (pre post : Str) (i : Nat), pre.length = i → (List.range L.length).map (fun k => ((pre ++ L.flatten ++ post).drop (i + k * size)).take size) = L := by
  intro L hL pre post i hi
  apply List.ext_getElem
  · simp
  · intro k h1 h2
    simp only [List.getElem_map, List.getElem_range]
    have hk : k < L.length := h2
    have hsplit : L = L.take k ++ L[k] :: L.drop (k + 1) := by rw [List.getElem_cons_drop, List.take_append_drop]
    have hlen : (L.take k).flatten.length = k * size := by
      have : ∀ (M : List Str), (∀ a ∈ M, a.length = size) → M.flatten.length = M.length * size := by
        intro M hM
        induction M with
        | nil => simp
        | cons a M ih => rw [List.flatten_cons, List.length_append, ih (fun b hb => hM b (List.mem_cons_of_mem _ hb)), hM a (List.mem_cons_self ..), List.length_cons, Nat.succ_mul]; omega
      rw [this _ (fun a ha => hL a (List.mem_of_mem_take ha)), List.length_take, Nat.min_eq_left (Nat.le_of_lt hk)]
    have e : pre ++ L.flatten ++ post = (pre ++ (L.take k).flatten) ++ (L[k] ++ ((L.drop (k + 1)).flatten ++ post)) := by
      conv => lhs; rw [hsplit]
      simp only [List.flatten_append, List.flatten_cons, List.append_assoc]
    rw [e, List.drop_append_of_le_length (by rw [List.length_append, hi, hlen]; exact Nat.le_refl _), List.drop_of_length_le (by rw [List.length_append, hi, hlen]; exact Nat.le_refl _), List.nil_append, List.take_append_of_le_length (by rw [hL _ (List.getElem_mem hk)]; exact Nat.le_refl _), List.take_of_length_le (by rw [hL _ (List.getElem_mem hk)]; exact Nat.le_refl _)]
theorem srcs_flat (size : Nat) (L : List Str) (hL : ∀ a ∈ L, a.length = size) (pre post : Str) (i : Nat) (hi : pre.length = i) : srcs (pre ++ L.flatten ++ post) i L.length size = L := flat_parts size L hL pre post i hi

theorem flat_size (size : Nat) (M : List Str) (hM : ∀ a ∈ M, a.length = size) : M.flatten.length = M.length * size := by
  induction M with
  | nil => simp
  | cons a M ih => rw [List.flatten_cons, List.length_append, ih (fun b hb => hM b (List.mem_cons_of_mem _ hb)), hM a (List.mem_cons_self ..), List.length_cons, Nat.succ_mul]; omega
/-- a record's text, read -/
theorem rec_text (size n : Nat) (k a h1 h2 : UInt8) (G X t : Str) (L : List Str) (l : List Rec) (hG : G.length = size) (hg : grp G size = true) (hL : ∀ x ∈ L, x.length = size) (hn : h1.toNat * 256 + h2.toNat = L.length) (h60 : L.length ≤ 60) (hX : X.length = 4 * a.toNat) :
    precA size (n + 1) (k :: a :: h1 :: h2 :: (G ++ L.flatten ++ X ++ t)) l = precA size n t (if knownK k.toNat then l ++ [((k.toNat : Int), G, L)] else l) := by
  obtain ⟨s, hs⟩ : ∃ s, s = k :: a :: h1 :: h2 :: (G ++ L.flatten ++ X ++ t) := ⟨_, rfl⟩
  rw [← hs]
  have hF := flat_size size L hL
  have hlen : s.length = 4 + size + L.length * size + 4 * a.toNat + t.length := by
    rw [hs]; simp only [List.length_cons, List.length_append, hG, hF, hX]; omega
  have hm : many s = L.length := by rw [hs]; unfold many numAt; simp [big]; omega
  have h1' : (s.getD 1 0).toNat = a.toNat := by rw [hs]; rfl
  have h0' : (s.getD 0 0).toNat = k.toNat := by rw [hs]; rfl
  have hw : whole s size = 4 + size + L.length * size + 4 * a.toNat := by unfold whole; rw [hm, h1']
  have hd : (s.drop 4).take size = G := by
    rw [hs]
    show (G ++ L.flatten ++ X ++ t).take size = G
    rw [List.append_assoc, List.append_assoc, List.take_append_of_le_length (by omega), List.take_of_length_le (by omega)]
  have hsr : srcs s (4 + size) (many s) size = L := by
    rw [hm]
    have e : s = (k :: a :: h1 :: h2 :: G) ++ L.flatten ++ (X ++ t) := by rw [hs]; simp [List.append_assoc]
    rw [e]
    exact srcs_flat size L hL _ _ _ (by simp only [List.length_cons, hG]; omega)
  have hr : recE s size = 0 := by
    unfold recE
    rw [if_neg (by omega), if_neg (by rw [hw]; omega), if_neg (by rw [hm, hd, hg]; intro h; rcases h with h | h; omega; cases h)]
  have hdr : s.drop (whole s size) = t := by
    have e : s = (k :: a :: h1 :: h2 :: (G ++ L.flatten ++ X)) ++ t := by rw [hs]; simp [List.append_assoc]
    have e2 : (k :: a :: h1 :: h2 :: (G ++ L.flatten ++ X)).length = whole s size := by
      rw [hw]; simp only [List.length_cons, List.length_append, hG, hF, hX]; omega
    rw [← e2, e, List.drop_left]
  rw [precA_step, if_pos hr, hdr, h0']
  unfold recOf
  rw [h0', hd, hsr]
theorem recB_text (size : Nat) (r : Rec) (h : recOk size r = true) : ∃ k h1 h2 : UInt8, recB r = k :: 0 :: h1 :: h2 :: (r.2.1 ++ r.2.2.flatten) ∧ (k.toNat : Int) = r.1 ∧ h1.toNat * 256 + h2.toNat = r.2.2.length ∧ knownK k.toNat = true := by
  obtain ⟨h1, h2, h3, h4, h5⟩ := recOk_parts h
  obtain ⟨k, hk⟩ := ofN_one r.1.toNat
  obtain ⟨a, b, hab⟩ := ofN_two r.2.2.length
  have hkn := ofN1_toNat r.1.toNat (by omega) k hk
  have hb := big_ofN_lt 2 r.2.2.length (by omega)
  rw [hab] at hb
  refine ⟨k, a, b, ?_, by rw [hkn]; omega, by simpa [big] using hb, ?_⟩
  · unfold recB; rw [hk, hab]; simp
  · unfold knownK; rw [hkn, decide_eq_true (by omega), decide_eq_true (by omega)]; rfl
theorem precA_body (size : Nat) : ∀ (R : List Rec), (∀ r ∈ R, recOk size r = true) → ∀ (n : Nat) (t : Str) (l : List Rec), precA size (R.length + n) (bodyB R ++ t) l = precA size n t (l ++ R)
  | [], _, n, t, l => by simp [bodyB]
  | r :: R, h, n, t, l => by
    obtain ⟨h1, h2, h3, h4, h5⟩ := recOk_parts (h r (List.mem_cons_self ..))
    obtain ⟨k, a, b, e, hk, hn, hkn⟩ := recB_text size r (h r (List.mem_cons_self ..))
    have e1 : bodyB (r :: R) ++ t = k :: 0 :: a :: b :: (r.2.1 ++ r.2.2.flatten ++ [] ++ (bodyB R ++ t)) := by
      unfold bodyB
      rw [List.flatMap_cons, e]
      simp [List.append_assoc]
    rw [e1, show (r :: R).length + n = (R.length + n) + 1 from by simp; omega, rec_text size (R.length + n) k 0 a b r.2.1 [] (bodyB R ++ t) r.2.2 l h2 h3 h5 hn h4 rfl, hkn, if_pos rfl, hk, precA_body size R (fun x hx => h x (List.mem_cons_of_mem _ hx)) n t]
    simp [List.append_assoc]
/-- records of an unknown kind, passed over -/
def oddB (k : UInt8) : Str := [k, 1, 0, 1] ++ [224, 1, 2, 3] ++ [97, 98, 99, 100] ++ [119, 120, 121, 122]
theorem precs_odd (k : UInt8) (hk : knownK k.toNat = false) (R : List Rec) (hR : R.length ≤ 14) (h : ∀ r ∈ R, recOk 4 r = true) : precs (oddB k ++ bodyB R ++ oddB k) ((R.length : Int) + 2) 4 = (0, R) := by
  have h1 : precs (oddB k ++ bodyB R ++ oddB k) ((R.length : Int) + 2) 4 = precA 4 (R.length + 2) (oddB k ++ bodyB R ++ oddB k) [] := by
    unfold precs
    rw [if_neg (by rintro (h | h); omega; cases h), if_neg (by omega), show ((R.length : Int) + 2).toNat = R.length + 2 from by omega, show (4 : Int).toNat = 4 from rfl]
  have hg : grp [224, 1, 2, 3] 4 = true := by decide
  have e1 : oddB k ++ bodyB R ++ oddB k = k :: 1 :: 0 :: 1 :: ([224, 1, 2, 3] ++ [[97, 98, 99, 100]].flatten ++ [119, 120, 121, 122] ++ (bodyB R ++ oddB k)) := by unfold oddB; simp
  have e2 : oddB k = k :: 1 :: 0 :: 1 :: ([224, 1, 2, 3] ++ [[97, 98, 99, 100]].flatten ++ [119, 120, 121, 122] ++ []) := rfl
  rw [h1, e1, show R.length + 2 = (R.length + 1) + 1 from rfl, rec_text 4 (R.length + 1) k 1 0 1 [224, 1, 2, 3] [119, 120, 121, 122] (bodyB R ++ oddB k) [[97, 98, 99, 100]] [] rfl hg (by simp) rfl (by decide) rfl, hk, if_neg (by decide), precA_body 4 R h 1 (oddB k) [], e2, rec_text 4 0 k 1 0 1 [224, 1, 2, 3] [119, 120, 121, 122] [] [[97, 98, 99, 100]] ([] ++ R) rfl hg (by simp) rfl (by decide) rfl, hk, if_neg (by decide), List.nil_append]
  rfl

/-! ### what was encoded is decoded -/
theorem grp_ne {g : Str} (h : grp g 4 = true) : g.length = 4 ∧ g ≠ [] ∧ g ≠ nobody4 := by
  unfold grp at h
  simp only [Bool.and_eq_true, decide_eq_true_eq] at h
  refine ⟨h.1, ?_, ?_⟩
  · rintro rfl; simp at h
  · rintro rfl; exact absurd h.2 (by decide)
theorem gOr_back {g : Str} (h : (decide (g = []) || grp g 4) = true) : (if gOr g = nobody4 then [] else gOr g) = g ∧ (gOr g).length = 4 := by
  unfold gOr
  by_cases hz : g = []
  · rw [if_pos hz, if_pos rfl, hz]; exact ⟨rfl, rfl⟩
  · rw [if_neg hz]
    rw [decide_eq_false hz, Bool.false_or] at h
    obtain ⟨h1, _, h3⟩ := grp_ne h
    exact ⟨if_neg h3, h1⟩
theorem pdec_q (y c d : UInt8) (rest : Str) (hp : psum (17 :: y :: c :: d :: rest) = 0) (hr : 4 ≤ rest.length) : pdec (17 :: y :: c :: d :: rest) = pquery (17 :: y :: c :: d :: rest) := by
  rw [pdec_kind _ 17 (by simp; omega) hp rfl, if_pos rfl]
theorem back_short (v : Int) (g : Str) (mx : Int) (hv : (v = 1 ∧ mx = 0) ∨ (v = 2 ∧ 1 ≤ mx ∧ mx ≤ 255)) (hg : (decide (g = []) || grp g 4) = true) (y c d : UInt8) (hy : (y.toNat : Int) = mx) (hp : psum (17 :: y :: c :: d :: gOr g) = 0) :
    pdec (17 :: y :: c :: d :: gOr g) = (0, ⟨1, v, g, mx, false, 0, 0, [], []⟩) := by
  obtain ⟨hb, hl⟩ := gOr_back hg
  rw [pdec_q y c d (gOr g) hp (by omega)]
  rw [pquery_short (17 :: y :: c :: d :: gOr g) (gOr g) g y.toNat (by simp [hl]) (by show (gOr g).take 4 = gOr g; rw [List.take_of_length_le (by omega)]) hb.symm rfl, if_neg]
  · rcases hv with ⟨rfl, rfl⟩ | ⟨rfl, h1, h2⟩
    · rw [if_pos (by omega)]; rw [hy]
    · rw [if_neg (by omega)]; rw [hy]
  · rintro ⟨h1, h2⟩
    rw [decide_eq_false h1, Bool.false_or, h2] at hg
    cases hg
theorem back_long (g : Str) (mx : Int) (q : Bool) (r ev : Int) (L : List Str) (hg : (decide (g = []) || grp g 4) = true) (hx : exact8 mx = true) (he : exact8 ev = true) (hr : 0 ≤ r ∧ r ≤ 7) (hL : L.length ≤ 60 ∧ ∀ a ∈ L, a.length = 4) (hgl : g ≠ [] ∨ L = [])
    (y c d f e n1 n2 : UInt8) (hy : y.toNat = pencode mx.toNat 4) (hf : f.toNat = r.toNat + if q then 8 else 0) (hee : e.toNat = pencode ev.toNat 4) (hn : n1.toNat * 256 + n2.toNat = L.length)
    (hp : psum (17 :: y :: c :: d :: (gOr g ++ (f :: e :: n1 :: n2 :: L.flatten))) = 0) :
    pdec (17 :: y :: c :: d :: (gOr g ++ (f :: e :: n1 :: n2 :: L.flatten))) = (0, ⟨1, 3, g, mx, q, r, ev, L, []⟩) := by
  obtain ⟨hb, hl⟩ := gOr_back hg
  obtain ⟨s, hs⟩ : ∃ s, s = 17 :: y :: c :: d :: (gOr g ++ (f :: e :: n1 :: n2 :: L.flatten)) := ⟨_, rfl⟩
  obtain ⟨G, hG⟩ : ∃ G, gOr g = G := ⟨_, rfl⟩
  rw [pdec_q y c d _ hp (by rw [List.length_append, hl]; omega)]
  rw [hG] at hb hl hs ⊢
  rw [← hs]
  match G, hl with
  | [a0, a1, a2, a3], _ =>
    have hF := flat_size 4 L hL.2
    have hsl : s.length = 12 + L.length * 4 := by rw [hs]; simp [hF]; omega
    have s1 : s.getD 1 0 = y := by rw [hs]; rfl
    have s8 : s.getD 8 0 = f := by rw [hs]; rfl
    have s9 : s.getD 9 0 = e := by rw [hs]; rfl
    have hnum : numAt s 10 2 = L.length := by rw [hs]; unfold numAt; simp [big]; omega
    have hE : longE s = 0 := by unfold longE; rw [if_neg (by omega), hnum, if_neg (by omega), if_neg (by omega)]
    have hsr : srcs s 12 (numAt s 10 2) 4 = L := by
      rw [hnum]
      have e1 : s = [17, y, c, d, a0, a1, a2, a3, f, e, n1, n2] ++ L.flatten ++ [] := by rw [hs]; simp
      rw [e1]
      exact srcs_flat 4 L hL.2 _ _ _ rfl
    rw [pquery_long s [a0, a1, a2, a3] g (by omega) (by rw [hs]; rfl) hb.symm, if_neg (by rw [hE]; simp), if_neg, hsr, s1, s9, hy, hee]
    · have k1 : pdecode (pencode mx.toNat 4) 4 = mx.toNat ∧ 0 ≤ mx := by unfold exact8 at hx; simp at hx; exact ⟨hx.2, hx.1⟩
      have k2 : pdecode (pencode ev.toNat 4) 4 = ev.toNat ∧ 0 ≤ ev := by unfold exact8 at he; simp at he; exact ⟨he.2, he.1⟩
      have k3 : flagQ s = q := by
        unfold flagQ; rw [s8, hf]
        cases q
        · exact decide_eq_false (by simp; omega)
        · exact decide_eq_true (by simp; omega)
      have k4 : ((flagR s : Nat) : Int) = r := by
        unfold flagR; rw [s8, hf]
        cases q <;> simp <;> omega
      rw [k3, k4, k1.1, k2.1, Int.toNat_of_nonneg k1.2, Int.toNat_of_nonneg k2.2]
    · rintro (⟨h1, h2⟩ | ⟨h1, h2⟩)
      · rw [decide_eq_false h1, Bool.false_or, h2] at hg
        cases hg
      · rw [hnum] at h2
        rcases hgl with h | h
        · exact h h1
        · rw [h] at h2; exact absurd h2 (by simp)
theorem back_plain (k v : Int) (g : Str) (x y c d : UInt8) (hk : (x = 23 ∧ k = 3 ∧ v = 2) ∨ (x = 18 ∧ k = 2 ∧ v = 1) ∨ (x = 22 ∧ k = 2 ∧ v = 2)) (hg : grp g 4 = true) (hp : psum (x :: y :: c :: d :: g) = 0) :
    pdec (x :: y :: c :: d :: g) = (0, ⟨k, v, g, 0, false, 0, 0, [], []⟩) := by
  obtain ⟨hl, h1, _⟩ := grp_ne hg
  have hd : ((x :: y :: c :: d :: g).drop 4).take 4 = g := by show g.take 4 = g; rw [List.take_of_length_le (by omega)]
  rcases hk with ⟨rfl, rfl, rfl⟩ | ⟨rfl, rfl, rfl⟩ | ⟨rfl, rfl, rfl⟩
  · rw [pdec_kind _ 23 (by simp; omega) hp rfl, if_neg (by decide), if_neg (by decide), if_neg (by decide), hd, if_neg (by rw [hg]; decide)]; rfl
  · rw [pdec_kind _ 18 (by simp; omega) hp rfl, if_neg (by decide), if_neg (by decide), if_neg (by decide), hd, if_neg (by rw [hg]; decide)]; rfl
  · rw [pdec_kind _ 22 (by simp; omega) hp rfl, if_neg (by decide), if_neg (by decide), if_neg (by decide), hd, if_neg (by rw [hg]; decide)]; rfl
theorem back_recs (R : List Rec) (y c d z1 z2 n1 n2 : UInt8) (hok : bodyOk R 4 = true) (hn : n1.toNat * 256 + n2.toNat = R.length) (hp : psum (34 :: y :: c :: d :: z1 :: z2 :: n1 :: n2 :: bodyB R) = 0) :
    pdec (34 :: y :: c :: d :: z1 :: z2 :: n1 :: n2 :: bodyB R) = (0, ⟨2, 3, [], 0, false, 0, 0, [], R⟩) := by
  unfold bodyOk at hok
  simp only [Bool.and_eq_true, decide_eq_true_eq, List.all_eq_true] at hok
  have hnum : numAt (34 :: y :: c :: d :: z1 :: z2 :: n1 :: n2 :: bodyB R) 6 2 = R.length := by unfold numAt; simp [big]; omega
  have hpr : precs (bodyB R) (R.length : Int) 4 = (0, R) := by
    unfold precs
    rw [if_neg (by rintro (h | h); omega; cases h), if_neg (by omega), Int.toNat_natCast, show (4 : Int).toNat = 4 from rfl]
    have := precA_body 4 R hok.2 0 [] []
    rw [Nat.add_zero, List.append_nil, List.nil_append] at this
    rw [this]
    rfl
  rw [pdec_kind _ 34 (by simp) hp rfl, if_neg (by decide), if_pos rfl, hnum]
  rw [show (34 :: y :: c :: d :: z1 :: z2 :: n1 :: n2 :: bodyB R).drop 8 = bodyB R from rfl, hpr]
  rfl
/-- the shape of a message's bytes, and what they decode to whatever stands at the sum (and, of what is no query, at the second byte) -/
theorem back_shape (m : Msg) (h : mayM m = true) : ∃ (x y : UInt8) (rest : Str), bytesM m = x :: y :: 0 :: 0 :: rest ∧ 4 ≤ rest.length ∧
    ∀ y' c d : UInt8, (m.kind = 1 → y' = y) → psum (x :: y' :: c :: d :: rest) = 0 → pdec (x :: y' :: c :: d :: rest) = (0, m) := by
  obtain ⟨k, v, g, mx, q, r, ev, L, R⟩ := m
  by_cases hk : k = 1
  · subst hk
    have h' := h
    unfold mayM at h'
    rw [if_pos rfl] at h'
    simp only [Bool.and_eq_true] at h'
    obtain ⟨⟨hg, hR⟩, h'⟩ := h'
    obtain rfl : R = [] := by simpa using hR
    obtain ⟨hb, hl⟩ := gOr_back hg
    by_cases hv : v = 3
    · subst hv
      rw [if_pos rfl] at h'
      simp only [Bool.and_eq_true, decide_eq_true_eq] at h'
      obtain ⟨⟨⟨⟨⟨h1, h2⟩, h3⟩, h4⟩, h5⟩, h6⟩ := h'
      unfold sized at h5
      simp only [Bool.and_eq_true, decide_eq_true_eq, List.all_eq_true] at h5
      have hp1 := (pencode_spec 4 (.inl rfl) mx.toNat).1
      have hp2 := (pencode_spec 4 (.inl rfl) ev.toNat).1
      obtain ⟨y, hy⟩ := ofN_one (pencode mx.toNat 4)
      obtain ⟨f, hf⟩ := ofN_one (r.toNat + if q then 8 else 0)
      obtain ⟨e, he⟩ := ofN_one (pencode ev.toNat 4)
      obtain ⟨n1, n2, hn⟩ := ofN_two L.length
      have hnn := big_ofN_lt 2 L.length (by omega)
      rw [hn] at hnn
      have hq : (r.toNat + if q then 8 else 0) < 256 := by cases q <;> simp <;> omega
      refine ⟨17, y, gOr g ++ (f :: e :: n1 :: n2 :: L.flatten), ?_, by rw [List.length_append, hl]; omega, fun y' c d hy' hp => ?_⟩
      · have : bytesM ⟨1, 3, g, mx, q, r, ev, L, []⟩ = [17] ++ ofN (pencode mx.toNat 4) 1 ++ [0, 0] ++ gOr g ++ ofN (r.toNat + if q then 8 else 0) 1 ++ ofN (pencode ev.toNat 4) 1 ++ ofN L.length 2 ++ L.flatten := rfl
        rw [this, hy, hf, he, hn]
        simp [List.append_assoc]
      · obtain rfl := hy' rfl
        exact back_long g mx q r ev L hg h1 h2 ⟨h3, h4⟩ h5 (by simpa using h6) y' c d f e n1 n2 (ofN1_toNat _ (by omega) _ hy) (ofN1_toNat _ hq _ hf) (ofN1_toNat _ (by omega) _ he) (by simpa [big] using hnn) hp
    · rw [if_neg hv] at h'
      simp only [Bool.and_eq_true] at h'
      obtain ⟨hbr, h2⟩ := h'
      simp only [Bool.or_eq_true, Bool.and_eq_true, decide_eq_true_eq] at h2
      unfold bare at hbr
      simp only [Bool.and_eq_true, decide_eq_true_eq] at hbr
      obtain ⟨⟨⟨⟨⟨_, b2⟩, b3⟩, b4⟩, b5⟩, _⟩ := hbr
      obtain rfl : q = false := by simpa using b2
      subst b3 b4 b5
      obtain ⟨y, hy⟩ := ofN_one mx.toNat
      have hyn := ofN1_toNat mx.toNat (by omega) y hy
      refine ⟨17, y, gOr g, ?_, by omega, fun y' c d hy' hp => ?_⟩
      · have : bytesM ⟨1, v, g, mx, false, 0, 0, [], []⟩ = [17] ++ ofN mx.toNat 1 ++ [0, 0] ++ gOr g := by unfold bytesM; rw [if_pos rfl, if_pos (by dsimp only; omega)]; rfl
        rw [this, hy]
        simp
      · obtain rfl := hy' rfl
        exact back_short v g mx (by omega) hg y' c d (by omega) hp
  · have h' := h
    unfold mayM at h'
    rw [if_neg hk] at h'
    by_cases h23 : k = 2 ∧ v = 3
    · obtain ⟨rfl, rfl⟩ := h23
      rw [if_pos ⟨rfl, rfl⟩] at h'
      simp only [Bool.and_eq_true, decide_eq_true_eq] at h'
      obtain ⟨⟨hg, hok⟩, hbr⟩ := h'
      unfold bare at hbr
      simp only [Bool.and_eq_true, decide_eq_true_eq] at hbr
      obtain ⟨⟨⟨⟨⟨b1, b2⟩, b3⟩, b4⟩, b5⟩, _⟩ := hbr
      obtain rfl : q = false := by simpa using b2
      subst hg b1 b3 b4 b5
      have h30 : R.length ≤ 30 := by unfold bodyOk at hok; simp only [Bool.and_eq_true, decide_eq_true_eq] at hok; exact hok.1.2
      obtain ⟨n1, n2, hn⟩ := ofN_two R.length
      have hnn := big_ofN_lt 2 R.length (by omega)
      rw [hn] at hnn
      refine ⟨34, 0, 0 :: 0 :: n1 :: n2 :: bodyB R, ?_, by simp, fun y' c d _ hp => back_recs R y' c d 0 0 n1 n2 hok (by simpa [big] using hnn) hp⟩
      have : bytesM ⟨2, 3, [], 0, false, 0, 0, [], R⟩ = [34, 0, 0, 0, 0, 0] ++ ofN R.length 2 ++ bodyB R := rfl
      rw [this, hn]
      simp
    · rw [if_neg h23] at h'
      simp only [Bool.and_eq_true] at h'
      obtain ⟨⟨hc, hg⟩, hbr⟩ := h'
      simp only [Bool.or_eq_true, Bool.and_eq_true, decide_eq_true_eq] at hc
      unfold bare at hbr
      simp only [Bool.and_eq_true, decide_eq_true_eq] at hbr
      obtain ⟨⟨⟨⟨⟨b1, b2⟩, b3⟩, b4⟩, b5⟩, b6⟩ := hbr
      obtain rfl : q = false := by simpa using b2
      subst b1 b3 b4 b5 b6
      obtain ⟨hl, hne, _⟩ := grp_ne hg
      have key : ∀ x : UInt8, ((x = 23 ∧ k = 3 ∧ v = 2) ∨ (x = 18 ∧ k = 2 ∧ v = 1) ∨ (x = 22 ∧ k = 2 ∧ v = 2)) → bytesM ⟨k, v, g, 0, false, 0, 0, [], []⟩ = x :: 0 :: 0 :: 0 :: g := by
        intro x hx
        unfold bytesM grpB
        rcases hx with ⟨rfl, rfl, rfl⟩ | ⟨rfl, rfl, rfl⟩ | ⟨rfl, rfl, rfl⟩ <;> simp [hne]
      have hx : ∃ x : UInt8, (x = 23 ∧ k = 3 ∧ v = 2) ∨ (x = 18 ∧ k = 2 ∧ v = 1) ∨ (x = 22 ∧ k = 2 ∧ v = 2) := by
        rcases hc with ⟨h2, h1 | h1⟩ | ⟨h3, h2⟩
        · exact ⟨18, .inr (.inl ⟨rfl, h2, h1⟩)⟩
        · exact ⟨22, .inr (.inr ⟨rfl, h2, h1⟩)⟩
        · exact ⟨23, .inl ⟨rfl, h3, h2⟩⟩
      obtain ⟨x, hx⟩ := hx
      exact ⟨x, 0, g, key x hx, by omega, fun y' c d _ hp => back_plain k v g x y' c d hx hg hp⟩
theorem back (m : Msg) (h : mayM m = true) : pdec (fillS [] (bytesM m) 2) = (0, m) ∧ psum (fillS [] (bytesM m) 2) = 0 := by
  obtain ⟨x, y, rest, hb, _, hd⟩ := back_shape m h
  have hp := fill_right x y 0 0 rest
  obtain ⟨c, d, hf⟩ := fill_cons x y 0 0 rest
  rw [hb]
  rw [hf] at hp ⊢
  exact ⟨hd y c d (fun _ => rfl) hp, hp⟩
/-- the second byte is free -/
theorem free (m : Msg) (h : mayM m = true) (hk : m.kind ≠ 1) (y : UInt8) : ∃ (x y0 c d : UInt8) (rest : Str), fillS [] (bytesM m) 2 = x :: y0 :: c :: d :: rest ∧ 4 ≤ rest.length ∧ pdec (fillS [] (x :: y :: c :: d :: rest) 2) = (0, m) := by
  obtain ⟨x, y0, rest, hb, hl, hd⟩ := back_shape m h
  obtain ⟨c, d, hf⟩ := fill_cons x y0 0 0 rest
  have hp := fill_right x y c d rest
  obtain ⟨c', d', hf'⟩ := fill_cons x y c d rest
  refine ⟨x, y0, c, d, rest, by rw [hb]; exact hf, hl, ?_⟩
  rw [hf'] at hp ⊢
  exact hd y c' d' (fun e => absurd e hk) hp
end Go.Proofs.Ythkibgdeibolfaa

/- The walk of IgmpBack. -/
namespace Go.Proofs.Ythkibgdeibolfaa
open Go.RowKit Go.Sort
set_option maxRecDepth 20000
set_option maxRecDepth 20000
attribute [local go_sem] bstr_size bstr_extract bstr_toList bstr_get

theorem fill_len (m : Msg) (h : mayM m = true) : (fillS [] (bytesM m) 2).length ≤ 40000 ∧ 8 ≤ (fillS [] (bytesM m) 2).length := by
  have hl := bytesM_len m h
  rw [fillS_length [] _ 2 (by omega)]
  exact ⟨hl.2, hl.1⟩
end Go.Proofs.Ythkibgdeibolfaa

/- The walk of IgmpTurned. -/
namespace Go.Proofs.Ythkibgdeibolfaa
open Go.RowKit Go.Sort
set_option maxRecDepth 20000
set_option maxRecDepth 20000
attribute [local go_sem] bstr_size bstr_extract bstr_toList bstr_get

theorem at_mended (z : Int) (hz : -2 ^ 63 ≤ z ∧ z < 2 ^ 63) : ∃ a : Int, 0 ≤ a ∧ a < 2 ^ 63 ∧ ((decide (z < 0) = true ∧ wrap64 (-wrap64 (z + 1)) = a) ∨ (decide (z < 0) = false ∧ z = a)) := by
  by_cases h : z < 0
  · refine ⟨-(z + 1), by omega, by omega, .inl ⟨decide_eq_true h, ?_⟩⟩
    have e1 : wrap64 (z + 1) = z + 1 := by unfold wrap64; omega
    rw [e1]
    unfold wrap64; omega
  · exact ⟨z, by omega, hz.2, .inr ⟨decide_eq_false h, rfl⟩⟩
theorem at_parts (a : Int) (n : Nat) (ha : 0 ≤ a) (hn : 0 < n) : ∃ p i : Nat, p < n ∧ i < 8 ∧ Int.tdiv (Int.tmod a (8 * (n : Int))) 8 = (p : Int) ∧ Int.tmod (Int.tmod a (8 * (n : Int))) 8 = (i : Int) ∧ 0 ≤ Int.tmod a (8 * (n : Int)) ∧ Int.tmod a (8 * (n : Int)) < 8 * (n : Int) ∧ True := by
  have h1 : Int.tmod a (8 * (n : Int)) = a % (8 * (n : Int)) := Int.tmod_eq_emod_of_nonneg ha
  have h2 := Int.emod_nonneg a (show (8 * (n : Int)) ≠ 0 by omega)
  have h3 := Int.emod_lt_of_pos a (show (0 : Int) < 8 * (n : Int) by omega)
  rw [h1, Int.tdiv_eq_ediv_of_nonneg h2, Int.tmod_eq_emod_of_nonneg h2]
  generalize a % (8 * (n : Int)) = m at h2 h3
  exact ⟨(m / 8).toNat, (m % 8).toNat, by omega, by omega, by omega, by omega, h2, h3, trivial⟩
theorem split_at (T : Str) (p : Nat) (h : p < T.length) : ∃ (x : UInt8) (post pre : Str), T = pre ++ x :: post ∧ pre.length = p :=
  ⟨T[p], T.drop (p + 1), T.take p, by rw [← List.drop_eq_getElem_cons h, List.take_append_drop], by simp; omega⟩
theorem wrapped64 (z : Int) (h : (Lit.int .i64 z).wf = true) : -2 ^ 63 ≤ z ∧ z < 2 ^ 63 := by
  have h1 := h
  have e0 : IntKind.i64.min = -9223372036854775808 := by decide
  have e1 : IntKind.i64.max = 9223372036854775807 := by decide
  simp [Lit.wf, e0, e1] at h1
  omega
theorem wrap_idx (p n : Nat) (h : p < n) (hn : n ≤ 40000) : wrap64 (p : Int) = (p : Int) := w64 _ (by omega) (by omega)
theorem bits_all : ∀ x : Fin 256, ∀ i : Fin 8, bits .xor .u8 (((x : Nat) : Int)) (2 ^ min (IntKind.u64.wrap ((i : Nat) : Int)).toNat 8 % 256) = (((x : Nat) ^^^ 2 ^ (i : Nat) : Nat) : Int) ∧ ((x : Nat) ^^^ 2 ^ (i : Nat)) < 256 := of_decide_eq_true (by kernel_rfl)
theorem bits_one (x : UInt8) (i : Nat) (hi : i < 8) : ∃ y : UInt8, bits .xor .u8 ((x.toNat : Int)) (2 ^ min (IntKind.u64.wrap (i : Int)).toNat 8 % 256) = (y.toNat : Int) ∧ y.toNat = x.toNat ^^^ 2 ^ i := by
  obtain ⟨h1, h2⟩ := bits_all ⟨x.toNat, x.toNat_lt⟩ ⟨i, hi⟩
  refine ⟨UInt8.ofNat (x.toNat ^^^ 2 ^ i), ?_, ?_⟩
  · rw [UInt8.toNat_ofNat', Nat.mod_eq_of_lt h2]; exact h1
  · rw [UInt8.toNat_ofNat', Nat.mod_eq_of_lt h2]
theorem getD_mid (pre post : Str) (x : UInt8) (p : Nat) (hp : pre.length = p) : (pre ++ x :: post).getD p 0 = x := by
  subst hp; simp [List.getD_eq_getElem?_getD]
theorem getD_off (pre post : Str) (x y : UInt8) (p j : Nat) (hp : pre.length = p) (hj : j ≠ p) : (pre ++ y :: post).getD j 0 = (pre ++ x :: post).getD j 0 := by
  subst hp
  rcases Nat.lt_or_gt_of_ne hj with h | h
  · simp [List.getD_eq_getElem?_getD, List.getElem?_append_left h]
  · obtain ⟨m, rfl⟩ : ∃ m, j = pre.length + (m + 1) := ⟨j - pre.length - 1, by omega⟩
    simp [List.getD_eq_getElem?_getD, List.getElem?_append_right]
theorem bytes_set {W : World} {b p : Nat} {pre post : Str} {x y : UInt8} (h : Bytes W b (pre ++ x :: post)) (hp : pre.length = p) : Bytes (W.setCell ⟨b, p, none⟩ (.int .u8 y.toNat)) b (pre ++ y :: post) := by
  intro j hj
  have hj' : j < (pre ++ x :: post).length := by simp only [List.length_append, List.length_cons] at hj ⊢; exact hj
  refine ⟨Nat.lt_of_lt_of_le (h j hj').1 ((Below.refl 0 W).setCell (Nat.zero_le _) _).size, ?_⟩
  by_cases e : j = p
  · subst e
    rw [World.cell?_setCell_same W ⟨b, j, none⟩ _ (h j hj').2, getD_mid pre post y j hp]
  · rw [World.cell?_setCell_other W ⟨b, p, none⟩ ⟨b, j, none⟩ _ (show (⟨b, p, none⟩ : Addr) ≠ ⟨b, j, none⟩ from fun hh => e (congrArg Addr.off hh).symm), (h j hj').2, getD_off pre post x y p j hp e]
theorem dec_wrong (s : Str) (h8 : 8 ≤ s.length) (h : psum s ≠ 0) : pdec s = (4, .zero) := by
  unfold pdec
  rw [if_neg (by omega), if_pos h]
end Go.Proofs.Ythkibgdeibolfaa

/- '[]byte(s)' with its cap, 'b[:16]', 'b[16:]', 'string(b[o:])'. -/
namespace Go.Proofs.Ythkibgdeibolfaa
open Go.RowKit Go.Sort
set_option maxRecDepth 20000
set_option maxRecDepth 20000

theorem run_bytes_c {P : Program} (w : World) (src dst e : TypeId) (l : Str) (hs : P.underlying src = some .string) (hd : P.underlying dst = some (.slice e)) (he : P.underlying e = some (.int .u8)) :
    ∃ cap w', l.length ≤ cap ∧ (convert src dst (.string (bstr l))).run P w = .ok (.slice (some ⟨w.heap.size, 0, none⟩) l.length cap) w' ∧ Below w.heap.size w w' ∧ w'.heap.size = w.heap.size + 1 ∧ Bytes w' w.heap.size l ∧ ∀ j, j < l.length → w'.frozen? ⟨w.heap.size, j, none⟩ = false := by
  obtain ⟨cap, w', h, rest⟩ := run_bytes_b w src dst e l hs hd he
  have h2 := run_bytes_of_string w src dst e (bstr l) hs hd he
  rw [h] at h2
  refine ⟨cap, w', ?_, h, rest⟩
  injection h2 with h3 _
  injection h3 with _ _ h4
  rw [h4, bstr_size]
  exact grownCap_ge _ _ _ _
theorem run_head_c {P : Program} (W : World) (t e : TypeId) (ht : P.underlying t = some (.slice e)) (hz : ∀ w, (Go.sizeOf e).run P w = .ok 1 w) (b n cap k : Nat) (hk : k ≤ cap) :
    (Instr.slice t (.slice (some ⟨b, 0, none⟩) n cap) none (some (.int .i64 (k : Int))) none).run P W = .ok (.slice (some ⟨b, 0, none⟩) k cap) W := by
  have ht' : P.underlying t = some (.slice (P.elem t)) := by simp [Program.elem, ht]
  have he : P.elem t = e := by simp [Program.elem, ht]
  rw [run_slice_h W t _ _ _ ht' .i64 _ (by omega) (by omega), he, hz]
  simp [Result.andThen, sliced, Addr.add]
theorem run_tail_c {P : Program} (W : World) (t e : TypeId) (ht : P.underlying t = some (.slice e)) (hz : ∀ w, (Go.sizeOf e).run P w = .ok 1 w) (b n cap k : Nat) (hk : k ≤ n) (h0 : 0 < k) (hc : k < cap) :
    (Instr.slice t (.slice (some ⟨b, 0, none⟩) n cap) (some (.int .i64 (k : Int))) none none).run P W = .ok (.slice (some ⟨b, k, none⟩) (n - k) (cap - k)) W := by
  have ht' : P.underlying t = some (.slice (P.elem t)) := by simp [Program.elem, ht]
  have he : P.elem t = e := by simp [Program.elem, ht]
  rw [run_slice_l W t _ _ _ ht' .i64 _ (by omega) (by omega), he, hz]
  have hne : ¬ cap = k := by omega
  have h0' : ¬ k = 0 := by omega
  simp [Result.andThen, sliced, Addr.add, hne, h0']
theorem run_string_c {P : Program} (w : World) (src dst e : TypeId) (b o n cap : Nat) (l : Str) (hs : P.underlying src = some (.slice e)) (he : P.underlying e = some (.int .u8)) (hd : P.underlying dst = some .string) (h : Bytes w b l) (hn : o + n ≤ l.length) :
    (convert src dst (.slice (some ⟨b, o, none⟩) n cap)).run P w = .ok (.string (bstr ((l.drop o).take n))) w := by
  have hl : ((l.drop o).take n).length = n := by rw [List.length_take, List.length_drop]; omega
  have := run_convert_bytes_back (P := P) w src dst e ⟨b, o, none⟩ cap ((l.drop o).take n) hs he hd (fun j hj => by
    have hadd : (⟨b, o, none⟩ : Addr).add j = ⟨b, o + j, none⟩ := by unfold Addr.add; split <;> simp_all
    rw [hl] at hj
    rw [hadd, (h (o + j) (by omega)).2]
    have h1 : o + j < l.length := by omega
    simp [List.getD_eq_getElem?_getD, h1])
  rw [hl] at this
  rw [this, bstr_lit]
end Go.Proofs.Ythkibgdeibolfaa

/- Plain laws of layer 9: what was encoded is decoded; a message turned. No program in sight. -/
namespace Go.Proofs.Ythkibgdeibolfaa
set_option maxRecDepth 20000

theorem fill9_cons (A : Str) (x y p q : UInt8) (rest : Str) : ∃ c d, fillS A (x :: y :: p :: q :: rest) 2 = x :: y :: c :: d :: rest := by
  obtain ⟨a, b, h⟩ := ofN_two (psum (A ++ (x :: y :: p :: q :: rest).take 2 ++ [0, 0] ++ (x :: y :: p :: q :: rest).drop (2 + 2)))
  refine ⟨a, b, ?_⟩
  unfold fillS
  rw [h]
  rfl
theorem grp16_parts {g : Str} (h : grp g 16 = true) : g.length = 16 ∧ g ≠ [] ∧ g ≠ nobody16 := by
  have h0 := h
  unfold grp at h
  simp only [Bool.and_eq_true, decide_eq_true_eq] at h
  refine ⟨h.1, grp16_ne h0, ?_⟩
  rintro rfl; exact absurd h.2 (by decide)
theorem gOr16_back {g : Str} (h : (decide (g = []) || grp g 16) = true) : (if gOr16 g = nobody16 then [] else gOr16 g) = g ∧ (gOr16 g).length = 16 := by
  unfold gOr16
  by_cases hz : g = []
  · rw [if_pos hz, if_pos rfl, hz]; exact ⟨rfl, rfl⟩
  · rw [if_neg hz]
    rw [decide_eq_false hz, Bool.false_or] at h
    obtain ⟨h1, _, h3⟩ := grp16_parts h
    exact ⟨if_neg h3, h1⟩
theorem big_two (a b : UInt8) : big [a, b] = a.toNat * 256 + b.toNat := by simp [big]
theorem numAt_four (x y c d a b : UInt8) (t : Str) : numAt (x :: y :: c :: d :: a :: b :: t) 4 2 = a.toNat * 256 + b.toNat := by
  show big [a, b] = _
  exact big_two a b
theorem back9_short (g : Str) (mx : Int) (hg : (decide (g = []) || grp g 16) = true) (c d a b : UInt8) (hab : ((a.toNat * 256 + b.toNat : Nat) : Int) = mx) :
    mkind (130 :: 0 :: c :: d :: a :: b :: 0 :: 0 :: gOr16 g) = (0, ⟨1, 1, g, mx, false, 0, 0, [], []⟩) := by
  obtain ⟨hb, hl⟩ := gOr16_back hg
  have h1 : mkind (130 :: 0 :: c :: d :: a :: b :: 0 :: 0 :: gOr16 g) = mquery (130 :: 0 :: c :: d :: a :: b :: 0 :: 0 :: gOr16 g) := by
    unfold mkind; exact if_pos rfl
  have hlen : (130 :: 0 :: c :: d :: a :: b :: 0 :: 0 :: gOr16 g).length = 24 := by simp only [List.length_cons, hl]
  rw [h1, mquery_short (130 :: 0 :: c :: d :: a :: b :: 0 :: 0 :: gOr16 g) (gOr16 g) g (by rw [hlen]; exact Nat.le_refl _) (by rw [hlen]; exact Nat.lt_irrefl _) (by show (gOr16 g).take 16 = gOr16 g; exact List.take_of_length_le (Nat.le_of_eq hl)) hb.symm, if_neg, numAt_four, hab]
  rintro ⟨h2, h3⟩
  rw [decide_eq_false h2, Bool.false_or, h3] at hg
  cases hg
theorem back9_long (g : Str) (mx : Int) (q : Bool) (r ev : Int) (L : List Str) (hg : (decide (g = []) || grp g 16) = true) (hx : exact16 mx = true) (he : exact8 ev = true) (hr : 0 ≤ r ∧ r ≤ 7) (hL : L.length ≤ 60 ∧ ∀ a ∈ L, a.length = 16) (hgl : g ≠ [] ∨ L = [])
    (c d a b f e n1 n2 : UInt8) (hab : a.toNat * 256 + b.toNat = pencode mx.toNat 12) (hf : f.toNat = r.toNat + if q then 8 else 0) (hee : e.toNat = pencode ev.toNat 4) (hn : n1.toNat * 256 + n2.toNat = L.length) :
    mkind (130 :: 0 :: c :: d :: a :: b :: 0 :: 0 :: (gOr16 g ++ (f :: e :: n1 :: n2 :: L.flatten))) = (0, ⟨1, 2, g, mx, q, r, ev, L, []⟩) := by
  obtain ⟨hb, hl⟩ := gOr16_back hg
  obtain ⟨s, hs⟩ : ∃ s, s = 130 :: 0 :: c :: d :: a :: b :: 0 :: 0 :: (gOr16 g ++ (f :: e :: n1 :: n2 :: L.flatten)) := ⟨_, rfl⟩
  obtain ⟨G, hG⟩ : ∃ G, gOr16 g = G := ⟨_, rfl⟩
  rw [hG] at hb hl hs ⊢
  rw [← hs]
  have h1 : mkind s = mquery s := by rw [hs]; unfold mkind; exact if_pos rfl
  rw [h1]
  have hF := flat_size 16 L hL.2
  have hsl : s.length = 28 + L.length * 16 := by rw [hs]; simp only [List.length_cons, List.length_append, hl, hF]; omega
  have hG8 : (s.drop 8).take 16 = G := by
    rw [hs]
    show (G ++ (f :: e :: n1 :: n2 :: L.flatten)).take 16 = G
    rw [List.take_append_of_le_length (by omega), List.take_of_length_le (by omega)]
  have hd24 : s.drop 24 = f :: e :: n1 :: n2 :: L.flatten := by
    rw [hs]
    show (G ++ (f :: e :: n1 :: n2 :: L.flatten)).drop 16 = _
    rw [← hl, List.drop_left]
  have s24 : s.getD 24 0 = f := by
    have : (s.drop 24).getD 0 0 = s.getD 24 0 := by simp [List.getD_eq_getElem?_getD]
    rw [← this, hd24]; rfl
  have s25 : s.getD 25 0 = e := by
    have : (s.drop 24).getD 1 0 = s.getD 25 0 := by simp [List.getD_eq_getElem?_getD]
    rw [← this, hd24]; rfl
  have hnum : numAt s 26 2 = L.length := by
    have h26 : s.drop 26 = n1 :: n2 :: L.flatten := by
      have : s.drop 26 = (s.drop 24).drop 2 := by rw [List.drop_drop]
      rw [this, hd24]; rfl
    unfold numAt
    rw [h26]
    show big [n1, n2] = _
    rw [big_two, hn]
  have hsr : srcs s 28 L.length 16 = L := by
    have e1 : s = (130 :: 0 :: c :: d :: a :: b :: 0 :: 0 :: (G ++ [f, e, n1, n2])) ++ L.flatten ++ [] := by rw [hs]; simp
    rw [e1]
    exact srcs_flat 16 L hL.2 _ _ _ (by simp only [List.length_cons, List.length_append, hl, List.length_nil])
  have hmx : numAt s 4 2 = pencode mx.toNat 12 := by rw [hs, numAt_four, hab]
  rw [mquery_long s G g (by omega) hG8 hb.symm, if_neg (by omega), hnum, if_neg (by omega), if_neg (by omega), if_neg, hsr, s24, s25, hmx, hf, hee]
  · have k1 : pdecode (pencode mx.toNat 12) 12 = mx.toNat ∧ 0 ≤ mx := by unfold exact16 at hx; simp at hx; exact ⟨hx.2, hx.1⟩
    have k2 : pdecode (pencode ev.toNat 4) 4 = ev.toNat ∧ 0 ≤ ev := by unfold exact8 at he; simp at he; exact ⟨he.2, he.1⟩
    have k3 : decide ((r.toNat + if q then 8 else 0) / 8 % 2 = 1) = q := by
      cases q
      · exact decide_eq_false (by simp; omega)
      · exact decide_eq_true (by simp; omega)
    have k4 : (((r.toNat + if q then 8 else 0) % 8 : Nat) : Int) = r := by cases q <;> simp <;> omega
    rw [k3, k4, k1.1, k2.1, Int.toNat_of_nonneg k1.2, Int.toNat_of_nonneg k2.2]
  · rintro (⟨h2, h3⟩ | ⟨h2, h3⟩)
    · rw [decide_eq_false h2, Bool.false_or, h3] at hg
      cases hg
    · rcases hgl with h | h
      · exact h h2
      · rw [h] at h3; exact absurd h3 (by simp)
theorem back9_plain (k : Int) (g : Str) (x c d : UInt8) (hk : (x = 132 ∧ k = 3) ∨ (x = 131 ∧ k = 2)) (hg : grp g 16 = true) :
    mkind (x :: 0 :: c :: d :: 0 :: 0 :: 0 :: 0 :: g) = (0, ⟨k, 1, g, 0, false, 0, 0, [], []⟩) := by
  obtain ⟨hl, _, _⟩ := grp16_parts hg
  have hlen : ¬ (x :: 0 :: c :: d :: 0 :: 0 :: 0 :: 0 :: g).length < 24 := by simp only [List.length_cons, hl]; omega
  have hd : ((x :: 0 :: c :: d :: 0 :: 0 :: 0 :: 0 :: g).drop 8).take 16 = g := by show g.take 16 = g; exact List.take_of_length_le (by omega)
  have ht : ∀ kk : Int, mtells (x :: 0 :: c :: d :: 0 :: 0 :: 0 :: 0 :: g) kk = (0, ⟨kk, 1, g, 0, false, 0, 0, [], []⟩) := fun kk => by
    unfold mtells
    rw [if_neg hlen, hd, if_neg (by rw [hg]; decide)]
  rcases hk with ⟨rfl, rfl⟩ | ⟨rfl, rfl⟩
  · rw [← ht 3]; unfold mkind; rfl
  · rw [← ht 2]; unfold mkind; rfl
theorem back9_recs (R : List Rec) (c d n1 n2 : UInt8) (hok : bodyOk R 16 = true) (hn : n1.toNat * 256 + n2.toNat = R.length) :
    mkind (143 :: 0 :: c :: d :: 0 :: 0 :: n1 :: n2 :: bodyB R) = (0, ⟨2, 2, [], 0, false, 0, 0, [], R⟩) := by
  unfold bodyOk at hok
  simp only [Bool.and_eq_true, decide_eq_true_eq, List.all_eq_true] at hok
  have hnum : numAt (143 :: 0 :: c :: d :: 0 :: 0 :: n1 :: n2 :: bodyB R) 6 2 = R.length := by
    show big [n1, n2] = _
    rw [big_two, hn]
  have hpr : precs (bodyB R) (R.length : Int) 16 = (0, R) := by
    unfold precs
    rw [if_neg (by rintro (h | h); omega; cases h), if_neg (by omega), Int.toNat_natCast, show (16 : Int).toNat = 16 from rfl]
    have := precA_body 16 R hok.2 0 [] []
    rw [Nat.add_zero, List.append_nil, List.nil_append] at this
    rw [this]
    rfl
  have hm : mkind (143 :: 0 :: c :: d :: 0 :: 0 :: n1 :: n2 :: bodyB R) = (if (precs (bodyB R) (numAt (143 :: 0 :: c :: d :: 0 :: 0 :: n1 :: n2 :: bodyB R) 6 2) 16).1 = 0 then (0, ⟨2, 2, [], 0, false, 0, 0, [], (precs (bodyB R) (numAt (143 :: 0 :: c :: d :: 0 :: 0 :: n1 :: n2 :: bodyB R) 6 2) 16).2⟩) else ((precs (bodyB R) (numAt (143 :: 0 :: c :: d :: 0 :: 0 :: n1 :: n2 :: bodyB R) 6 2) 16).1, .zero)) := by
    unfold mkind; rfl
  rw [hm, hnum, hpr]
  rfl
/-- the shape of a message's bytes, and what they decode to whatever stands at the sum -/
theorem back9_shape (m : Msg) (h : mayM9 m = true) : ∃ (x : UInt8) (rest : Str), bytes9 m = x :: 0 :: 0 :: 0 :: rest ∧ 4 ≤ rest.length ∧ ∀ c d : UInt8, mkind (x :: 0 :: c :: d :: rest) = (0, m) := by
  obtain ⟨k, v, g, mx, q, r, ev, L, R⟩ := m
  by_cases hk : k = 1
  · subst hk
    have h' := h
    unfold mayM9 at h'
    rw [if_pos rfl] at h'
    simp only [Bool.and_eq_true] at h'
    obtain ⟨⟨hg, hR⟩, h'⟩ := h'
    obtain rfl : R = [] := by simpa using hR
    obtain ⟨hb, hl⟩ := gOr16_back hg
    by_cases hv : v = 2
    · subst hv
      rw [if_pos rfl] at h'
      simp only [Bool.and_eq_true, decide_eq_true_eq] at h'
      obtain ⟨⟨⟨⟨⟨h1, h2⟩, h3⟩, h4⟩, h5⟩, h6⟩ := h'
      unfold sized at h5
      simp only [Bool.and_eq_true, decide_eq_true_eq, List.all_eq_true] at h5
      have hp1 : pencode mx.toNat 12 < 65536 := (pencode_spec 12 (.inr rfl) mx.toNat).1
      have hp2 : pencode ev.toNat 4 < 256 := (pencode_spec 4 (.inl rfl) ev.toNat).1
      obtain ⟨a, b, hab⟩ := ofN_two (pencode mx.toNat 12)
      obtain ⟨f, hf⟩ := ofN_one (r.toNat + if q then 8 else 0)
      obtain ⟨e, he⟩ := ofN_one (pencode ev.toNat 4)
      obtain ⟨n1, n2, hn⟩ := ofN_two L.length
      have hnn := big_ofN_lt 2 L.length (by omega)
      have hww := big_ofN_lt 2 (pencode mx.toNat 12) (by omega)
      rw [hn, big_two] at hnn
      rw [hab, big_two] at hww
      have hq : (r.toNat + if q then 8 else 0) < 256 := by cases q <;> simp <;> omega
      refine ⟨130, a :: b :: 0 :: 0 :: (gOr16 g ++ (f :: e :: n1 :: n2 :: L.flatten)), ?_, by simp only [List.length_cons]; omega, fun c d => ?_⟩
      · have : bytes9 ⟨1, 2, g, mx, q, r, ev, L, []⟩ = [130, 0, 0, 0] ++ ofN (pencode mx.toNat 12) 2 ++ [0, 0] ++ gOr16 g ++ ofN (r.toNat + if q then 8 else 0) 1 ++ ofN (pencode ev.toNat 4) 1 ++ ofN L.length 2 ++ L.flatten := rfl
        rw [this, hab, hf, he, hn]
        simp [List.append_assoc]
      · exact back9_long g mx q r ev L hg h1 h2 ⟨h3, h4⟩ h5 (by simpa using h6) c d a b f e n1 n2 hww (ofN1_toNat _ hq _ hf) (ofN1_toNat _ hp2 _ he) hnn
    · rw [if_neg hv] at h'
      simp only [Bool.and_eq_true, decide_eq_true_eq] at h'
      obtain ⟨⟨⟨hv1, hbr⟩, h0⟩, h65⟩ := h'
      obtain rfl : v = 1 := hv1
      unfold bare at hbr
      simp only [Bool.and_eq_true, decide_eq_true_eq] at hbr
      obtain ⟨⟨⟨⟨⟨_, b2⟩, b3⟩, b4⟩, b5⟩, _⟩ := hbr
      obtain rfl : q = false := by simpa using b2
      subst b3 b4 b5
      obtain ⟨a, b, hab⟩ := ofN_two mx.toNat
      have hww := big_ofN_lt 2 mx.toNat (by omega)
      rw [hab, big_two] at hww
      refine ⟨130, a :: b :: 0 :: 0 :: gOr16 g, ?_, by simp only [List.length_cons]; omega, fun c d => back9_short g mx hg c d a b (by rw [hww]; omega)⟩
      have : bytes9 ⟨1, 1, g, mx, false, 0, 0, [], []⟩ = [130, 0, 0, 0] ++ ofN mx.toNat 2 ++ [0, 0] ++ gOr16 g := rfl
      rw [this, hab]
      simp
  · have h' := h
    unfold mayM9 at h'
    rw [if_neg hk] at h'
    by_cases h22 : k = 2 ∧ v = 2
    · obtain ⟨rfl, rfl⟩ := h22
      rw [if_pos ⟨rfl, rfl⟩] at h'
      simp only [Bool.and_eq_true, decide_eq_true_eq] at h'
      obtain ⟨⟨hg, hok⟩, hbr⟩ := h'
      unfold bare at hbr
      simp only [Bool.and_eq_true, decide_eq_true_eq] at hbr
      obtain ⟨⟨⟨⟨⟨b1, b2⟩, b3⟩, b4⟩, b5⟩, _⟩ := hbr
      obtain rfl : q = false := by simpa using b2
      subst hg b1 b3 b4 b5
      have h30 : R.length ≤ 30 := bodyOk_30 hok
      obtain ⟨n1, n2, hn⟩ := ofN_two R.length
      have hnn := big_ofN_lt 2 R.length (by omega)
      rw [hn, big_two] at hnn
      refine ⟨143, 0 :: 0 :: n1 :: n2 :: bodyB R, ?_, by simp, fun c d => back9_recs R c d n1 n2 hok hnn⟩
      have : bytes9 ⟨2, 2, [], 0, false, 0, 0, [], R⟩ = [143, 0, 0, 0, 0, 0] ++ ofN R.length 2 ++ bodyB R := rfl
      rw [this, hn]
      simp
    · rw [if_neg h22] at h'
      simp only [Bool.and_eq_true, decide_eq_true_eq] at h'
      obtain ⟨⟨⟨hc, hv1⟩, hg⟩, hbr⟩ := h'
      obtain rfl : v = 1 := hv1
      simp only [Bool.or_eq_true, decide_eq_true_eq] at hc
      unfold bare at hbr
      simp only [Bool.and_eq_true, decide_eq_true_eq] at hbr
      obtain ⟨⟨⟨⟨⟨b1, b2⟩, b3⟩, b4⟩, b5⟩, b6⟩ := hbr
      obtain rfl : q = false := by simpa using b2
      subst b1 b3 b4 b5 b6
      obtain ⟨hl, hne, _⟩ := grp16_parts hg
      rcases hc with rfl | rfl
      · exact ⟨131, 0 :: 0 :: 0 :: 0 :: g, bytes9_21 g 0 false 0 0 [] [] hg, by simp, fun c d => back9_plain 2 g 131 c d (.inr ⟨rfl, rfl⟩) hg⟩
      · exact ⟨132, 0 :: 0 :: 0 :: 0 :: g, bytes9_31 g 0 false 0 0 [] [] hg, by simp, fun c d => back9_plain 3 g 132 c d (.inl ⟨rfl, rfl⟩) hg⟩
/-- an encoded text, whole -/
theorem enc9_text (src dst : Str) (m : Msg) (hw : ways src dst = true) (h : mayM9 m = true) : ∃ T, penc9 src dst m = (T, 0) ∧ T.length = (bytes9 m).length ∧ psum (pseS src dst T.length ++ T) = 0 ∧ mkind T = (0, m) := by
  obtain ⟨x, rest, hb, hr, hd⟩ := back9_shape m h
  unfold ways at hw
  simp only [Bool.and_eq_true, decide_eq_true_eq] at hw
  have hA := pse_length src dst (bytes9 m).length hw.1 hw.2
  have h8 := (bytes9_len m h).1
  have hfl : (fillS (pseS src dst (bytes9 m).length) (bytes9 m) 2).length = (bytes9 m).length := fillS_length _ _ 2 (by omega)
  refine ⟨fillS (pseS src dst (bytes9 m).length) (bytes9 m) 2, ?_, hfl, ?_, ?_⟩
  · unfold penc9
    rw [if_pos]
    unfold ways
    rw [decide_eq_true hw.1, decide_eq_true hw.2, h]; rfl
  · rw [hfl]
    exact psum_fill _ _ 2 rfl (by rw [hA]) (by omega)
  · obtain ⟨c, d, hf⟩ := fill9_cons (pseS src dst (bytes9 m).length) x 0 0 0 rest
    rw [← hb] at hf
    rw [hf]
    exact hd c d
theorem back9 (src dst : Str) (m : Msg) (T : Str) (hw : ways src dst = true) (hl : 8 ≤ T.length ∧ T.length ≤ 40000) (hp : psum (pseS src dst T.length ++ T) = 0) (hk : mkind T = (0, m)) : mdec src dst T = (0, m) := by
  unfold ways at hw
  simp only [Bool.and_eq_true, decide_eq_true_eq] at hw
  unfold mdec
  rw [if_neg (by intro h; rcases h with h | h | h; exact h hw.1; exact h hw.2; omega), if_neg (by omega), if_neg (fun h => h hp), hk]
/-- a message, or the address it came from, turned in a bit -/
theorem turn9 (src dst T pre post : Str) (x y : UInt8) (i : Nat) (hw : ways src dst = true) (hl : 8 ≤ T.length ∧ T.length ≤ 40000) (hp : psum (pseS src dst T.length ++ T) = 0) (hs : src ++ T = pre ++ x :: post) (hi : i < 8) (hy : y.toNat = x.toNat ^^^ 2 ^ i) :
    mdec ((pre ++ y :: post).take 16) dst ((pre ++ y :: post).drop 16) = (4, .zero) := by
  unfold ways at hw
  simp only [Bool.and_eq_true, decide_eq_true_eq] at hw
  have hlen : (pre ++ y :: post).length = 16 + T.length := by
    have := congrArg List.length hs
    simp only [List.length_append, List.length_cons, hw.1] at this ⊢
    omega
  have l1 : ((pre ++ y :: post).take 16).length = 16 := by rw [List.length_take, hlen]; omega
  have l2 : ((pre ++ y :: post).drop 16).length = T.length := by rw [List.length_drop, hlen]; omega
  have key : psum (pseS ((pre ++ y :: post).take 16) dst T.length ++ (pre ++ y :: post).drop 16) ≠ 0 := by
    obtain ⟨M, hM⟩ : ∃ M, dst ++ [0, 0] ++ ofN T.length 2 ++ [0, 0, 0] ++ [58] = M := ⟨_, rfl⟩
    have hps : ∀ z : Str, pseS z dst T.length = z ++ M := fun z => by unfold pseS; rw [← hM]; simp [List.append_assoc]
    rw [hps] at hp ⊢
    by_cases h16 : pre.length < 16
    · obtain ⟨u, v, hpost⟩ : ∃ u v, post = u ++ v ∧ pre.length + 1 + u.length = 16 := ⟨post.take (15 - pre.length), post.drop (15 - pre.length), (List.take_append_drop _ _).symm, by
        have hpl : pre.length + 1 + post.length = 16 + T.length := by simpa [Nat.add_assoc, Nat.add_comm 1] using (by simpa using hlen : pre.length + (post.length + 1) = 16 + T.length)
        rw [List.length_take]; omega⟩
      obtain ⟨rfl, hul⟩ := hpost
      have t16 : ∀ z : UInt8, (pre ++ z :: (u ++ v)).take 16 = pre ++ z :: u ∧ (pre ++ z :: (u ++ v)).drop 16 = v := fun z => by
        have e : pre ++ z :: (u ++ v) = (pre ++ z :: u) ++ v := by simp
        have el : (pre ++ z :: u).length = 16 := by simp only [List.length_append, List.length_cons]; omega
        rw [e, ← el]
        exact ⟨List.take_left .., List.drop_left ..⟩
      have hsrc : src = pre ++ x :: u ∧ T = v := by
        have h1 := congrArg (List.take 16) hs
        have h2 := congrArg (List.drop 16) hs
        rw [(t16 x).1, ← hw.1, List.take_left] at h1
        rw [(t16 x).2, ← hw.1, List.drop_left] at h2
        exact ⟨h1, h2⟩
      rw [(t16 y).1, (t16 y).2]
      rw [hsrc.1, hsrc.2] at hp
      have e : ∀ z : UInt8, pre ++ z :: u ++ M ++ v = pre ++ z :: (u ++ (M ++ v)) := fun z => by simp
      rw [e] at hp ⊢
      exact psum_turned pre _ x y i hi hy hp
    · obtain ⟨u, v, hpre⟩ : ∃ u v, pre = u ++ v ∧ u.length = 16 := ⟨pre.take 16, pre.drop 16, (List.take_append_drop _ _).symm, by rw [List.length_take]; omega⟩
      obtain ⟨rfl, hul⟩ := hpre
      have t16 : ∀ z : UInt8, (u ++ v ++ z :: post).take 16 = u ∧ (u ++ v ++ z :: post).drop 16 = v ++ z :: post := fun z => by
        rw [List.append_assoc, ← hul]
        exact ⟨List.take_left .., List.drop_left ..⟩
      have hsrc : src = u ∧ T = v ++ x :: post := by
        have h1 := congrArg (List.take 16) hs
        have h2 := congrArg (List.drop 16) hs
        rw [(t16 x).1, ← hw.1, List.take_left] at h1
        rw [(t16 x).2, ← hw.1, List.drop_left] at h2
        exact ⟨h1, h2⟩
      rw [(t16 y).1, (t16 y).2]
      rw [hsrc.1, hsrc.2] at hp
      rw [← List.append_assoc] at hp ⊢
      exact psum_turned _ post x y i hi hy hp
  unfold mdec
  rw [if_neg (by intro h; rcases h with h | h | h; exact h l1; exact h hw.2; omega), if_neg (by omega), l2, if_pos key]
end Go.Proofs.Ythkibgdeibolfaa
