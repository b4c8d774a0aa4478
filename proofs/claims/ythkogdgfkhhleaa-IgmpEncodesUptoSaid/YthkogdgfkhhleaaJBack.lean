/- Plain laws: what was encoded is decoded; records behind one another; a message turned, freed. No program in sight. -/
import Derived.Test.YthkogdgfkhhleaaJEncode
import Derived.Test.YthkogdgfkhhleaaJDecode2
namespace Go.Proofs.Ythkogdgfkhhleaa
set_option maxRecDepth 20000

theorem ofN_one (n : Nat) : ∃ b, ofN n 1 = [b] := by
  have h := ofN_length 1 n
  match hq : ofN n 1, h with
  | [b], _ => exact ⟨b, rfl⟩
theorem ofN_two (n : Nat) : ∃ a b, ofN n 2 = [a, b] := by
  have h := ofN_length 2 n
  match hq : ofN n 2, h with
  | [a, b], _ => exact ⟨a, b, rfl⟩
theorem ofN1_toNat (n : Nat) (h : n < 256) (b : UInt8) (hb : ofN n 1 = [b]) : b.toNat = n := by
  have := big_ofN_lt 1 n (by omega)
  rw [hb] at this
  simpa [big] using this
/-- a message with its sum in it -/
theorem fill_cons (x y p q : UInt8) (rest : Str) : ∃ c d, fillS [] (x :: y :: p :: q :: rest) 2 = x :: y :: c :: d :: rest := by
  obtain ⟨a, b, h⟩ := ofN_two (psum ([] ++ (x :: y :: p :: q :: rest).take 2 ++ [0, 0] ++ (x :: y :: p :: q :: rest).drop (2 + 2)))
  refine ⟨a, b, ?_⟩
  unfold fillS
  rw [h]
  rfl
theorem fill_right (x y p q : UInt8) (rest : Str) : psum (fillS [] (x :: y :: p :: q :: rest) 2) = 0 := by
  have := psum_fill [] (x :: y :: p :: q :: rest) 2 rfl rfl (by simp)
  simpa using this

theorem flat_parts (size : Nat) : ∀ (L : List Str), (∀ a ∈ L, a.length = size) → ∀ (pre post : Str) (i : Nat), pre.length = i → (List.range L.length).map (fun k => ((pre ++ L.flatten ++ post).drop (i + k * size)).take size) = L := by
  intro L hL pre post i hi
  apply List.ext_getElem
  · simp
  · intro k h1 h2
    simp only [List.getElem_map, List.getElem_range]
    have hk : k < L.length := h2
    have hsplit : L = L.take k ++ L[k] :: L.drop (k + 1) := by rw [List.getElem_cons_drop, List.take_append_drop]
    have hlen : (L.take k).flatten.length = k * size := by
      have : ∀ (M : List Str), (∀ a ∈ M, a.length = size) → M.flatten.length = M.length * size := by
        intro M hM
        induction M with
        | nil => simp
        | cons a M ih => rw [List.flatten_cons, List.length_append, ih (fun b hb => hM b (List.mem_cons_of_mem _ hb)), hM a (List.mem_cons_self ..), List.length_cons, Nat.succ_mul]; omega
      rw [this _ (fun a ha => hL a (List.mem_of_mem_take ha)), List.length_take, Nat.min_eq_left (Nat.le_of_lt hk)]
    have e : pre ++ L.flatten ++ post = (pre ++ (L.take k).flatten) ++ (L[k] ++ ((L.drop (k + 1)).flatten ++ post)) := by
      conv => lhs; rw [hsplit]
      simp only [List.flatten_append, List.flatten_cons, List.append_assoc]
    rw [e, List.drop_append_of_le_length (by rw [List.length_append, hi, hlen]; exact Nat.le_refl _), List.drop_of_length_le (by rw [List.length_append, hi, hlen]; exact Nat.le_refl _), List.nil_append, List.take_append_of_le_length (by rw [hL _ (List.getElem_mem hk)]; exact Nat.le_refl _), List.take_of_length_le (by rw [hL _ (List.getElem_mem hk)]; exact Nat.le_refl _)]
theorem srcs_flat (size : Nat) (L : List Str) (hL : ∀ a ∈ L, a.length = size) (pre post : Str) (i : Nat) (hi : pre.length = i) : srcs (pre ++ L.flatten ++ post) i L.length size = L := flat_parts size L hL pre post i hi

theorem flat_size (size : Nat) (M : List Str) (hM : ∀ a ∈ M, a.length = size) : M.flatten.length = M.length * size := by
  induction M with
  | nil => simp
  | cons a M ih => rw [List.flatten_cons, List.length_append, ih (fun b hb => hM b (List.mem_cons_of_mem _ hb)), hM a (List.mem_cons_self ..), List.length_cons, Nat.succ_mul]; omega
/-- a record's text, read -/
theorem rec_text (size n : Nat) (k a h1 h2 : UInt8) (G X t : Str) (L : List Str) (l : List Rec) (hG : G.length = size) (hg : grp G size = true) (hL : ∀ x ∈ L, x.length = size) (hn : h1.toNat * 256 + h2.toNat = L.length) (h60 : L.length ≤ 60) (hX : X.length = 4 * a.toNat) :
    precA size (n + 1) (k :: a :: h1 :: h2 :: (G ++ L.flatten ++ X ++ t)) l = precA size n t (if knownK k.toNat then l ++ [((k.toNat : Int), G, L)] else l) := by
  obtain ⟨s, hs⟩ : ∃ s, s = k :: a :: h1 :: h2 :: (G ++ L.flatten ++ X ++ t) := ⟨_, rfl⟩
  rw [← hs]
  have hF := flat_size size L hL
  have hlen : s.length = 4 + size + L.length * size + 4 * a.toNat + t.length := by
    rw [hs]; simp only [List.length_cons, List.length_append, hG, hF, hX]; omega
  have hm : many s = L.length := by rw [hs]; unfold many numAt; simp [big]; omega
  have h1' : (s.getD 1 0).toNat = a.toNat := by rw [hs]; rfl
  have h0' : (s.getD 0 0).toNat = k.toNat := by rw [hs]; rfl
  have hw : whole s size = 4 + size + L.length * size + 4 * a.toNat := by unfold whole; rw [hm, h1']
  have hd : (s.drop 4).take size = G := by
    rw [hs]
    show (G ++ L.flatten ++ X ++ t).take size = G
    rw [List.append_assoc, List.append_assoc, List.take_append_of_le_length (by omega), List.take_of_length_le (by omega)]
  have hsr : srcs s (4 + size) (many s) size = L := by
    rw [hm]
    have e : s = (k :: a :: h1 :: h2 :: G) ++ L.flatten ++ (X ++ t) := by rw [hs]; simp [List.append_assoc]
    rw [e]
    exact srcs_flat size L hL _ _ _ (by simp only [List.length_cons, hG]; omega)
  have hr : recE s size = 0 := by
    unfold recE
    rw [if_neg (by omega), if_neg (by rw [hw]; omega), if_neg (by rw [hm, hd, hg]; intro h; rcases h with h | h; omega; cases h)]
  have hdr : s.drop (whole s size) = t := by
    have e : s = (k :: a :: h1 :: h2 :: (G ++ L.flatten ++ X)) ++ t := by rw [hs]; simp [List.append_assoc]
    have e2 : (k :: a :: h1 :: h2 :: (G ++ L.flatten ++ X)).length = whole s size := by
      rw [hw]; simp only [List.length_cons, List.length_append, hG, hF, hX]; omega
    rw [← e2, e, List.drop_left]
  rw [precA_step, if_pos hr, hdr, h0']
  unfold recOf
  rw [h0', hd, hsr]
theorem recB_text (size : Nat) (r : Rec) (h : recOk size r = true) : ∃ k h1 h2 : UInt8, recB r = k :: 0 :: h1 :: h2 :: (r.2.1 ++ r.2.2.flatten) ∧ (k.toNat : Int) = r.1 ∧ h1.toNat * 256 + h2.toNat = r.2.2.length ∧ knownK k.toNat = true := by
  obtain ⟨h1, h2, h3, h4, h5⟩ := recOk_parts h
  obtain ⟨k, hk⟩ := ofN_one r.1.toNat
  obtain ⟨a, b, hab⟩ := ofN_two r.2.2.length
  have hkn := ofN1_toNat r.1.toNat (by omega) k hk
  have hb := big_ofN_lt 2 r.2.2.length (by omega)
  rw [hab] at hb
  refine ⟨k, a, b, ?_, by rw [hkn]; omega, by simpa [big] using hb, ?_⟩
  · unfold recB; rw [hk, hab]; simp
  · unfold knownK; rw [hkn, decide_eq_true (by omega), decide_eq_true (by omega)]; rfl
theorem precA_body (size : Nat) : ∀ (R : List Rec), (∀ r ∈ R, recOk size r = true) → ∀ (n : Nat) (t : Str) (l : List Rec), precA size (R.length + n) (bodyB R ++ t) l = precA size n t (l ++ R)
  | [], _, n, t, l => by simp [bodyB]
  | r :: R, h, n, t, l => by
    obtain ⟨h1, h2, h3, h4, h5⟩ := recOk_parts (h r (List.mem_cons_self ..))
    obtain ⟨k, a, b, e, hk, hn, hkn⟩ := recB_text size r (h r (List.mem_cons_self ..))
    have e1 : bodyB (r :: R) ++ t = k :: 0 :: a :: b :: (r.2.1 ++ r.2.2.flatten ++ [] ++ (bodyB R ++ t)) := by
      unfold bodyB
      rw [List.flatMap_cons, e]
      simp [List.append_assoc]
    rw [e1, show (r :: R).length + n = (R.length + n) + 1 from by simp; omega, rec_text size (R.length + n) k 0 a b r.2.1 [] (bodyB R ++ t) r.2.2 l h2 h3 h5 hn h4 rfl, hkn, if_pos rfl, hk, precA_body size R (fun x hx => h x (List.mem_cons_of_mem _ hx)) n t]
    simp [List.append_assoc]
/-- records of an unknown kind, passed over -/
def oddB (k : UInt8) : Str := [k, 1, 0, 1] ++ [224, 1, 2, 3] ++ [97, 98, 99, 100] ++ [119, 120, 121, 122]
theorem precs_odd (k : UInt8) (hk : knownK k.toNat = false) (R : List Rec) (hR : R.length ≤ 14) (h : ∀ r ∈ R, recOk 4 r = true) : precs (oddB k ++ bodyB R ++ oddB k) ((R.length : Int) + 2) 4 = (0, R) := by
  have h1 : precs (oddB k ++ bodyB R ++ oddB k) ((R.length : Int) + 2) 4 = precA 4 (R.length + 2) (oddB k ++ bodyB R ++ oddB k) [] := by
    unfold precs
    rw [if_neg (by rintro (h | h); omega; cases h), if_neg (by omega), show ((R.length : Int) + 2).toNat = R.length + 2 from by omega, show (4 : Int).toNat = 4 from rfl]
  have hg : grp [224, 1, 2, 3] 4 = true := by decide
  have e1 : oddB k ++ bodyB R ++ oddB k = k :: 1 :: 0 :: 1 :: ([224, 1, 2, 3] ++ [[97, 98, 99, 100]].flatten ++ [119, 120, 121, 122] ++ (bodyB R ++ oddB k)) := by unfold oddB; simp
  have e2 : oddB k = k :: 1 :: 0 :: 1 :: ([224, 1, 2, 3] ++ [[97, 98, 99, 100]].flatten ++ [119, 120, 121, 122] ++ []) := rfl
  rw [h1, e1, show R.length + 2 = (R.length + 1) + 1 from rfl, rec_text 4 (R.length + 1) k 1 0 1 [224, 1, 2, 3] [119, 120, 121, 122] (bodyB R ++ oddB k) [[97, 98, 99, 100]] [] rfl hg (by simp) rfl (by decide) rfl, hk, if_neg (by decide), precA_body 4 R h 1 (oddB k) [], e2, rec_text 4 0 k 1 0 1 [224, 1, 2, 3] [119, 120, 121, 122] [] [[97, 98, 99, 100]] ([] ++ R) rfl hg (by simp) rfl (by decide) rfl, hk, if_neg (by decide), List.nil_append]
  rfl

/-! ### what was encoded is decoded -/
theorem grp_ne {g : Str} (h : grp g 4 = true) : g.length = 4 ∧ g ≠ [] ∧ g ≠ nobody4 := by
  unfold grp at h
  simp only [Bool.and_eq_true, decide_eq_true_eq] at h
  refine ⟨h.1, ?_, ?_⟩
  · rintro rfl; simp at h
  · rintro rfl; exact absurd h.2 (by decide)
theorem gOr_back {g : Str} (h : (decide (g = []) || grp g 4) = true) : (if gOr g = nobody4 then [] else gOr g) = g ∧ (gOr g).length = 4 := by
  unfold gOr
  by_cases hz : g = []
  · rw [if_pos hz, if_pos rfl, hz]; exact ⟨rfl, rfl⟩
  · rw [if_neg hz]
    rw [decide_eq_false hz, Bool.false_or] at h
    obtain ⟨h1, _, h3⟩ := grp_ne h
    exact ⟨if_neg h3, h1⟩
theorem pdec_q (y c d : UInt8) (rest : Str) (hp : psum (17 :: y :: c :: d :: rest) = 0) (hr : 4 ≤ rest.length) : pdec (17 :: y :: c :: d :: rest) = pquery (17 :: y :: c :: d :: rest) := by
  rw [pdec_kind _ 17 (by simp; omega) hp rfl, if_pos rfl]
theorem back_short (v : Int) (g : Str) (mx : Int) (hv : (v = 1 ∧ mx = 0) ∨ (v = 2 ∧ 1 ≤ mx ∧ mx ≤ 255)) (hg : (decide (g = []) || grp g 4) = true) (y c d : UInt8) (hy : (y.toNat : Int) = mx) (hp : psum (17 :: y :: c :: d :: gOr g) = 0) :
    pdec (17 :: y :: c :: d :: gOr g) = (0, ⟨1, v, g, mx, false, 0, 0, [], []⟩) := by
  obtain ⟨hb, hl⟩ := gOr_back hg
  rw [pdec_q y c d (gOr g) hp (by omega)]
  rw [pquery_short (17 :: y :: c :: d :: gOr g) (gOr g) g y.toNat (by simp [hl]) (by show (gOr g).take 4 = gOr g; rw [List.take_of_length_le (by omega)]) hb.symm rfl, if_neg]
  · rcases hv with ⟨rfl, rfl⟩ | ⟨rfl, h1, h2⟩
    · rw [if_pos (by omega)]; rw [hy]
    · rw [if_neg (by omega)]; rw [hy]
  · rintro ⟨h1, h2⟩
    rw [decide_eq_false h1, Bool.false_or, h2] at hg
    cases hg
theorem back_long (g : Str) (mx : Int) (q : Bool) (r ev : Int) (L : List Str) (hg : (decide (g = []) || grp g 4) = true) (hx : exact8 mx = true) (he : exact8 ev = true) (hr : 0 ≤ r ∧ r ≤ 7) (hL : L.length ≤ 60 ∧ ∀ a ∈ L, a.length = 4) (hgl : g ≠ [] ∨ L = [])
    (y c d f e n1 n2 : UInt8) (hy : y.toNat = pencode mx.toNat 4) (hf : f.toNat = r.toNat + if q then 8 else 0) (hee : e.toNat = pencode ev.toNat 4) (hn : n1.toNat * 256 + n2.toNat = L.length)
    (hp : psum (17 :: y :: c :: d :: (gOr g ++ (f :: e :: n1 :: n2 :: L.flatten))) = 0) :
    pdec (17 :: y :: c :: d :: (gOr g ++ (f :: e :: n1 :: n2 :: L.flatten))) = (0, ⟨1, 3, g, mx, q, r, ev, L, []⟩) := by
  obtain ⟨hb, hl⟩ := gOr_back hg
  obtain ⟨s, hs⟩ : ∃ s, s = 17 :: y :: c :: d :: (gOr g ++ (f :: e :: n1 :: n2 :: L.flatten)) := ⟨_, rfl⟩
  obtain ⟨G, hG⟩ : ∃ G, gOr g = G := ⟨_, rfl⟩
  rw [pdec_q y c d _ hp (by rw [List.length_append, hl]; omega)]
  rw [hG] at hb hl hs ⊢
  rw [← hs]
  match G, hl with
  | [a0, a1, a2, a3], _ =>
    have hF := flat_size 4 L hL.2
    have hsl : s.length = 12 + L.length * 4 := by rw [hs]; simp [hF]; omega
    have s1 : s.getD 1 0 = y := by rw [hs]; rfl
    have s8 : s.getD 8 0 = f := by rw [hs]; rfl
    have s9 : s.getD 9 0 = e := by rw [hs]; rfl
    have hnum : numAt s 10 2 = L.length := by rw [hs]; unfold numAt; simp [big]; omega
    have hE : longE s = 0 := by unfold longE; rw [if_neg (by omega), hnum, if_neg (by omega), if_neg (by omega)]
    have hsr : srcs s 12 (numAt s 10 2) 4 = L := by
      rw [hnum]
      have e1 : s = [17, y, c, d, a0, a1, a2, a3, f, e, n1, n2] ++ L.flatten ++ [] := by rw [hs]; simp
      rw [e1]
      exact srcs_flat 4 L hL.2 _ _ _ rfl
    rw [pquery_long s [a0, a1, a2, a3] g (by omega) (by rw [hs]; rfl) hb.symm, if_neg (by rw [hE]; simp), if_neg, hsr, s1, s9, hy, hee]
    · have k1 : pdecode (pencode mx.toNat 4) 4 = mx.toNat ∧ 0 ≤ mx := by unfold exact8 at hx; simp at hx; exact ⟨hx.2, hx.1⟩
      have k2 : pdecode (pencode ev.toNat 4) 4 = ev.toNat ∧ 0 ≤ ev := by unfold exact8 at he; simp at he; exact ⟨he.2, he.1⟩
      have k3 : flagQ s = q := by
        unfold flagQ; rw [s8, hf]
        cases q
        · exact decide_eq_false (by simp; omega)
        · exact decide_eq_true (by simp; omega)
      have k4 : ((flagR s : Nat) : Int) = r := by
        unfold flagR; rw [s8, hf]
        cases q <;> simp <;> omega
      rw [k3, k4, k1.1, k2.1, Int.toNat_of_nonneg k1.2, Int.toNat_of_nonneg k2.2]
    · rintro (⟨h1, h2⟩ | ⟨h1, h2⟩)
      · rw [decide_eq_false h1, Bool.false_or, h2] at hg
        cases hg
      · rw [hnum] at h2
        rcases hgl with h | h
        · exact h h1
        · rw [h] at h2; exact absurd h2 (by simp)
theorem back_plain (k v : Int) (g : Str) (x y c d : UInt8) (hk : (x = 23 ∧ k = 3 ∧ v = 2) ∨ (x = 18 ∧ k = 2 ∧ v = 1) ∨ (x = 22 ∧ k = 2 ∧ v = 2)) (hg : grp g 4 = true) (hp : psum (x :: y :: c :: d :: g) = 0) :
    pdec (x :: y :: c :: d :: g) = (0, ⟨k, v, g, 0, false, 0, 0, [], []⟩) := by
  obtain ⟨hl, h1, _⟩ := grp_ne hg
  have hd : ((x :: y :: c :: d :: g).drop 4).take 4 = g := by show g.take 4 = g; rw [List.take_of_length_le (by omega)]
  rcases hk with ⟨rfl, rfl, rfl⟩ | ⟨rfl, rfl, rfl⟩ | ⟨rfl, rfl, rfl⟩
  · rw [pdec_kind _ 23 (by simp; omega) hp rfl, if_neg (by decide), if_neg (by decide), if_neg (by decide), hd, if_neg (by rw [hg]; decide)]; rfl
  · rw [pdec_kind _ 18 (by simp; omega) hp rfl, if_neg (by decide), if_neg (by decide), if_neg (by decide), hd, if_neg (by rw [hg]; decide)]; rfl
  · rw [pdec_kind _ 22 (by simp; omega) hp rfl, if_neg (by decide), if_neg (by decide), if_neg (by decide), hd, if_neg (by rw [hg]; decide)]; rfl
theorem back_recs (R : List Rec) (y c d z1 z2 n1 n2 : UInt8) (hok : bodyOk R 4 = true) (hn : n1.toNat * 256 + n2.toNat = R.length) (hp : psum (34 :: y :: c :: d :: z1 :: z2 :: n1 :: n2 :: bodyB R) = 0) :
    pdec (34 :: y :: c :: d :: z1 :: z2 :: n1 :: n2 :: bodyB R) = (0, ⟨2, 3, [], 0, false, 0, 0, [], R⟩) := by
  unfold bodyOk at hok
  simp only [Bool.and_eq_true, decide_eq_true_eq, List.all_eq_true] at hok
  have hnum : numAt (34 :: y :: c :: d :: z1 :: z2 :: n1 :: n2 :: bodyB R) 6 2 = R.length := by unfold numAt; simp [big]; omega
  have hpr : precs (bodyB R) (R.length : Int) 4 = (0, R) := by
    unfold precs
    rw [if_neg (by rintro (h | h); omega; cases h), if_neg (by omega), Int.toNat_natCast, show (4 : Int).toNat = 4 from rfl]
    have := precA_body 4 R hok.2 0 [] []
    rw [Nat.add_zero, List.append_nil, List.nil_append] at this
    rw [this]
    rfl
  rw [pdec_kind _ 34 (by simp) hp rfl, if_neg (by decide), if_pos rfl, hnum]
  rw [show (34 :: y :: c :: d :: z1 :: z2 :: n1 :: n2 :: bodyB R).drop 8 = bodyB R from rfl, hpr]
  rfl
/-- the shape of a message's bytes, and what they decode to whatever stands at the sum (and, of what is no query, at the second byte) -/
theorem back_shape (m : Msg) (h : mayM m = true) : ∃ (x y : UInt8) (rest : Str), bytesM m = x :: y :: 0 :: 0 :: rest ∧ 4 ≤ rest.length ∧
    ∀ y' c d : UInt8, (m.kind = 1 → y' = y) → psum (x :: y' :: c :: d :: rest) = 0 → pdec (x :: y' :: c :: d :: rest) = (0, m) := by
  obtain ⟨k, v, g, mx, q, r, ev, L, R⟩ := m
  by_cases hk : k = 1
  · subst hk
    have h' := h
    unfold mayM at h'
    rw [if_pos rfl] at h'
    simp only [Bool.and_eq_true] at h'
    obtain ⟨⟨hg, hR⟩, h'⟩ := h'
    obtain rfl : R = [] := by simpa using hR
    obtain ⟨hb, hl⟩ := gOr_back hg
    by_cases hv : v = 3
    · subst hv
      rw [if_pos rfl] at h'
      simp only [Bool.and_eq_true, decide_eq_true_eq] at h'
      obtain ⟨⟨⟨⟨⟨h1, h2⟩, h3⟩, h4⟩, h5⟩, h6⟩ := h'
      unfold sized at h5
      simp only [Bool.and_eq_true, decide_eq_true_eq, List.all_eq_true] at h5
      have hp1 := (pencode_spec 4 (.inl rfl) mx.toNat).1
      have hp2 := (pencode_spec 4 (.inl rfl) ev.toNat).1
      obtain ⟨y, hy⟩ := ofN_one (pencode mx.toNat 4)
      obtain ⟨f, hf⟩ := ofN_one (r.toNat + if q then 8 else 0)
      obtain ⟨e, he⟩ := ofN_one (pencode ev.toNat 4)
      obtain ⟨n1, n2, hn⟩ := ofN_two L.length
      have hnn := big_ofN_lt 2 L.length (by omega)
      rw [hn] at hnn
      have hq : (r.toNat + if q then 8 else 0) < 256 := by cases q <;> simp <;> omega
      refine ⟨17, y, gOr g ++ (f :: e :: n1 :: n2 :: L.flatten), ?_, by rw [List.length_append, hl]; omega, fun y' c d hy' hp => ?_⟩
      · have : bytesM ⟨1, 3, g, mx, q, r, ev, L, []⟩ = [17] ++ ofN (pencode mx.toNat 4) 1 ++ [0, 0] ++ gOr g ++ ofN (r.toNat + if q then 8 else 0) 1 ++ ofN (pencode ev.toNat 4) 1 ++ ofN L.length 2 ++ L.flatten := rfl
        rw [this, hy, hf, he, hn]
        simp [List.append_assoc]
      · obtain rfl := hy' rfl
        exact back_long g mx q r ev L hg h1 h2 ⟨h3, h4⟩ h5 (by simpa using h6) y' c d f e n1 n2 (ofN1_toNat _ (by omega) _ hy) (ofN1_toNat _ hq _ hf) (ofN1_toNat _ (by omega) _ he) (by simpa [big] using hnn) hp
    · rw [if_neg hv] at h'
      simp only [Bool.and_eq_true] at h'
      obtain ⟨hbr, h2⟩ := h'
      simp only [Bool.or_eq_true, Bool.and_eq_true, decide_eq_true_eq] at h2
      unfold bare at hbr
      simp only [Bool.and_eq_true, decide_eq_true_eq] at hbr
      obtain ⟨⟨⟨⟨⟨_, b2⟩, b3⟩, b4⟩, b5⟩, _⟩ := hbr
      obtain rfl : q = false := by simpa using b2
      subst b3 b4 b5
      obtain ⟨y, hy⟩ := ofN_one mx.toNat
      have hyn := ofN1_toNat mx.toNat (by omega) y hy
      refine ⟨17, y, gOr g, ?_, by omega, fun y' c d hy' hp => ?_⟩
      · have : bytesM ⟨1, v, g, mx, false, 0, 0, [], []⟩ = [17] ++ ofN mx.toNat 1 ++ [0, 0] ++ gOr g := by unfold bytesM; rw [if_pos rfl, if_pos (by dsimp only; omega)]; rfl
        rw [this, hy]
        simp
      · obtain rfl := hy' rfl
        exact back_short v g mx (by omega) hg y' c d (by omega) hp
  · have h' := h
    unfold mayM at h'
    rw [if_neg hk] at h'
    by_cases h23 : k = 2 ∧ v = 3
    · obtain ⟨rfl, rfl⟩ := h23
      rw [if_pos ⟨rfl, rfl⟩] at h'
      simp only [Bool.and_eq_true, decide_eq_true_eq] at h'
      obtain ⟨⟨hg, hok⟩, hbr⟩ := h'
      unfold bare at hbr
      simp only [Bool.and_eq_true, decide_eq_true_eq] at hbr
      obtain ⟨⟨⟨⟨⟨b1, b2⟩, b3⟩, b4⟩, b5⟩, _⟩ := hbr
      obtain rfl : q = false := by simpa using b2
      subst hg b1 b3 b4 b5
      have h30 : R.length ≤ 30 := by unfold bodyOk at hok; simp only [Bool.and_eq_true, decide_eq_true_eq] at hok; exact hok.1.2
      obtain ⟨n1, n2, hn⟩ := ofN_two R.length
      have hnn := big_ofN_lt 2 R.length (by omega)
      rw [hn] at hnn
      refine ⟨34, 0, 0 :: 0 :: n1 :: n2 :: bodyB R, ?_, by simp, fun y' c d _ hp => back_recs R y' c d 0 0 n1 n2 hok (by simpa [big] using hnn) hp⟩
      have : bytesM ⟨2, 3, [], 0, false, 0, 0, [], R⟩ = [34, 0, 0, 0, 0, 0] ++ ofN R.length 2 ++ bodyB R := rfl
      rw [this, hn]
      simp
    · rw [if_neg h23] at h'
      simp only [Bool.and_eq_true] at h'
      obtain ⟨⟨hc, hg⟩, hbr⟩ := h'
      simp only [Bool.or_eq_true, Bool.and_eq_true, decide_eq_true_eq] at hc
      unfold bare at hbr
      simp only [Bool.and_eq_true, decide_eq_true_eq] at hbr
      obtain ⟨⟨⟨⟨⟨b1, b2⟩, b3⟩, b4⟩, b5⟩, b6⟩ := hbr
      obtain rfl : q = false := by simpa using b2
      subst b1 b3 b4 b5 b6
      obtain ⟨hl, hne, _⟩ := grp_ne hg
      have key : ∀ x : UInt8, ((x = 23 ∧ k = 3 ∧ v = 2) ∨ (x = 18 ∧ k = 2 ∧ v = 1) ∨ (x = 22 ∧ k = 2 ∧ v = 2)) → bytesM ⟨k, v, g, 0, false, 0, 0, [], []⟩ = x :: 0 :: 0 :: 0 :: g := by
        intro x hx
        unfold bytesM grpB
        rcases hx with ⟨rfl, rfl, rfl⟩ | ⟨rfl, rfl, rfl⟩ | ⟨rfl, rfl, rfl⟩ <;> simp [hne]
      have hx : ∃ x : UInt8, (x = 23 ∧ k = 3 ∧ v = 2) ∨ (x = 18 ∧ k = 2 ∧ v = 1) ∨ (x = 22 ∧ k = 2 ∧ v = 2) := by
        rcases hc with ⟨h2, h1 | h1⟩ | ⟨h3, h2⟩
        · exact ⟨18, .inr (.inl ⟨rfl, h2, h1⟩)⟩
        · exact ⟨22, .inr (.inr ⟨rfl, h2, h1⟩)⟩
        · exact ⟨23, .inl ⟨rfl, h3, h2⟩⟩
      obtain ⟨x, hx⟩ := hx
      exact ⟨x, 0, g, key x hx, by omega, fun y' c d _ hp => back_plain k v g x y' c d hx hg hp⟩
theorem back (m : Msg) (h : mayM m = true) : pdec (fillS [] (bytesM m) 2) = (0, m) ∧ psum (fillS [] (bytesM m) 2) = 0 := by
  obtain ⟨x, y, rest, hb, _, hd⟩ := back_shape m h
  have hp := fill_right x y 0 0 rest
  obtain ⟨c, d, hf⟩ := fill_cons x y 0 0 rest
  rw [hb]
  rw [hf] at hp ⊢
  exact ⟨hd y c d (fun _ => rfl) hp, hp⟩
/-- the second byte is free -/
theorem free (m : Msg) (h : mayM m = true) (hk : m.kind ≠ 1) (y : UInt8) : ∃ (x y0 c d : UInt8) (rest : Str), fillS [] (bytesM m) 2 = x :: y0 :: c :: d :: rest ∧ 4 ≤ rest.length ∧ pdec (fillS [] (x :: y :: c :: d :: rest) 2) = (0, m) := by
  obtain ⟨x, y0, rest, hb, hl, hd⟩ := back_shape m h
  obtain ⟨c, d, hf⟩ := fill_cons x y0 0 0 rest
  have hp := fill_right x y c d rest
  obtain ⟨c', d', hf'⟩ := fill_cons x y c d rest
  refine ⟨x, y0, c, d, rest, by rw [hb]; exact hf, hl, ?_⟩
  rw [hf'] at hp ⊢
  exact hd y c' d' (fun e => absurd e hk) hp
end Go.Proofs.Ythkogdgfkhhleaa
