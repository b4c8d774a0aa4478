/- igmp.Body. -/
import Derived.Test.YthkogdgfkhhleaaJWr
import Derived.Test.YthkogdgfkhhleaaJRecs
namespace Go.Proofs.Ythkogdgfkhhleaa
open Go.RowKit Go.Sort
set_option maxRecDepth 20000
set_option maxRecDepth 20000
attribute [local go_sem] bstr_size bstr_extract bstr_toList bstr_get

theorem flat_len (L : List Str) (n m : Nat) (h1 : L.length ≤ n) (h2 : ∀ a ∈ L, a.length ≤ m) : L.flatten.length ≤ n * m := by
  induction L generalizing n with
  | nil => simp
  | cons a L ih =>
    cases n with
    | zero => simp at h1
    | succ n =>
      have := ih n (by simpa using h1) (fun x hx => h2 x (List.mem_cons_of_mem _ hx))
      have := h2 a (List.mem_cons_self ..)
      rw [List.flatten_cons, List.length_append, Nat.succ_mul]
      omega
theorem recOk_parts {size : Nat} {r : Rec} (h : recOk size r = true) : (1 ≤ r.1 ∧ r.1 ≤ 6) ∧ r.2.1.length = size ∧ grp r.2.1 size = true ∧ r.2.2.length ≤ 60 ∧ ∀ a ∈ r.2.2, a.length = size := by
  unfold recOk sized at h
  simp only [Bool.and_eq_true, decide_eq_true_eq, List.all_eq_true] at h
  obtain ⟨⟨⟨h1, h2⟩, h3⟩, h4, h5⟩ := h
  refine ⟨⟨h1, h2⟩, ?_, h3, h4, h5⟩
  unfold grp at h3
  simp only [Bool.and_eq_true, decide_eq_true_eq] at h3
  exact h3.1
theorem recB_len {size : Nat} {r : Rec} (h : recOk size r = true) (hs : size ≤ 16) : (recB r).length ≤ 1000 := by
  obtain ⟨_, h2, _, h4, h5⟩ := recOk_parts h
  have h6 := flat_len r.2.2 60 16 h4 (fun a ha => by rw [h5 a ha]; exact hs)
  unfold recB
  simp only [List.length_append, ofN_length, List.length_cons, List.length_nil]
  omega
theorem bodyB_len (size : Nat) (hs : size ≤ 16) : ∀ R : List Rec, (∀ r ∈ R, recOk size r = true) → (bodyB R).length ≤ R.length * 1000
  | [], _ => by simp [bodyB]
  | r :: R, h => by
    have h1 := recB_len (h r (List.mem_cons_self ..)) hs
    have h2 := bodyB_len size hs R (fun x hx => h x (List.mem_cons_of_mem _ hx))
    simp only [bodyB, List.flatMap_cons, List.length_append, List.length_cons] at h2 ⊢
    omega
theorem bodyB_snoc (R : List Rec) (k : Nat) (h : k < R.length) (r : Rec) (hr : r = R.getD k default) : bodyB (R.take (k + 1)) = bodyB (R.take k) ++ recB r := by
  have : R[k] = r := by rw [hr]; simp [List.getD_eq_getElem?_getD, h]
  unfold bodyB
  rw [take_snoc R k h, List.flatMap_append, this]
  simp
theorem recB_parts {size : Nat} {r : Rec} (h : recOk size r = true) : recB r = putS r.1 1 ++ putS 0 1 ++ putS r.2.2.length 2 ++ [r.2.1].flatten ++ r.2.2.flatten ∧ okPut r.1 1 = true ∧ okPut 0 1 = true ∧ okPut r.2.2.length 2 = true := by
  obtain ⟨h1, _, _, h4, _⟩ := recOk_parts h
  have k1 : okPut r.1 1 = true := by unfold okPut; rw [decide_eq_true (by omega), decide_eq_true (by omega)]; rfl
  have k3 : okPut r.2.2.length 2 = true := by unfold okPut; rw [decide_eq_true (by omega), decide_eq_true (by omega)]; rfl
  refine ⟨?_, k1, rfl, k3⟩
  unfold putS recB
  rw [if_pos k1, if_pos k3, if_pos (show okPut 0 1 = true from rfl), Int.toNat_natCast]
  simp
  rfl

theorem strs_one (W : World) (G : Str) (hG : G.length ≤ maxLen) : Strs (W.alloc (.cells #[.string (bstr G)] 23)) (.slice (some ⟨W.heap.size, 0, none⟩) 1 1) [G] := by
  have h : CBox (W.alloc (.cells #[.string (bstr G)] 23)) W.heap.size 23 #[.string (bstr G)] := CBox.new _ rfl
  refine ⟨_, _, W.heap.size, 0, rfl, .inr rfl, by simp, by simpa using hG, fun k hk => ?_⟩
  obtain rfl : k = 0 := by simpa using hk
  exact ⟨h.lt, by rw [(h.at_ 0 _ rfl).1, enc_bstr]; rfl⟩
theorem apart_one (W : World) (G : Str) (b : Nat) (hb : b < W.heap.size) : Apart (W.alloc (.cells #[.string (bstr G)] 23)) (.slice (some ⟨W.heap.size, 0, none⟩) 1 1) [G] b := by
  have h : CBox (W.alloc (.cells #[.string (bstr G)] 23)) W.heap.size 23 #[.string (bstr G)] := CBox.new _ rfl
  intro _ j hj
  have e : j = W.heap.size := by simpa [Value.ownBlock, eq_comm] using hj
  subst e
  refine ⟨by omega, .inr ?_⟩
  rintro ⟨cs, fr, e⟩
  rw [h] at e
  injection e with e
  injection e with e1 e2
  exact absurd e2 (by decide)

def RetBody (w : World) (s : Str) (er : Int) (e : Ending) (w' : World) : Prop := e = .returned (.tuple #[.string (bstr s), .int .i64 er]) ∧ Below w.heap.size w w'
theorem body_bad (w w' : World) (P : Str × Int) (h : P = ([], 1)) (hb : Below w.heap.size w w') : RetBody w P.1 P.2 (.returned (.tuple #[.string ⟨#[]⟩, .int .i64 1])) w' := by
  subst h
  exact ⟨by rw [show bstr (([], 1) : Str × Int).1 = ⟨#[]⟩ from bstr_nil], hb⟩
def okTo (size : Nat) (R : List Rec) (k : Nat) : Prop := ∀ r ∈ R.take k, recOk size r = true
set_option maxHeartbeats 4000000 in
theorem body_nat (v : Value) (R : List Rec) (size : Nat) (w : World) (h : Recs w v R) (hsz : size = 4 ∨ size = 16) (hn : R.length ≤ 30) :
    Calls Try.prog 20 #[v, .int .i64 size] w (RetBody w (pbody R size).1 (pbody R size).2) := by
  have HSZ := Lib.hid (isSize_any size w)
  have hok : okSize (size : Int) = true := by unfold okSize; rcases hsz with rfl | rfl <;> rfl
  rw [hok] at HSZ
  have h16 : size ≤ 16 := by omega
  have HP := Lib.hid (show pbody R size = if R.all (recOk size) then (bodyB R, 0) else ([], 1) from by
    unfold pbody bodyOk
    rw [hok, decide_eq_true hn, Int.toNat_natCast]
    rfl)
  obtain ⟨P, hP⟩ : ∃ P, P = pbody R size := ⟨_, rfl⟩
  rw [← hP] at HP ⊢
  obtain ⟨_, _, src, _, hlen, h9, h8⟩ := h.facts
  clear h9 h8 src
  have d30 : decide ((30 : Int) < R.length) = false := decide_eq_false (by omega)
  have d30' : decide (30 < R.length) = false := decide_eq_false (by omega)
  have HR := Lib.hid (And.intro h (And.intro hn h16))
  clear h hsz hok h16 hP hn
  go_enter Try.func20, Try.ntmps20
  go_upto_region 4 with ((with_reducible refine HSZ.out.mono ?_); rintro e w2 ⟨rfl, hw2⟩; subst w2)
  clear d30 d30'
  obtain ⟨b, hb⟩ : ∃ b, b = w.heap.size := ⟨_, rfl⟩
  obtain ⟨W1, hW1⟩ : ∃ W1, W1 = w.alloc (.cells #[.pointer none, .slice none 0 0, .bool false] 62) := ⟨_, rfl⟩
  have HW1 := Lib.hid (show Wr W1 b [] false from by rw [hW1]; exact Wr.new hb)
  have HB1 := Lib.hid (show Below b w W1 from by rw [hW1, hb]; exact (Below.refl _ _).alloc (Nat.le_refl _) _)
  rw [← hW1, ← hb]
  have HNB := Lib.hid hb
  clear hW1 hb
  go_wp2_with fail
  go_loopw [8, 19, 20, 21, 22, 23, 24, 25, 26, 27, 28, 29, 30, 31, 32, 33, 34, 35, 36, 37, 38, 39, 40, 41, 42, 43, 44, 45, 46, 47, 48, 49, 50, 51, 52, 53, 54, 55, 56] (fun _ i _ _ _ _ _ _ _ _ _ _ _ _ _ _ _ _ _ _ _ _ _ _ _ _ _ _ _ _ _ _ _ _ _ _ _ _ _ wr => ∃ k : Nat, k ≤ R.length ∧ i = .int .i64 k ∧ okTo size R k ∧ Wr wr b (bodyB (R.take k)) false ∧ Below b w wr) (fun _ i _ _ _ _ _ _ _ _ _ _ _ _ _ _ _ _ _ _ _ _ _ _ _ _ _ _ _ _ _ _ _ _ _ _ _ _ _ _ => R.length - (RowKit.intOf i).toNat)
  case atStart => exact ⟨0, Nat.zero_le _, rfl, by simp [okTo], by simpa [bodyB] using HW1.out, HB1.out⟩
  case round =>
    obtain ⟨k, hk, rfl, hok, hw, hbw⟩ := hrel
    by_cases hlt : k < R.length
    · obtain ⟨bb, off, src, h7, h9, hidx, hc⟩ := HR.out.1.facts
      clear h7 h9
      obtain ⟨hbb, hc0, hc1, hc2, hst0, hgl⟩ := hc k hlt
      have hbe := HNB.out
      replace hc0 := (hbw.cell (p := ⟨bb, off + k * 3, none⟩) (by rw [hbe]; exact hbb)).trans hc0
      replace hc1 := (hbw.cell (p := ⟨bb, off + k * 3 + 1, none⟩) (by rw [hbe]; exact hbb)).trans hc1
      replace hc2 := (hbw.cell (p := ⟨bb, off + k * 3 + 2, none⟩) (by rw [hbe]; exact hbb)).trans hc2
      have hp := hidx k hlt
      obtain ⟨r, hr⟩ : ∃ r, r = R.getD k default := ⟨_, rfl⟩
      rw [← hr] at hc0 hc1 hst0 hgl
      obtain ⟨K, hK⟩ : ∃ K, r.1 = K := ⟨_, rfl⟩
      obtain ⟨G, hG⟩ : ∃ G, r.2.1 = G := ⟨_, rfl⟩
      obtain ⟨L, hL⟩ : ∃ L, r.2.2 = L := ⟨_, rfl⟩
      rw [hK] at hc0
      rw [hG] at hc1 hgl
      rw [hL] at hst0
      obtain ⟨vs, hvs⟩ : ∃ vs, src k = vs := ⟨_, rfl⟩
      rw [hvs] at hc2 hst0
      obtain ⟨ao, cc, rfl⟩ := hst0.shape
      have hst := hst0.mono (hbe ▸ hbw)
      have HAP := Lib.hid (fun W => Apart.of_below (w := W) hst0 (Nat.le_of_eq hbe.symm))
      have HR0 := Lib.hid (And.intro hr (And.intro hK (And.intro hG hL)))
      have HW := Lib.hid hw; have HBW := Lib.hid hbw; have HOK := Lib.hid hok
      have HST := Lib.hid hst; have HGL := Lib.hid hgl
      clear hidx hc hr hK hG hL hvs hw hbw hok hst hst0 hgl hk hbb hbe
      go_upto_region 7 with fail
      obtain ⟨W6, hW6⟩ : ∃ W6, wr.alloc (.cells #[.int .i64 K, .string (bstr G), .slice ao L.length cc] 57) = W6 := ⟨_, rfl⟩
      obtain ⟨rb, hrb⟩ : ∃ rb, wr.heap.size = rb := ⟨_, rfl⟩
      have X6 : CBox W6 rb 57 #[.int .i64 K, .string (bstr G), .slice ao L.length cc] := by rw [← hW6]; exact CBox.new _ hrb.symm
      have hb6 : Below wr.heap.size wr W6 := by rw [← hW6]; exact (Below.refl _ _).alloc (Nat.le_refl _) _
      have HW6 := Lib.hid (HW.out.kept hb6)
      have HBW6 := Lib.hid (HBW.out.trans (hb6.mono (Nat.le_of_lt HW.out.lt)))
      have HST6 := Lib.hid (HST.out.mono hb6)
      have HRB := Lib.hid (show rb ≠ b from by have := HW.out.lt; omega)
      rw [hW6, hrb]
      have HX6 := Lib.hid X6
      obtain ⟨x0, f0⟩ := X6.at_ 0 _ rfl
      obtain ⟨x1, f1⟩ := X6.at_ 1 _ rfl
      obtain ⟨x2, f2⟩ := X6.at_ 2 _ rfl
      have HKN := Lib.hid (known_any8 K W6)
      have HGR := Lib.hid (isGroup_any G size W6 HGL.out)
      have HOKR := Lib.hid (show recOk size r = (knownI K && grp G size && sized L size) from by
        unfold recOk knownI; rw [HR0.out.2.1, HR0.out.2.2.1, HR0.out.2.2.2])
      obtain ⟨q1, hq1⟩ : ∃ q1, q1 = knownI K := ⟨_, rfl⟩
      obtain ⟨q2, hq2⟩ : ∃ q2, q2 = grp G size := ⟨_, rfl⟩
      obtain ⟨q3, hq3⟩ : ∃ q3, q3 = sized L size := ⟨_, rfl⟩
      have HFT := Lib.hid (fun W (h : Strs W (.slice ao L.length cc) L) => fit_any _ L size W h)
      rw [← hq1, ← hq2, ← hq3] at HOKR
      rw [← hq1] at HKN
      rw [← hq2] at HGR
      rw [← hq3] at HFT
      clear hq1 hq2 hq3 X6 hb6 hW6 hrb hc0 hc1 hc2
      cases hqq : (q1 && q2 && q3)
      · have HPE := Lib.hid (show P = ([], 1) from by
          rw [HP.out, if_neg]
          rw [List.all_eq_true]
          intro ha
          have := ha r (by rw [HR0.out.1, List.getD_eq_getElem?_getD, List.getElem?_eq_getElem hlt]; exact List.getElem_mem hlt)
          rw [HOKR.out, hqq] at this
          cases this)
        cases q1
        · go_wp2_with (first | ((with_reducible refine HKN.out.mono ?_); rintro e w7 ⟨rfl, hw7⟩; subst w7))
          go_ret2
          exact body_bad w _ P HPE.out (HNB.out ▸ HBW6.out)
        · cases q2
          · go_wp2_with (first | ((with_reducible refine HKN.out.mono ?_); rintro e w7 ⟨rfl, hw7⟩; subst w7) | ((with_reducible refine HGR.out.mono ?_); rintro e w8 ⟨rfl, hb8⟩; have HBW8 := Lib.hid (HBW6.out.trans (hb8.mono (Nat.le_of_lt HW6.out.lt))); clear hb8))
            go_ret2
            exact body_bad w _ P HPE.out (HNB.out ▸ HBW8.out)
          · obtain rfl : q3 = false := hqq
            go_wp2_with (first | ((with_reducible refine HKN.out.mono ?_); rintro e w7 ⟨rfl, hw7⟩; subst w7) | ((with_reducible refine HGR.out.mono ?_); rintro e w8 ⟨rfl, hb8⟩; have HBW8 := Lib.hid (HBW6.out.trans (hb8.mono (Nat.le_of_lt HW6.out.lt))); have HST8 := Lib.hid (HST6.out.mono hb8); have HX8 := Lib.hid (HX6.out.below hb8 HX6.out.lt); clear hb8 x0 x1 x2 f0 f1 f2; obtain ⟨x2, f2⟩ := HX8.out.at_ 2 _ rfl) | ((with_reducible refine (HFT.out _ HST8.out).mono ?_); rintro e w9 ⟨rfl, hw9⟩; subst w9))
            go_ret2
            exact body_bad w _ P HPE.out (HNB.out ▸ HBW8.out)
      · have HRO := Lib.hid (show recOk size r = true from by rw [HOKR.out, hqq])
        obtain ⟨rfl, rfl, rfl⟩ : q1 = true ∧ q2 = true ∧ q3 = true := by cases q1 <;> cases q2 <;> cases q3 <;> first | exact ⟨rfl, rfl, rfl⟩ | cases hqq
        clear hqq
        have hpt := recB_parts HRO.out
        have hpl := recOk_parts HRO.out
        rw [HR0.out.2.1, HR0.out.2.2.1, HR0.out.2.2.2] at hpt hpl
        have HQ := Lib.hid hpt
        have hSl : (bodyB (R.take k)).length ≤ 30000 := by
          have h1 := bodyB_len size HR.out.2.2 (R.take k) HOK.out
          have h2 : (R.take k).length ≤ 30 := Nat.le_trans (List.length_take_le _ _) (Nat.le_trans (Nat.le_of_lt hlt) HR.out.2.1)
          have h3 : (R.take k).length * 1000 ≤ 30 * 1000 := Nat.mul_le_mul_right _ h2
          omega
        have hFl := flat_len L 60 16 hpl.2.2.2.1 (fun a ha => by rw [hpl.2.2.2.2 a ha]; exact HR.out.2.2)
        obtain ⟨S, hS⟩ : ∃ S, S = bodyB (R.take k) := ⟨_, rfl⟩
        rw [← hS] at HW6 hSl
        have HSB := Lib.hid (show bodyB (R.take (k + 1)) = S ++ putS K 1 ++ putS 0 1 ++ putS L.length 2 ++ [G].flatten ++ L.flatten from by
          rw [bodyB_snoc R k hlt r HR0.out.1, HQ.out.1, hS]; simp only [List.append_assoc])
        obtain ⟨o1, ho1⟩ : ∃ o, o = okPut K 1 := ⟨_, rfl⟩
        have HP1 := Lib.hid (fun W (hw : Wr W b S false) => wput1 b S false K W hw (by omega))
        have HP2 := Lib.hid (fun W (hw : Wr W b (S ++ putS K 1) false) => wput1 b (S ++ putS K 1) false 0 W hw (by have := putS_len K 1; rw [List.length_append]; omega))
        have HP3 := Lib.hid (fun W (hw : Wr W b (S ++ putS K 1 ++ putS 0 1) false) => wput2 b (S ++ putS K 1 ++ putS 0 1) false L.length W hw (by have := putS_len K 1; have := putS_len 0 1; simp only [List.length_append]; omega))
        rw [hpt.2.1] at HP1
        rw [hpt.2.2.1] at HP2
        rw [hpt.2.2.2] at HP3
        have hG16 : G.length ≤ 16 := by rw [hpl.2.1]; exact HR.out.2.2
        have HA1 := Lib.hid (fun W (hw : Wr W b (S ++ putS K 1 ++ putS 0 1 ++ putS L.length 2) false) => waddrs_any b (S ++ putS K 1 ++ putS 0 1 ++ putS L.length 2) false _ [G] _ (hw.kept ((Below.refl _ _).alloc (Nat.le_refl _) (.cells #[.string (bstr G)] 23))) (strs_one W G (Nat.le_trans hG16 (by decide))) (apart_one W G b hw.lt) (by have := putS_len K 1; have := putS_len 0 1; have := putS_len L.length 2; simp only [List.length_append, List.flatten_cons, List.flatten_nil, List.length_nil]; omega))
        have HA2 := Lib.hid (fun W (hw : Wr W b (S ++ putS K 1 ++ putS 0 1 ++ putS L.length 2 ++ [G].flatten) false) (hs : Strs W (.slice ao L.length cc) L) (ha : Apart W (.slice ao L.length cc) L b) => waddrs_any b (S ++ putS K 1 ++ putS 0 1 ++ putS L.length 2 ++ [G].flatten) false _ L W hw hs ha (by have := putS_len K 1; have := putS_len 0 1; have := putS_len L.length 2; simp only [List.length_append, List.flatten_cons, List.flatten_nil, List.length_nil]; omega))
        have HOK2 := Lib.hid (show okTo size R (k + 1) from by
          intro x hx
          rw [take_snoc R k hlt] at hx
          rcases List.mem_append.1 hx with hx | hx
          · exact HOK.out x hx
          · rw [List.mem_singleton] at hx; subst hx
            have e : R[k] = r := by rw [HR0.out.1, List.getD_eq_getElem?_getD, List.getElem?_eq_getElem hlt]; rfl
            rw [e]; exact HRO.out)
        have hwk : wrap64 ((k : Int) + 1) = (k : Int) + 1 := w64 _ (Int.le_add_one (Int.natCast_nonneg _)) (Int.le_trans (Int.ofNat_le.2 (Nat.succ_le_succ (Nat.le_trans (Nat.le_of_lt hlt) HR.out.2.1))) (by decide))
        have hlenL := run_len_any (P := Try.prog) Try.underlying24 ao L.length cc
        clear hpt hpl hSl hFl hS ho1 o1 hG16
        go_wp2_with (first
          | ((with_reducible refine HKN.out.mono ?_); rintro e w7 ⟨rfl, hw7⟩; subst w7)
          | ((with_reducible refine HGR.out.mono ?_); rintro e w8 ⟨rfl, hb8⟩; have HBW8 := Lib.hid (HBW6.out.trans (hb8.mono (Nat.le_of_lt HW6.out.lt))); have HST8 := Lib.hid (HST6.out.mono hb8); have HW8 := Lib.hid (HW6.out.kept hb8); have HX8 := Lib.hid (HX6.out.below hb8 HX6.out.lt); clear hb8 x0 x1 x2 f0 f1 f2; obtain ⟨x0, f0⟩ := HX8.out.at_ 0 _ rfl; obtain ⟨x2, f2⟩ := HX8.out.at_ 2 _ rfl)
          | ((with_reducible refine (HFT.out _ HST8.out).mono ?_); rintro e w9 ⟨rfl, hw9⟩; subst w9)
          | ((with_reducible refine (HP1.out _ HW8.out).mono ?_); rintro e w10 ⟨rfl, hw10, ht10⟩; have HW10 := Lib.hid hw10; have HT10 := Lib.hid ht10; clear hw10 ht10)
          | ((with_reducible refine (HP2.out _ HW10.out).mono ?_); rintro e w11 ⟨rfl, hw11, ht11⟩; have HW11 := Lib.hid hw11; have HT11 := Lib.hid (HT10.out.trans ht11); have HX11 := Lib.hid (HT11.out.box HX8.out HRB.out (by decide)); clear hw11 ht11 x0 x2 f0 f2; obtain ⟨x2, f2⟩ := HX11.out.at_ 2 _ rfl)
          | ((with_reducible refine (HP3.out _ HW11.out).mono ?_); rintro e w12 ⟨rfl, hw12, ht12⟩; have HW12 := Lib.hid hw12; have HT12 := Lib.hid (HT11.out.trans ht12); have HX12 := Lib.hid (HT12.out.box HX8.out HRB.out (by decide)); clear hw12 ht12 x2 f2; obtain ⟨x1, f1⟩ := HX12.out.at_ 1 _ rfl)
          | ((with_reducible refine (HA1.out _ HW12.out).mono ?_); rintro e w13 ⟨rfl, hw13, ht13⟩; have HW13 := Lib.hid hw13; have HT13 := Lib.hid ((HT12.out.trans (Tur.of_below ((Below.refl _ _).alloc (Nat.le_refl _) _) (Nat.le_of_lt HW12.out.lt))).trans ht13); have HX13 := Lib.hid (HT13.out.box HX8.out HRB.out (by decide)); clear hw13 ht13 x1 f1; obtain ⟨x2, f2⟩ := HX13.out.at_ 2 _ rfl)
          | ((with_reducible refine (HA2.out _ HW13.out (HST8.out.tur (HAP.out _) HT13.out).1 (HST8.out.tur (HAP.out _) HT13.out).2).mono ?_); rintro e w14 ⟨rfl, hw14, ht14⟩; have HW14 := Lib.hid hw14; have HT14 := Lib.hid (HT13.out.trans ht14); clear hw14 ht14))
        refine ⟨⟨k + 1, hlt, rfl, HOK2.out, by rw [HSB.out]; exact HW14.out, HBW8.out.trans HT14.out.1⟩, meas_up R.length k hlt⟩
    · obtain rfl : R.length = k := Nat.le_antisymm (Nat.le_of_not_lt hlt) hk
      rw [List.take_length] at hw
      have hok' : ∀ r ∈ R, recOk size r = true := by have := hok; unfold okTo at this; rwa [List.take_length] at this
      have HPE := Lib.hid (show P = (bodyB R, 0) from by rw [HP.out, if_pos (List.all_eq_true.2 hok')])
      have HT := Lib.hid (wtext_any b (bodyB R) false wr hw (Nat.le_trans (bodyB_len size HR.out.2.2 R hok') (Nat.le_trans (Nat.mul_le_mul_right 1000 HR.out.2.1) (by decide))))
      have HBW := Lib.hid hbw
      clear hw hok hok' hbw hlt hk
      go_wp2_with ((with_reducible refine HT.out.mono ?_); rintro e w14 ⟨rfl, hb14⟩; have HB14 := Lib.hid (HBW.out.trans hb14); clear hb14)
      go_ret2
      exact ⟨by rw [HPE.out]; rfl, HNB.out ▸ HB14.out⟩

theorem body_any (v : Value) (R : List Rec) (size : Int) (w : World) (h : Recs w v R) :
    Calls Try.prog 20 #[v, .int .i64 size] w (RetBody w (pbody R size).1 (pbody R size).2) := by
  obtain ⟨_, _, src, _, hlen, h9, h8⟩ := h.facts
  clear h9 h8 src
  by_cases hz : okSize size = true
  · obtain ⟨z, rfl, hz2⟩ : ∃ z : Nat, size = z ∧ (z = 4 ∨ z = 16) := by
      unfold okSize at hz
      rcases Bool.or_eq_true _ _ ▸ hz with e | e
      · exact ⟨4, of_decide_eq_true e, .inl rfl⟩
      · exact ⟨16, of_decide_eq_true e, .inr rfl⟩
    by_cases hn : R.length ≤ 30
    · exact body_nat v R z w h hz2 hn
    · have HP := Lib.hid (show pbody R (z : Int) = ([], 1) from by unfold pbody bodyOk; rw [decide_eq_false hn]; simp)
      have HSZ := Lib.hid (isSize_any z w)
      rw [hz] at HSZ
      have d30 : decide ((30 : Int) < R.length) = true := decide_eq_true (by omega)
      have d30' : decide (30 < R.length) = true := decide_eq_true (by omega)
      clear h hz hz2 hn
      go_enter Try.func20, Try.ntmps20
      go_wp2_with ((with_reducible refine HSZ.out.mono ?_); rintro e w2 ⟨rfl, hw2⟩; subst w2)
      go_ret2
      exact body_bad w _ _ HP.out (Below.refl _ _)
  · have HP := Lib.hid (show pbody R size = ([], 1) from by unfold pbody bodyOk; rw [Bool.not_eq_true] at hz; rw [hz]; simp)
    have HSZ := Lib.hid (isSize_any size w)
    rw [Bool.not_eq_true] at hz
    rw [hz] at HSZ
    clear h hz
    go_enter Try.func20, Try.ntmps20
    go_wp2_with ((with_reducible refine HSZ.out.mono ?_); rintro e w2 ⟨rfl, hw2⟩; subst w2)
    go_ret2
    exact body_bad w _ _ HP.out (Below.refl _ _)
end Go.Proofs.Ythkogdgfkhhleaa
