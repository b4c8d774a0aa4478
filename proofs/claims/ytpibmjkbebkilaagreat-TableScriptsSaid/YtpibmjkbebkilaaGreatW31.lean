/- Texts joined into one file: UExp, URep, USc. -/
import Derived.Test.YtpibmjkbebkilaaGreatW30
import Derived.Test.YtpibmjkbebkilaaGreatW29
import Derived.Test.YtpibmjkbebkilaaGreatW26
import Derived.Test.YtpibmjkbebkilaaGreatW27
import Derived.Test.YtpibmjkbebkilaaGreatW23
import Derived.Test.YtpibmjkbebkilaaGreatW24
import Derived.Test.YtpibmjkbebkilaaGreatW15

namespace Go.Proofs.YtpibmjkbebkilaaGreat
open Go.RowKit Go.Lib Go.Maps Go.Sort
set_option maxRecDepth 20000
set_option maxRecDepth 20000

section
variable {w : World} {B q : Nat} {room M L : Int} {Q : List QRow18} {S : List (Int × Int)}
theorem rows_at {v : Value} {g : Nat} (hrows : w.ownsRow B 73 6 v Q.length (Q.flatMap rcell)) (hg : v.ownBlock = some g) :
 B ≤ g ∧ ∃ cur, w.heap[g]? = some (.cells cur 73 (0, 0)) ∧ ∀ j i, (hj : j < Q.length) → i < 6 → cur[j * 6 + i]? = (rcell Q[j])[i]? := by
 obtain ⟨hB, cur, e, hsz, ht⟩ := own_type hrows hg
 refine ⟨hB, cur, e, fun j i hj hi => ?_⟩
 have := gflat_get rcell_len Q j i hj hi
 rw [show Q.getD j default = Q[j] from by simp [List.getD_eq_getElem?_getD, hj], ← ht, List.getElem?_take, if_pos (by omega)] at this
 rw [← this]
 simp
theorem Kt.cellS {v u : Value} {j i g : Nat} {y : QRow18} {x : Value} (h1 : CBox w q 35 #[.int .i64 room, .int .i64 M, .int .i64 L, v, u]) (_hB : B ≤ q) (hrows : w.ownsRow B 73 6 v Q.length (Q.flatMap rcell))
 (hS : w.ownsRow B 98 2 u S.length (S.flatMap scell)) (hN : NoStr w u) (hg : v.ownBlock = some g) (hj : j < Q.length) (hi : 3 ≤ i ∧ i < 6) (hy : rcell y = (rcell Q[j]).set i x) (hsh : ∃ ao n c, Q[j].2 = .slice ao n c) :
 CBox (w.setCell ⟨g, j * 6 + i, none⟩ x) q 35 #[.int .i64 room, .int .i64 M, .int .i64 L, v, u] ∧
 (w.setCell ⟨g, j * 6 + i, none⟩ x).ownsRow B 73 6 v (Q.set j y).length ((Q.set j y).flatMap rcell) ∧
 (w.setCell ⟨g, j * 6 + i, none⟩ x).ownsRow B 98 2 u S.length (S.flatMap scell) ∧ NoStr (w.setCell ⟨g, j * 6 + i, none⟩ x) u ∧ RTurn B w (w.setCell ⟨g, j * 6 + i, none⟩ x) := by
 obtain ⟨hBg, cur, e, hat⟩ := rows_at hrows hg
 obtain ⟨so, sn, sc, hsh⟩ := hsh
 have hne : ∀ {k : Nat} {cs : Array Value} {T : TypeId} {fr : Nat × Nat}, w.heap[k]? = some (.cells cs T fr) → T ≠ 73 → (w.setCell ⟨g, j * 6 + i, none⟩ x).heap[k]? = w.heap[k]? := fun {k cs T fr} hk hT => Below.heap_setCell _ _ _ k (fun q => by
  have q : k = g := q
  subst q
  rw [hk] at e
  injection e with e
  injection e with _ e _
  exact hT e)
 have hown := own_setIn hrows hg (show j * 6 + i < Q.length * 6 by omega) x
 rw [gflat_set rcell_len Q j i x y hj hi.2 (by rw [show Q.getD j default = Q[j] from by simp [List.getD_eq_getElem?_getD, hj]]; exact hy)] at hown
 have hk : ∀ k, u.ownBlock = some k → (w.setCell ⟨g, j * 6 + i, none⟩ x).heap[k]? = w.heap[k]? := fun k hk => by
  obtain ⟨_, c, e', _⟩ := own_type hS hk
  exact hne e' (by decide)
 have hcell : ∀ s, cur[j * 6 + i]? ≠ some (Value.string s) := fun s hs => by
  rw [hat j i hj hi.2] at hs
  obtain ⟨⟨⟨a, b, c⟩, d1, d2, d3⟩, r⟩ := Q[j]
  rcases (show i = 3 ∨ i = 4 ∨ i = 5 by omega) with rfl | rfl | rfl <;> simp_all [rcell]
 have hbef : ∀ o s n, o + 1 = j * 6 + i → cur[o]? = some (Value.string s) → cur[j * 6 + i]? ≠ some (.int .i64 n) := fun o s n ho hs => by
  obtain rfl : o = j * 6 + (i - 1) := by omega
  rw [hat j (i - 1) hj (by omega)] at hs
  exfalso
  rcases (show i = 3 ∨ i = 4 ∨ i = 5 by omega) with rfl | rfl | rfl <;> simp [rcell] at hs
 exact ⟨(hne h1 (by decide)).trans h1, by rw [List.length_set]; exact hown, own_keep hS hk, hN.same hk, RTurn.store e hBg (.inl rfl) hcell hbef x⟩

theorem Kt.state {v u : Value} {j g : Nat} {s : Stt} {x : Value} (h1 : CBox w q 35 #[.int .i64 room, .int .i64 M, .int .i64 L, v, u]) (hB : B ≤ q) (hrows : w.ownsRow B 73 6 v Q.length (Q.flatMap rcell))
 (hok : ∀ x ∈ Q, okQ w x) (hS : w.ownsRow B 98 2 u S.length (S.flatMap scell)) (hN : NoStr w u) (hg : v.ownBlock = some g) (hj : j < Q.length) (hx : Tms w x s.2.2) (hw : (Lit.int .i64 s.2.1).wf = true) :
 Kt (((w.setCell ⟨g, j * 6 + 3, none⟩ (.bool s.1)).setCell ⟨g, j * 6 + 4, none⟩ (.int .i64 s.2.1)).setCell ⟨g, j * 6 + 5, none⟩ x) B q room M L (Q.set j ((Q[j].1.1, s), x)) S ∧
  RTurn B w (((w.setCell ⟨g, j * 6 + 3, none⟩ (.bool s.1)).setCell ⟨g, j * 6 + 4, none⟩ (.int .i64 s.2.1)).setCell ⟨g, j * 6 + 5, none⟩ x) := by
 obtain ⟨hT, hkey, _⟩ := hok Q[j] (List.getElem_mem hj)
 have hsh : ∃ ao n c, Q[j].2 = .slice ao n c := by obtain ⟨a, c, e⟩ := hT.shape; exact ⟨_, _, _, e⟩
 obtain ⟨a1, a2, a3, a4, a5⟩ := Kt.cellS (i := 3) (x := .bool s.1) (y := ((Q[j].1.1, s.1, Q[j].1.2.2.1, Q[j].1.2.2.2), Q[j].2)) h1 hB hrows hS hN hg hj ⟨by omega, by omega⟩ rfl hsh
 have l1 : j < (Q.set j ((Q[j].1.1, s.1, Q[j].1.2.2.1, Q[j].1.2.2.2), Q[j].2)).length := by rw [List.length_set]; exact hj
 obtain ⟨b1, b2, b3, b4, b5⟩ := Kt.cellS (i := 4) (x := .int .i64 s.2.1) (y := ((Q[j].1.1, s.1, s.2.1, Q[j].1.2.2.2), Q[j].2)) a1 hB a2 a3 a4 hg l1 ⟨by omega, by omega⟩ (by rw [List.getElem_set_self]; rfl) (by rw [List.getElem_set_self]; exact hsh)
 rw [List.set_set] at b2
 have l2 : j < (Q.set j ((Q[j].1.1, s.1, s.2.1, Q[j].1.2.2.2), Q[j].2)).length := by rw [List.length_set]; exact hj
 obtain ⟨c1, c2, c3, c4, c5⟩ := Kt.cellS (i := 5) (x := x) (y := ((Q[j].1.1, s), x)) b1 hB b2 b3 b4 hg l2 ⟨by omega, by omega⟩ (by rw [List.getElem_set_self]; rfl) (by rw [List.getElem_set_self]; exact hsh)
 rw [List.set_set] at c2
 have ht := (a5.trans b5).trans c5
 refine ⟨⟨v, u, c1, hB, c2, fun y hy => ?_, c3, c4⟩, ht⟩
 rcases List.mem_or_eq_of_mem_set hy with hy | rfl
 · exact (hok y hy).rturn ht
 · exact ⟨hx.rturn ht, hkey, hw⟩
end

set_option maxHeartbeats 4000000 in
theorem rexpT_bad (p : Addr) (now : Int) (w : World) (hn : timeT now = false) (B q : Nat) (room M L : Int) (Q : List QRow18) (S : List (Int × Int)) (hp : p = ⟨q, 0, none⟩) (h : Kt w B q room M L Q S) (hQ : Q.length ≤ 10000) :
 Calls Tryz.prog 25 #[.pointer (some p), .int .i64 now] w fun e w' => e = .returned (.int .i64 0) ∧ w' = w := by
 subst hp
 obtain ⟨v0, u0, hbox, hB, hrows, _⟩ := h
 obtain ⟨_, hlen, _, _, _⟩ := rfacts hrows
 obtain ⟨x3, _⟩ := hbox.at_ 3 _ rfl
 have HT := Lib.hid (rtime_any now w)
 rw [hn] at HT
 clear hbox hrows hB hn
 go_enter Tryz.func25, Tryz.ntmps25
 go_wp2
 go_loopw [5, 6] (fun n i wr => i = .int .i64 ((Q.length : Int) - 1) ∧ n = .int .i64 0 ∧ wr = w) (fun _ i _ => (intOf i + 1).toNat)
 case atStart => exact ⟨rfl, rfl, rfl⟩
 case round =>
  obtain ⟨rfl, rfl, rfl⟩ := hrel
  by_cases h0 : Q.length = 0
  · have hd : decide ((0 : Int) ≤ (Q.length : Int) - 1) = false := decide_eq_false (by omega)
    go_wp2_with ((with_reducible refine HT.out.mono ?_); rintro e w1 ⟨rfl, hw1⟩; subst w1)
    go_ret
    exact ⟨rfl, rfl⟩
  · have hd : decide ((0 : Int) ≤ (Q.length : Int) - 1) = true := decide_eq_true (by omega)
    go_wp2_with ((with_reducible refine HT.out.mono ?_); rintro e w1 ⟨rfl, hw1⟩; subst w1)
    go_ret
    exact ⟨rfl, rfl⟩
theorem CBox.rturn {w w' : World} {B b : Nat} {T : TypeId} {cs : Array Value} (h : CBox w b T cs) (k : RTurn B w w') (h1 : T ≠ 73) (h2 : T ≠ 98) (h3 : T ≠ 35) : CBox w' b T cs := (k.cells _ _ _ _ h h1 h2 h3).trans h
theorem set_take {α : Type} {Q Q2 : List α} {m : Nat} (hm : m < Q.length) (y : α) : (Q.take (m + 1) ++ Q2).set m y = Q.take m ++ y :: Q2 := by
 have hl : (Q.take m).length = m := by rw [List.length_take]; omega
 rw [List.take_succ_eq_append_getElem hm, List.append_assoc, List.set_append, if_neg (by omega), hl, Nat.sub_self]
 rfl
theorem erase_take {α : Type} {Q Q2 : List α} {m : Nat} (hm : m < Q.length) (y : α) : (Q.take m ++ y :: Q2).eraseIdx m = Q.take m ++ Q2 := by
 have hl : (Q.take m).length = m := by rw [List.length_take]; omega
 rw [List.eraseIdx_append_of_length_le (by omega), hl, Nat.sub_self]
 rfl
def RetExpT (w : World) (B q : Nat) (room M L now : Int) (Q : List QRow18) (S : List (Int × Int)) (e : Ending) (w' : World) : Prop :=
 ∃ Q', e = .returned (.int .i64 (deadR now (Q.map Prod.fst))) ∧ Kt w' B q room M L Q' S ∧ Q'.map Prod.fst = expR now (Q.map Prod.fst) ∧ RTurn B w w'
theorem deadR_len (now : Int) (R : List RowT) : deadR now R ≤ R.length := List.length_filter_le _ _
theorem expR_len (now : Int) (R : List RowT) : (expR now R).length ≤ R.length := by unfold expR; exact List.length_filterMap_le _ _

set_option maxHeartbeats 8000000 in
theorem rexpT_any (B q : Nat) (room M L now : Int) (Q : List QRow18) (S : List (Int × Int)) (w : World) (h : Kt w B q room M L Q S) (hQ : Q.length ≤ 10000) (hn : timeT now = true) :
 Calls Tryz.prog 25 #[.pointer (some ⟨q, 0, none⟩), .int .i64 now] w (RetExpT w B q room M L now Q S) := by
 have HK := Lib.hid h
 have HR := Lib.hid (RTurn.refl (B := B) (w := w) h.lt.2.2)
 have HT := Lib.hid (fun wq => rtime_any now wq)
 rw [hn] at HT
 obtain ⟨v0, u0, hbox, hB, hrows, _⟩ := h
 obtain ⟨_, hlen, _, _, _⟩ := rfacts hrows
 obtain ⟨x3, _⟩ := hbox.at_ 3 _ rfl
 clear hbox hrows hB hn
 go_enter Tryz.func25, Tryz.ntmps25
 go_wp2
 go_loopw [5, 6] (fun n i wr => ∃ m Q2, m ≤ Q.length ∧ i = .int .i64 ((m : Int) - 1) ∧ n = .int .i64 (deadR now ((Q.map Prod.fst).drop m) : Nat) ∧ Kt wr B q room M L (Q.take m ++ Q2) S ∧ Q2.map Prod.fst = expR now ((Q.map Prod.fst).drop m) ∧ RTurn B w wr) (fun _ i _ => (intOf i + 1).toNat)
 case atStart => exact ⟨Q.length, [], Nat.le_refl _, rfl, by rw [List.drop_of_length_le (by simp)]; rfl, by simpa using HK.out, by rw [List.drop_of_length_le (by simp)]; rfl, HR.out⟩
 case round =>
  obtain ⟨m, Q2, hm, rfl, rfl, hkx, hq2, hg⟩ := hrel
  have HKX := Lib.hid hkx; have HG := Lib.hid hg; have HQ2 := Lib.hid hq2
  have hl2 : Q2.length ≤ 10000 := by
   have h1 : Q2.length = (expR now ((Q.map Prod.fst).drop m)).length := by rw [← hq2, List.length_map]
   have h2 := expR_len now ((Q.map Prod.fst).drop m)
   rw [List.length_drop, List.length_map] at h2
   omega
  clear hlen x3 hkx hg hq2
  cases m with
  | succ m =>
    have hlt : m < Q.length := by omega
    simp only [show ((m + 1 : Nat) : Int) - 1 = (m : Int) from by omega]
    have hes := expR_snoc (now := now) (R := Q.map Prod.fst) (m := m) (by simpa using hlt)
    rw [List.getElem_map] at hes
    obtain ⟨v1, u1, hbox, hBq, hrows, hok, hov, hns⟩ := HKX.out
    obtain ⟨g, _, hidx, hc, hgb⟩ := rfacts hrows
    have hml : m < (Q.take (m + 1) ++ Q2).length := by rw [List.length_append, List.length_take]; omega
    have hget : (Q.take (m + 1) ++ Q2)[m] = Q[m] := by rw [List.getElem_append_left (by rw [List.length_take]; omega), List.getElem_take]
    obtain ⟨c0, c1, c2, c3, c4, c5⟩ := hc m hml
    obtain ⟨_, hgl, hgo, f3, f4, f5⟩ := hgb m hml
    have hp := hidx m hml
    have hTm := hok _ (List.getElem_mem hml)
    have hst := fun (W : World) (s : Stt) (x : Value) (h1 : CBox W q 35 #[.int .i64 room, .int .i64 M, .int .i64 L, v1, u1]) hr ho hS hN hx hw => Kt.state (w := W) (s := s) (x := x) (Q := Q.take (m + 1) ++ Q2) (S := S) h1 hBq hr ho hS hN hgo hml hx hw
    rw [hget] at c0 c1 c2 c3 c4 c5 hTm hst
    simp only [set_take hlt] at hst
    obtain ⟨⟨⟨⟨rv, rg, rp⟩, ⟨re, ra, rl⟩⟩, ru⟩, hst0⟩ : ∃ x : QRow18, x = Q[m] := ⟨_, rfl⟩
    rw [← hst0] at c0 c1 c2 c3 c4 c5 hTm hst hes
    dsimp only at c0 c1 c2 c3 c4 c5 hTm hst hes
    obtain ⟨hT, hkey, hwf⟩ := hTm
    dsimp only at hT hkey hwf
    obtain ⟨ao, cap, rfl⟩ := hT.shape
    obtain ⟨x3, _⟩ := hbox.at_ 3 _ rfl
    have HEX := Lib.hid (rexpire_st (re, ra, rl) _ now wr hT)
    have hwf2 := pexp_wf (re, ra, rl) now hwf
    obtain ⟨⟨⟨ta, tt, tl⟩, tb⟩, ht⟩ : ∃ t, pexp (re, ra, rl) now = t := ⟨_, rfl⟩
    rw [ht] at hes HEX hwf2
    dsimp only at hes hwf2
    unfold RetPexp encS at HEX
    dsimp only at HEX
    have HST := Lib.hid hst; have HES := Lib.hid hes; have HWF := Lib.hid hwf2
    have HBX := Lib.hid hbox; have HRW := Lib.hid hrows; have HOK := Lib.hid hok; have HOV := Lib.hid hov; have HNS := Lib.hid hns
    have HFZ := Lib.hid (And.intro hgl (And.intro f3 (And.intro f4 f5)))
    have HD := Lib.hid (show deadR now ((Q.map Prod.fst).drop (m + 1)) ≤ 10000 from by
     have := deadR_len now ((Q.map Prod.fst).drop (m + 1))
     rw [List.length_drop, List.length_map] at this
     omega)
    have HC3 := Lib.hid (And.intro c3 (And.intro c4 c5)); have HIX := Lib.hid hp; have HGO := Lib.hid hgo; have HML := Lib.hid hml
    have hl3 := HD.out
    have hdm : decide ((0 : Int) ≤ (m : Int)) = true := decide_eq_true (by omega)
    clear c0 c1 c2 hT hst hst0 hes hwf2 hwf hkey ht hgo hgl f3 f4 f5 hc hidx hgb hget hok hov hns hrows hbox hBq
    go_upto_region 6 with (first | ((with_reducible refine (HT.out _).mono ?_); rintro e w1 ⟨rfl, hw1⟩; subst w1) | ((with_reducible refine HEX.out.mono ?_); rintro e w1 ⟨val, rfl, hv, hb1⟩; obtain ⟨so, sc, rfl⟩ := hv.shape; have H1 := Lib.hid (And.intro hb1 hv); clear hb1 hv))
    obtain ⟨W2, hW2⟩ : ∃ W2, w1.alloc (.cells #[.bool ta, .int .i64 tt, .slice so tl.length sc] 71) = W2 := ⟨_, rfl⟩
    obtain ⟨nb, hnb⟩ : ∃ b, w1.heap.size = b := ⟨_, rfl⟩
    have hb2 : Below wr.heap.size wr W2 := by rw [← hW2]; exact H1.out.1.alloc H1.out.1.size _
    have XN := Lib.hid (show CBox W2 nb 71 #[.bool ta, .int .i64 tt, .slice so tl.length sc] from by rw [← hW2]; exact CBox.new _ hnb.symm)
    have TN := Lib.hid (show Tms W2 (.slice so tl.length sc) tl from by rw [← hW2]; exact H1.out.2.mono ((Below.refl _ _).alloc (Nat.le_refl _) _))
    rw [hW2, hnb]
    have H2 := Lib.hid hb2
    clear hW2 hnb hb2 H1 c3 c4 c5 x3 hp hdm
    obtain ⟨Z, hZ⟩ : ∃ W, W2.drew = W := ⟨_, rfl⟩
    have hbz : Below W2.heap.size W2 Z := by rw [← hZ]; exact Below.drew (Below.refl _ _)
    have H3 := Lib.hid (H2.out.trans (hbz.mono H2.out.size))
    have XZ := Lib.hid (XN.out.below hbz XN.out.lt); have TZ := Lib.hid (TN.out.mono hbz); have HZ := Lib.hid hZ
    have HBZ := Lib.hid (HBX.out.below H3.out HBX.out.lt)
    obtain ⟨k1, k2⟩ := HST.out Z (ta, tt, tl) (.slice so tl.length sc) HBZ.out (own_bel HRW.out H3.out) (fun y hy => (HOK.out y hy).keep (CKeep.of_below H3.out)) (own_bel HOV.out H3.out) (HNS.out.same fun g hg => by obtain ⟨_, cur, e, _⟩ := own_type HOV.out hg; exact H3.out.block g (Array.getElem?_eq_some_iff.1 e).1) TZ.out HWF.out
    have K1 := Lib.hid k1; have K2 := Lib.hid k2
    obtain ⟨hgl, f3, f4, f5⟩ := HFZ.out
    have g3 := (H3.out.frozen (p := ⟨g, m * 6 + 3, none⟩) hgl).trans f3
    have g4 := (H3.out.frozen (p := ⟨g, m * 6 + 4, none⟩) hgl).trans f4
    have g5 := (H3.out.frozen (p := ⟨g, m * 6 + 5, none⟩) hgl).trans f5
    clear hbz hZ k1 k2 f3 f4 f5
    have hix := HIX.out
    have HF := Lib.hid (fun (wq : World) (h : wq.cell? ⟨nb, 0, none⟩ = some (.bool ta) ∧ wq.cell? ⟨nb, 1, none⟩ = some (.int .i64 tt) ∧ wq.cell? ⟨nb, 2, none⟩ = some (.slice so tl.length sc) ∧ wq.cell? ⟨q, 3, none⟩ = some v1) => h)
    have hgr := rows_at (Q := Q.take (m + 1) ++ Q2) (own_bel HRW.out H3.out) HGO.out
    obtain ⟨_, cur, hgc, _⟩ := hgr
    have n1 : nb ≠ g := fun e => by
     have e2 : Z.heap[nb]? = some _ := XZ.out
     rw [e, hgc] at e2
     injection e2 with e2
     injection e2 with _ e2 _
     cases e2
    have n2 : q ≠ g := fun e => by
     have e2 : Z.heap[q]? = some _ := HBZ.out
     rw [e, hgc] at e2
     injection e2 with e2
     injection e2 with _ e2 _
     cases e2
    have HNE := Lib.hid (And.intro n1 n2)
    clear hgc n1 n2
    refine wp_region_held_drew (S := fun wq => wq.cell? ⟨nb, 0, none⟩ = some (.bool ta) ∧ wq.cell? ⟨nb, 1, none⟩ = some (.int .i64 tt) ∧ wq.cell? ⟨nb, 2, none⟩ = some (.slice so tl.length sc) ∧ wq.cell? ⟨q, 3, none⟩ = some v1) (by kernel_rfl) (by rw [HZ.out]; exact ⟨(XZ.out.at_ 0 _ rfl).1, (XZ.out.at_ 1 _ rfl).1, (XZ.out.at_ 2 _ rfl).1, (HBZ.out.at_ 3 _ rfl).1⟩) (fun hHeld => ?_)
    rw [HZ.out] at hHeld ⊢
    refine tkL 0 (v := ?_) rfl (by kernel_rfl) (fun _ _ _ => id) (Or.inl ⟨by rfl, ?_⟩) (by assumption) ?_; rotate_left; (focus (intro wq hSq; have f := HF.out wq hSq; go_simp <;> with_reducible rfl)); simp only [Act.put, pA, pB, pC]
    refine tkL 1 (v := ?_) rfl (by kernel_rfl) (fun _ _ _ => id) (Or.inl ⟨by rfl, ?_⟩) (by assumption) ?_; rotate_left; (focus (intro wq hSq; have f := HF.out wq hSq; go_simp <;> with_reducible rfl)); simp only [Act.put, pA, pB, pC]
    refine tkL 2 (v := ?_) rfl (by kernel_rfl) (fun _ _ _ => id) (Or.inl ⟨by rfl, ?_⟩) (by assumption) ?_; rotate_left; (focus (intro wq hSq; have f := HF.out wq hSq; go_simp <;> with_reducible rfl)); simp only [Act.put, pA, pB, pC]
    refine tkL 3 (v := ?_) rfl (by kernel_rfl) (fun _ _ _ => id) (Or.inl ⟨by rfl, ?_⟩) (by assumption) ?_; rotate_left; (focus (intro wq hSq; have f := HF.out wq hSq; go_simp <;> with_reducible rfl)); simp only [Act.put, pA, pB, pC]
    refine tkL 4 (v := ?_) rfl (by kernel_rfl) (fun _ _ _ => id) (Or.inl ⟨by rfl, ?_⟩) (by assumption) ?_; rotate_left; (focus (intro wq hSq; have f := HF.out wq hSq; go_simp <;> with_reducible rfl)); simp only [Act.put, pA, pB, pC]
    refine tkL 5 (v := ?_) rfl (by kernel_rfl) (fun _ _ _ => id) (Or.inl ⟨by rfl, ?_⟩) (by assumption) ?_; rotate_left; (focus (intro wq hSq; have f := HF.out wq hSq; go_simp <;> with_reducible rfl)); simp only [Act.put, pA, pB, pC]
    refine tkL 6 (v := ?_) rfl (by kernel_rfl) (fun _ _ _ => id) (Or.inl ⟨by rfl, ?_⟩) (by assumption) ?_; rotate_left; (focus (intro wq hSq; have f := HF.out wq hSq; go_simp <;> with_reducible rfl)); simp only [Act.put, pA, pB, pC]
    refine tkL 7 (v := ?_) rfl (by kernel_rfl) (fun _ _ _ => id) (Or.inl ⟨by rfl, ?_⟩) (by assumption) ?_; rotate_left; (focus (intro wq hSq; have f := HF.out wq hSq; go_simp <;> with_reducible rfl)); simp only [Act.put, pA, pB, pC]
    refine wpAnyH_ready (rs := [8]) (by kernel_rfl) (by simp) (nextL 8 rfl (fun Kr hKr => ?_) AllReadyH.nil)
    rw [if_pos (by rfl)]
    obtain ⟨h3, h4, h5⟩ := HC3.out
    have c3 := (H3.out.cell (p := ⟨g, m * 6 + 3, none⟩) hgl).trans h3
    have c4 : Z.cell? ⟨g, m * 6 + 3 + 1, none⟩ = _ := (H3.out.cell (p := ⟨g, m * 6 + 4, none⟩) hgl).trans h4
    have c5 : Z.cell? ⟨g, m * 6 + 3 + 2, none⟩ = _ := (H3.out.cell (p := ⟨g, m * 6 + 5, none⟩) hgl).trans h5
    have g4' : Z.frozen? ⟨g, m * 6 + 3 + 1, none⟩ = false := g4
    have g5' : Z.frozen? ⟨g, m * 6 + 3 + 2, none⟩ = false := g5
    clear h3 h4 h5 g4 g5
    have hne := HNE.out
    go_simp
    obtain ⟨W4, hW4⟩ : ∃ W, ((Z.setCell ⟨g, m * 6 + 3, none⟩ (.bool ta)).setCell ⟨g, m * 6 + 3 + 1, none⟩ (.int .i64 tt)).setCell ⟨g, m * 6 + 3 + 2, none⟩ (.slice so tl.length sc) = W := ⟨_, rfl⟩
    have k1 : Kt W4 B q room M L (Q.take m ++ (((rv, rg, rp), ta, tt, tl), .slice so tl.length sc) :: Q2) S := by rw [← hW4]; exact K1.out
    have k2 : RTurn B Z W4 := by rw [← hW4]; exact K2.out
    have xn : CBox W4 nb 71 #[.bool ta, .int .i64 tt, .slice so tl.length sc] := XZ.out.rturn k2 (by decide) (by decide) (by decide)
    have xq : CBox W4 q 35 #[.int .i64 room, .int .i64 M, .int .i64 L, v1, u1] := by
     rw [← hW4]
     exact ((HBZ.out.far (p := ⟨g, m * 6 + 3, none⟩) hne.2 _).far (p := ⟨g, m * 6 + 3 + 1, none⟩) hne.2 _).far (p := ⟨g, m * 6 + 3 + 2, none⟩) hne.2 _
    rw [hW4]
    refine hKr.out _ _ ⟨(xn.at_ 0 _ rfl).1, (xn.at_ 1 _ rfl).1, (xn.at_ 2 _ rfl).1, (xq.at_ 3 _ rfl).1⟩ (fun _ => ?_)
    refine wpAnyH_done (by kernel_rfl) ?_ _
    have L4 := Lib.hid (And.intro k1 ((HG.out.trans (RTurn.of_below H3.out (by have := HKX.out.lt; omega))).trans k2))
    clear hKr hW4 k1 k2 xn xq c3 c4 c5 g3 g4' g5' hne hHeld hix hgl
    cases tb
    · have HCT := Lib.hid (rcut_any B q m room M L _ S W4 L4.out.1 (by simp; omega) (by rw [List.length_append, List.length_cons, List.length_take]; omega))
      rw [erase_take hlt] at HCT
      have HE := Lib.hid (show expR now ((Q.map Prod.fst).drop m) = Q2.map Prod.fst ∧ deadR now ((Q.map Prod.fst).drop m) = 1 + deadR now ((Q.map Prod.fst).drop (m + 1)) from ⟨by rw [HES.out.1, HQ2.out]; rfl, HES.out.2⟩)
      go_wp2_with ((with_reducible refine HCT.out.mono ?_); rintro e w1 ⟨rfl, hk1, hg1⟩; have HK1 := Lib.hid hk1; have HG1 := Lib.hid hg1; clear hk1 hg1)
      go_roundw
      case rel => exact ⟨m, Q2, by omega, rfl, by rw [HE.out.2]; go_num, HK1.out, HE.out.1.symm, L4.out.2.trans HG1.out⟩
      case measure => simp [intOf]
    · have HE := Lib.hid (show expR now ((Q.map Prod.fst).drop m) = ((((rv, rg, rp), ta, tt, tl), Value.slice so tl.length sc) :: Q2 : List QRow18).map Prod.fst ∧ deadR now ((Q.map Prod.fst).drop m) = deadR now ((Q.map Prod.fst).drop (m + 1)) from ⟨by rw [HES.out.1, List.map_cons, HQ2.out]; rfl, by rw [HES.out.2]; simp⟩)
      go_wp2_with fail
      go_roundw
      case rel => exact ⟨m, _, by omega, rfl, by rw [HE.out.2], L4.out.1, HE.out.1.symm, L4.out.2⟩
      case measure => simp [intOf]
  | zero =>
    simp only [show ((0 : Nat) : Int) - 1 = (-1 : Int) from rfl]
    go_wp2_with fail
    go_ret
    exact ⟨Q2, by rw [List.drop_zero]; rfl, by simpa using HKX.out, by rw [HQ2.out, List.drop_zero], HG.out⟩

theorem RetRapp.plain {w : World} {s : Stt} {kind : Int} {S : List Str} {n : Nat} {now mem last : Int} {e : Ending} {w' : World} (hw : (Lit.int .i64 s.2.1).wf = true) (h : RetRapp w s.1 s.2.1 s.2.2 kind S n now mem last e w') : RetPapp w (papp s kind S n now mem last) e w' := by
 obtain ⟨hb, h⟩ := h
 rcases h with ⟨hv, rfl⟩ | ⟨hv, K, hK, h⟩
 · unfold papp
   rw [if_pos hv]
   exact ⟨_, _, rfl, Tms.nil _, Strs.nil _, hb, fun q hq => by cases hq⟩
 · have ha := ascOf_eq hK
   unfold papp
   rw [if_neg (by rw [hv]; simp), ha]
   rcases h with ⟨h1, rfl⟩ | ⟨h1, h2, rfl⟩ | ⟨h1, h2, v, L', u, R, rfl, hT, hU, hR, hA⟩
   · rw [if_pos h1]
     exact ⟨_, _, rfl, Tms.nil _, Strs.nil _, hb, fun q hq => by cases hq⟩
   · rw [if_neg (by omega), if_pos h2]
     exact ⟨_, _, rfl, Tms.nil _, Strs.nil _, hb, fun q hq => by cases hq⟩
   · rw [if_neg (by omega), if_neg h2, riseOf_eq hR, ascOf_eq hA]
     refine ⟨v, u, rfl, hT, hU, hb, fun q hq => ?_⟩
     injection hq with hq
     subst hq
     refine ⟨app_check hv hK.1 (by rw [List.length_map]; exact h1) hA, ?_⟩
     obtain ⟨_, v1, v2, v3, v4, v5, v6, _⟩ := verdict_ok hv
     simp only [Lit.wf, IntKind.min, IntKind.max, IntKind.bits, IntKind.signed] at hw ⊢
     unfold inAt
     simp at hw ⊢
     split <;> split <;> omega
theorem rapply_st (s : Stt) (v : Value) (is : Bool) (kind : Int) (g : ByteArray) (rv : Value) (C : List Str) (now mem last : Int) (w : World) (h : Tms w v s.2.2) (hr : Strs w rv C) (hw : (Lit.int .i64 s.2.1).wf = true) (hi : is = false → s = noS) :
 Calls Tryz.prog 38 #[encS s v, .bool is, .agg #[.int .i64 kind, .string g, rv], .int .i64 now, .int .i64 mem, .int .i64 last] w (RetPapp w (papp s kind (sasc C) C.length now mem last)) := by
 refine (rapply_any s.1 s.2.1 v s.2.2 is kind g rv C now mem last w h hr hw).mono fun e w' hx => ?_
 refine RetRapp.plain (s := s) hw ?_
 cases is
 · rw [hi rfl] at hx ⊢
   exact hx
 · simpa using hx

theorem RTurn.ahead {w W : World} {B b : Nat} (h : RTurn B w W) (hb : w.heap.size ≤ b) (hB : B ≤ w.heap.size) (i : Nat) (x : Value) : RTurn B w (W.setCell ⟨b, i, none⟩ x) := by
 have hblk : ∀ k, k < w.heap.size → (W.setCell ⟨b, i, none⟩ x).heap[k]? = W.heap[k]? := fun k hk => Below.heap_setCell _ _ _ k (fun e => by have e : k = b := e; omega)
 have hcl : ∀ (p : Addr) y, w.cell? p = some y → (W.setCell ⟨b, i, none⟩ x).cell? p = W.cell? p := fun p y hp => World.cell?_of_block (hblk _ (cell_lt hp))
 exact ⟨h.low.setCell (p := ⟨b, i, none⟩) (by show B ≤ b; omega) x, fun k es c e => (hblk k (Array.getElem?_eq_some_iff.1 e).1).trans (h.maps k es c e), fun k cs T fr e a c d => (hblk k (Array.getElem?_eq_some_iff.1 e).1).trans (h.cells k cs T fr e a c d),
  fun p s hp => (hcl p _ hp).trans (h.strs p s hp), fun b o s n hs hn => (hcl _ _ hn).trans (h.tms b o s n hs hn)⟩
theorem Kt.far {W : World} {B q b : Nat} {room M L : Int} {Q : List QRow18} {S : List (Int × Int)} {T : TypeId} {cs : Array Value} (h : Kt W B q room M L Q S) (hb : CBox W b T cs) (h1 : T ≠ 73) (h2 : T ≠ 98) (h3 : T ≠ 35)
 (hs : ∀ (i : Nat) (s : ByteArray), cs[i]? ≠ some (Value.string s)) (i : Nat) (x : Value) : Kt (W.setCell ⟨b, i, none⟩ x) B q room M L Q S := by
 obtain ⟨v, u, k1, k2, k3, k4, k5, k6⟩ := h
 have hb' : W.heap[b]? = some _ := hb
 have hne : ∀ {k : Nat} {cs : Array Value} {T' : TypeId} {fr : Nat × Nat}, W.heap[k]? = some (.cells cs T' fr) → T' ≠ T → (W.setCell ⟨b, i, none⟩ x).heap[k]? = W.heap[k]? := fun {k cs T' fr} hk hT => Below.heap_setCell _ _ _ k (fun q => by
  have q : k = b := q
  subst q
  rw [hk] at hb'
  injection hb' with e
  injection e with _ e _
  exact hT e)
 have e5 : ∀ g, u.ownBlock = some g → (W.setCell ⟨b, i, none⟩ x).heap[g]? = W.heap[g]? := fun g hg => by
  obtain ⟨_, cur, e, _⟩ := own_type k5 hg
  exact hne e (Ne.symm h2)
 refine ⟨v, u, (hne k1 (Ne.symm h3)).trans k1, k2, own_keep k3 fun g hg => ?_, fun y hy => ?_, own_keep k5 e5, k6.same e5⟩
 · obtain ⟨_, cur, e, _⟩ := own_type k3 hg
   exact hne e (Ne.symm h1)
 · obtain ⟨q1, q2⟩ := k4 y hy
   exact ⟨q1.apart (p := ⟨b, i, none⟩) (fun hL c hc => q1.ne_box hb hs hL c hc) x, q2⟩
theorem Kt.ask {W : World} {B q b : Nat} {room M L : Int} {Q : List QRow18} {S : List (Int × Int)} {f f' : Bool} {o1 o2 : Option Addr} {n1 c1 n2 c2 : Nat} (h : Kt W B q room M L Q S) (hB : CBox W b 59 #[.bool f, .slice o1 n1 c1]) :
 Kt ((W.setCell ⟨b, 0, none⟩ (.bool f')).setCell ⟨b, 1, none⟩ (.slice o2 n2 c2)) B q room M L Q S :=
 (h.far hB (by decide) (by decide) (by decide) (fun i s => ns2 _ _ _ _ i s) 0 _).far (show CBox _ b 59 #[.bool f', .slice o1 n1 c1] from hB.set 0 _) (by decide) (by decide) (by decide) (fun i s => ns2 _ _ _ _ i s) 1 _
theorem rask_end {W : World} {B : Nat} {u0 u1 : Value} (h : CBox W B 59 #[u0, u1]) (x y : Value) :
 ((W.setCell ⟨B, 0, none⟩ x).setCell ⟨B, 1, none⟩ y).cell? ⟨B, 0, none⟩ = some x ∧ ((W.setCell ⟨B, 0, none⟩ x).setCell ⟨B, 1, none⟩ y).cell? ⟨B, 1, none⟩ = some y :=
 ⟨(((h.set 0 x).set 1 y).at_ 0 _ rfl).1, (((h.set 0 x).set 1 y).at_ 1 _ rfl).1⟩
theorem rend_a {Y : World} {ab : Nat} {f : Bool} {o1 : Option Addr} {n1 c1 : Nat} {v u : Value} {L : List Tmd} {R : List Str} (h : CBox Y ab 59 #[.bool f, .slice o1 n1 c1]) (hT : Tms Y v L) (hU : Strs Y u R) (x y : Value) :
 CBox ((Y.setCell ⟨ab, 0, none⟩ x).setCell ⟨ab, 1, none⟩ y) ab 59 #[x, y] ∧ Tms ((Y.setCell ⟨ab, 0, none⟩ x).setCell ⟨ab, 1, none⟩ y) v L ∧ Strs ((Y.setCell ⟨ab, 0, none⟩ x).setCell ⟨ab, 1, none⟩ y) u R := by
 have a1 : L ≠ [] → ∀ c, v.ownBlock = some c → c ≠ ab := fun hL c hc => hT.ne_box h (fun i s => ns2 _ _ _ _ i s) hL c hc
 have a2 : R ≠ [] → ∀ c, u.ownBlock = some c → c ≠ ab := fun hL c hc => hU.ne_box h (fun i s => ns2 _ _ _ _ i s) hL c hc
 exact ⟨(h.set 0 x).set 1 y, (hT.apart (p := ⟨ab, 0, none⟩) a1 x).apart (p := ⟨ab, 1, none⟩) a1 y, (hU.apart' (p := ⟨ab, 0, none⟩) a2 x).apart' (p := ⟨ab, 1, none⟩) a2 y⟩
theorem far2 {Y : World} {ab b : Nat} {T : TypeId} {cs : Array Value} (h : CBox Y b T cs) (hne : b ≠ ab) (x y : Value) : CBox ((Y.setCell ⟨ab, 0, none⟩ x).setCell ⟨ab, 1, none⟩ y) b T cs := (h.far (p := ⟨ab, 0, none⟩) hne x).far (p := ⟨ab, 1, none⟩) hne y
theorem far3 {Y : World} {ab b : Nat} {T : TypeId} {cs : Array Value} (h : CBox Y b T cs) (hne : b ≠ ab) (x y z : Value) : CBox (((Y.setCell ⟨ab, 0, none⟩ x).setCell ⟨ab, 1, none⟩ y).setCell ⟨ab, 2, none⟩ z) b T cs := ((h.far (p := ⟨ab, 0, none⟩) hne x).far (p := ⟨ab, 1, none⟩) hne y).far (p := ⟨ab, 2, none⟩) hne z
theorem below2 {X Y : World} {ab B : Nat} (h : Below B X Y) (hb : B ≤ ab) (x y : Value) : Below B X ((Y.setCell ⟨ab, 0, none⟩ x).setCell ⟨ab, 1, none⟩ y) := (h.setCell (p := ⟨ab, 0, none⟩) hb x).setCell (p := ⟨ab, 1, none⟩) hb y
theorem below3r {X Y : World} {ab B : Nat} (h : Below B X Y) (hb : B ≤ ab) (x y z : Value) : Below B X (((Y.setCell ⟨ab, 0, none⟩ x).setCell ⟨ab, 1, none⟩ y).setCell ⟨ab, 2, none⟩ z) := ((h.setCell (p := ⟨ab, 0, none⟩) hb x).setCell (p := ⟨ab, 1, none⟩) hb y).setCell (p := ⟨ab, 2, none⟩) hb z

theorem map_erase18 (Q : List QRow18) (i : Nat) : (Q.eraseIdx i).map Prod.fst = (Q.map Prod.fst).eraseIdx i := by
 rw [List.eraseIdx_eq_take_drop_succ, List.eraseIdx_eq_take_drop_succ, List.map_append, List.map_take, List.map_drop]
def RetRRep (w : World) (B q : Nat) (room M L : Int) (Q : List QRow18) (S : List (Int × Int)) (v now : Int) (r : (Bool × List Str) × Int × Tst × (Int → Option Int)) (e : Ending) (w' : World) : Prop :=
 ∃ u Q' S', e = .returned (.tuple #[.agg #[.bool r.1.1, u], .int .i64 r.2.1]) ∧ Strs w' u r.1.2 ∧ Kt w' B q room M L Q' S' ∧ RelT r.2.2.1 (Q'.map Prod.fst) ∧ RelO r.2.2.2 S' ∧ RTurn B w w' ∧ Q'.length ≤ Q.length + 1 ∧ (S' = S ∨ (S' = overS S v now ∧ 1 ≤ now ∧ now ≤ 1099511627776))

set_option maxHeartbeats 8000000 in
theorem rreport_bad (a : Addr) (v port kind now : Int) (g : Str) (ro : Option Addr) (rn rc : Nat) (w : World) (h : ¬ (mayT v port now ∧ isGrp g = true)) :
 Calls Tryz.prog 15 #[.pointer (some a), .int .i64 v, .int .i64 port, .agg #[.int .i64 kind, .string (bstr g), .slice ro rn rc], .int .i64 now] w (RetNone w) := by
 obtain ⟨W0, hW0⟩ : ∃ W0, W0 = (w.alloc (.cells #[.int .i64 kind, .string (bstr g), .slice ro rn rc] 39)).alloc (.cells #[.bool false, .slice none 0 0] 59) := ⟨_, rfl⟩
 have hb0 : Below w.heap.size w W0 := by rw [hW0]; exact ((Below.refl _ _).alloc (Nat.le_refl _) _).alloc (by simp) _
 have b1 : CBox W0 w.heap.size 39 #[.int .i64 kind, .string (bstr g), .slice ro rn rc] := by rw [hW0]; exact (CBox.new _ rfl).old _
 have b2 : CBox W0 (w.heap.size + 1) 59 #[.bool false, .slice none 0 0] := by rw [hW0]; exact CBox.new _ (by simp)
 have HB := Lib.hid hb0; have B2 := Lib.hid b2; have HW := Lib.hid hW0
 obtain ⟨r1, _⟩ := b1.at_ 1 _ rfl
 obtain ⟨z0, _⟩ := b2.at_ 0 _ rfl
 obtain ⟨z1, _⟩ := b2.at_ 1 _ rfl
 have HT := Lib.hid (rtime_any now W0)
 have HG := Lib.hid (isgroup_any g W0)
 obtain ⟨e5, h5⟩ : ∃ e, timeT now = e := ⟨_, rfl⟩
 obtain ⟨e6, h6⟩ : ∃ e, isGrp g = e := ⟨_, rfl⟩
 rw [h5] at HT
 rw [h6] at HG
 clear hb0 b1 b2 hW0
 have fin : ∀ (c1 c2 c3 c4 : Bool), decide (v < 1) = c1 → decide (4094 < v) = c2 → decide (port < 0) = c3 → decide (15 < port) = c4 → (c1 = false ∧ c2 = false ∧ c3 = false ∧ c4 = false ∧ e5 = true ∧ e6 = true → False) := by
  rintro c1 c2 c3 c4 q1 q2 q3 q4 ⟨rfl, rfl, rfl, rfl, rfl, rfl⟩
  unfold timeT at h5
  simp at q1 q2 q3 q4 h5
  exact h ⟨⟨⟨by omega, by omega⟩, ⟨by omega, by omega⟩, h5⟩, h6⟩
 clear h h5 h6
 have HW := HW
 cases q1 : decide (v < 1)
 · cases q2 : decide (4094 < v)
   · cases q3 : decide (port < 0)
     · cases q4 : decide (15 < port)
       · cases e5
         · go_enter Tryz.func15, Tryz.ntmps15
           go_upto_region 1 with fail
           rw [← HW.out]
           clear HW fin
           go_wp2_with (first | ((with_reducible refine HT.out.mono ?_); rintro e w' ⟨rfl, hw'⟩; subst w') | ((with_reducible refine HG.out.mono ?_); rintro e w' ⟨rfl, hw'⟩; subst w'))
           have r := fun x y => rask_end B2.out x y
           exact bodyPost_ret (v := .tuple #[.agg #[.bool false, .slice none 0 0], .int .i64 1]) (by simp [results, Tryz.results15, go_sem, r]) rfl ⟨rfl, (HB.out.setCell (by simp) _).setCell (by simp) _⟩
         · cases e6
           · go_enter Tryz.func15, Tryz.ntmps15
             go_upto_region 1 with fail
             rw [← HW.out]
             clear HW fin
             go_wp2_with (first | ((with_reducible refine HT.out.mono ?_); rintro e w' ⟨rfl, hw'⟩; subst w') | ((with_reducible refine HG.out.mono ?_); rintro e w' ⟨rfl, hw'⟩; subst w'))
             have r := fun x y => rask_end B2.out x y
             exact bodyPost_ret (v := .tuple #[.agg #[.bool false, .slice none 0 0], .int .i64 1]) (by simp [results, Tryz.results15, go_sem, r]) rfl ⟨rfl, (HB.out.setCell (by simp) _).setCell (by simp) _⟩
           · exact absurd ⟨rfl, rfl, rfl, rfl, rfl, rfl⟩ (fin _ _ _ _ q1 q2 q3 q4)
       · go_enter Tryz.func15, Tryz.ntmps15
         go_upto_region 1 with fail
         rw [← HW.out]
         clear HW fin
         go_wp2_with (first | ((with_reducible refine HT.out.mono ?_); rintro e w' ⟨rfl, hw'⟩; subst w') | ((with_reducible refine HG.out.mono ?_); rintro e w' ⟨rfl, hw'⟩; subst w'))
         have r := fun x y => rask_end B2.out x y
         exact bodyPost_ret (v := .tuple #[.agg #[.bool false, .slice none 0 0], .int .i64 1]) (by simp [results, Tryz.results15, go_sem, r]) rfl ⟨rfl, (HB.out.setCell (by simp) _).setCell (by simp) _⟩
     · go_enter Tryz.func15, Tryz.ntmps15
       go_upto_region 1 with fail
       rw [← HW.out]
       clear HW fin
       go_wp2_with (first | ((with_reducible refine HT.out.mono ?_); rintro e w' ⟨rfl, hw'⟩; subst w') | ((with_reducible refine HG.out.mono ?_); rintro e w' ⟨rfl, hw'⟩; subst w'))
       have r := fun x y => rask_end B2.out x y
       exact bodyPost_ret (v := .tuple #[.agg #[.bool false, .slice none 0 0], .int .i64 1]) (by simp [results, Tryz.results15, go_sem, r]) rfl ⟨rfl, (HB.out.setCell (by simp) _).setCell (by simp) _⟩
   · go_enter Tryz.func15, Tryz.ntmps15
     go_upto_region 1 with fail
     rw [← HW.out]
     clear HW fin
     go_wp2_with (first | ((with_reducible refine HT.out.mono ?_); rintro e w' ⟨rfl, hw'⟩; subst w') | ((with_reducible refine HG.out.mono ?_); rintro e w' ⟨rfl, hw'⟩; subst w'))
     have r := fun x y => rask_end B2.out x y
     exact bodyPost_ret (v := .tuple #[.agg #[.bool false, .slice none 0 0], .int .i64 1]) (by simp [results, Tryz.results15, go_sem, r]) rfl ⟨rfl, (HB.out.setCell (by simp) _).setCell (by simp) _⟩
 · go_enter Tryz.func15, Tryz.ntmps15
   go_upto_region 1 with fail
   rw [← HW.out]
   clear HW fin
   go_wp2_with (first | ((with_reducible refine HT.out.mono ?_); rintro e w' ⟨rfl, hw'⟩; subst w') | ((with_reducible refine HG.out.mono ?_); rintro e w' ⟨rfl, hw'⟩; subst w'))
   have r := fun x y => rask_end B2.out x y
   exact bodyPost_ret (v := .tuple #[.agg #[.bool false, .slice none 0 0], .int .i64 1]) (by simp [results, Tryz.results15, go_sem, r]) rfl ⟨rfl, (HB.out.setCell (by simp) _).setCell (by simp) _⟩

set_option maxHeartbeats 16000000 in
theorem rreport_go (B q : Nat) (room M L v port kind now : Int) (g : Str) (rv : Value) (C : List Str) (F : Tst) (O : Int → Option Int) (Q : List QRow18) (S : List (Int × Int)) (w : World) (h : Kt w B q room M L Q S) (hR : RelT F (Q.map Prod.fst)) (hO : RelO O S) (hQ : Q.length ≤ 10000) (hS : S.length ≤ 10000)
 (hm : mayT v port now) (hg : isGrp g = true) (hr : Strs w rv C) :
 Calls Tryz.prog 15 #[.pointer (some ⟨q, 0, none⟩), .int .i64 v, .int .i64 port, .agg #[.int .i64 kind, .string (bstr g), rv], .int .i64 now] w (RetRRep w B q room M L Q S v now (prep room M L Q.length F O (v, g, port) kind C now)) := by
 obtain ⟨ro, rc, rfl⟩ := hr.shape
 have hlt := h.lt
 obtain ⟨W0, hW0⟩ : ∃ W0, W0 = (w.alloc (.cells #[.int .i64 kind, .string (bstr g), .slice ro C.length rc] 39)).alloc (.cells #[.bool false, .slice none 0 0] 59) := ⟨_, rfl⟩
 obtain ⟨br, hbr⟩ : ∃ b, w.heap.size = b := ⟨_, rfl⟩
 have hb0 : Below w.heap.size w W0 := by rw [hW0]; exact ((Below.refl _ _).alloc (Nat.le_refl _) _).alloc (by simp) _
 have b1 : CBox W0 br 39 #[.int .i64 kind, .string (bstr g), .slice ro C.length rc] := by rw [hW0]; exact (CBox.new _ hbr.symm).old _
 have b2 : CBox W0 (br + 1) 59 #[.bool false, .slice none 0 0] := by rw [hW0]; exact CBox.new _ (by simp [hbr])
 have HB0 := Lib.hid hb0; have X1 := Lib.hid b1; have XA := Lib.hid b2; have HW := Lib.hid hW0; have HBR := Lib.hid hbr
 have K0 := Lib.hid (h.below hb0); have RV := Lib.hid (hr.mono hb0)
 have HFD := Lib.hid (rfind_any B q room M L v port g Q S W0 (h.below hb0) (by omega))
 have HREL := Lib.hid hR; have HRO := Lib.hid hO
 have HQL := Lib.hid (And.intro hQ hS); have HLT := Lib.hid hlt
 have hno := hm.2.2
 have HM := Lib.hid (mayT.ok hm hg)
 have HNW := Lib.hid hm.2.2
 have HT := Lib.hid (rtime_any now W0)
 have HG := Lib.hid (isgroup_any g W0)
 rw [show timeT now = true from by unfold timeT; simp; exact hno] at HT
 rw [hg] at HG
 obtain ⟨r1, _⟩ := b1.at_ 1 _ rfl
 have d1 : decide (v < 1) = false := decide_eq_false (by have := hm.1; omega)
 have d2 : decide (4094 < v) = false := decide_eq_false (by have := hm.1; omega)
 have d3 : decide (port < 0) = false := decide_eq_false (by have := hm.2.1; omega)
 have d4 : decide (15 < port) = false := decide_eq_false (by have := hm.2.1; omega)
 obtain ⟨⟨⟨sa, st, sl⟩, sf⟩, hpx⟩ : ∃ t, pexp (oldS F (v, g, port)) now = t := ⟨_, rfl⟩
 have HPX := Lib.hid hpx
 have HNS := Lib.hid (show sf = false → ((sa, st, sl) : Stt) = noS from fun e => by have := pexp_none (oldS F (v, g, port)) now (by rw [hpx]; exact e); rw [hpx] at this; exact this)
 obtain ⟨⟨ac, ax, ag, aR⟩, hap⟩ : ∃ t, papp (sa, st, sl) kind (sasc C) C.length now M L = t := ⟨_, rfl⟩
 have HPR := Lib.hid (show prep room M L Q.length F O (v, g, port) kind C now = (if ac ≠ 0 then ((false, []), ac, F, O) else match ax with
  | none => ((ag, aR), 0, delS F (v, g, port), O)
  | some s => if (F (v, g, port)).isSome = false ∧ room ≤ (Q.length : Int) then ((false, []), 5, F, updO O v now) else ((ag, aR), 0, updS F (v, g, port) s, O)) from by
    unfold prep
    rw [hpx]
    dsimp only
    rw [hap]
    cases ax <;> rfl)
 have HAPQ := Lib.hid hap
 obtain ⟨⟨za, zt, zl⟩, hz⟩ : ∃ z, ax.getD noS = z := ⟨_, rfl⟩
 have HZ := Lib.hid hz
 clear hb0 b1 b2 hW0 hbr h hr hR hO hm hg hlt hpx hap hno hz hQ hS
 go_enter Tryz.func15, Tryz.ntmps15
 go_upto_region 1 with fail
 rw [← HW.out, HBR.out]
 clear HW
 go_upto_region 4 with (first | ((with_reducible refine HT.out.mono ?_); rintro e w' ⟨rfl, hw'⟩; subst w') | ((with_reducible refine HG.out.mono ?_); rintro e w' ⟨rfl, hw'⟩; subst w') | ((with_reducible refine HFD.out.mono ?_); rintro e w' ⟨fa, rfl, hfa, hw'⟩; subst w'; have HFA := Lib.hid hfa; clear hfa))
 clear d1 d2 d3 d4 HT HG HFD r1
 go_upto_region 5 with fail
 obtain ⟨W1, hW1⟩ : ∃ W1, W0.alloc (.cells #[.bool false, .int .i64 0, .slice none 0 0] 71) = W1 := ⟨_, rfl⟩
 obtain ⟨sb, hsb⟩ : ∃ b, W0.heap.size = b := ⟨_, rfl⟩
 have hb1 : Below W0.heap.size W0 W1 := by rw [← hW1]; exact (Below.refl _ _).alloc (Nat.le_refl _) _
 have XS := Lib.hid (show CBox W1 sb 71 #[.bool false, .int .i64 0, .slice none 0 0] from by rw [← hW1]; exact CBox.new _ hsb.symm)
 have HB1 := Lib.hid hb1; have HSB := Lib.hid hsb
 rw [hW1, hsb]
 clear hW1 hsb hb1
 go_upto_if 52 with fail
 go_cut [14] (fun s14 W' => s14 = .bool sf ∧ (∃ so sc, CBox W' sb 71 #[.bool sa, .int .i64 st, .slice so sl.length sc] ∧ Tms W' (.slice so sl.length sc) sl) ∧ Below W0.heap.size W0 W')
 case first =>
  rcases HFA.out with ⟨rfl, hn⟩ | ⟨i, hi, he, rfl⟩
  · have HE := Lib.hid (show noS = (sa, st, sl) ∧ false = sf from by
     have h1 := HPX.out
     have h2 : oldS F (v, g, port) = noS := by unfold oldS; rw [HREL.out.none_ hn]; rfl
     rw [h2, pexp_noS] at h1
     injection h1 with h1 h3
     exact ⟨h1, h3⟩)
    clear hn
    go_wp2_with fail
    go_meet
    case rel =>
     obtain ⟨h1, h2⟩ := HE.out
     unfold noS at h1
     injection h1 with h1 h3
     injection h3 with h3 h4
     refine ⟨by rw [h2], ⟨none, 0, ?_, ?_⟩, HB1.out⟩
     · rw [← h1, ← h3, ← h4]; exact XS.out
     · rw [← h4]; exact Tms.nil _
  · have hi' : i < Q.length := by simpa using hi
    obtain ⟨v1, u1, hbox, _, hrows, hok, _⟩ := K0.out.below HB1.out
    obtain ⟨gb, _, hidx, hc, _⟩ := rfacts hrows
    obtain ⟨_, _, _, c3, c4, c5⟩ := hc i hi'
    have hp := hidx i hi'
    obtain ⟨x3, _⟩ := hbox.at_ 3 _ rfl
    have hT := (hok _ (List.getElem_mem hi')).1
    have HEX := Lib.hid (rexpire_st Q[i].1.2 _ now W1 hT)
    have ho : oldS F (v, g, port) = Q[i].1.2 := by
     rw [← he, HREL.out.old hi, List.getElem_map]
    rw [← ho, HPX.out] at HEX
    unfold RetPexp encS at HEX
    dsimp only at HEX
    rw [ho] at HEX
    obtain ⟨⟨⟨⟨rv, rg, rp⟩, ⟨re, ra, rl⟩⟩, ru⟩, hst⟩ : ∃ x : QRow18, x = Q[i] := ⟨_, rfl⟩
    rw [← hst] at c3 c4 c5 hT HEX
    dsimp only at c3 c4 c5 hT HEX
    obtain ⟨ao, cap, rfl⟩ := hT.shape
    have d : decide ((0 : Int) ≤ (i : Int)) = true := decide_eq_true (by omega)
    have HXS := Lib.hid (fun (w2 : World) (hb : Below W1.heap.size W1 w2) => XS.out.below hb XS.out.lt)
    clear hidx hc hrows hok hbox ho hst hT he
    go_wp2_with ((with_reducible refine HEX.out.mono ?_); rintro e w2 ⟨val, rfl, hv, hb2⟩; obtain ⟨so, sc, rfl⟩ := hv.shape; have H2 := Lib.hid (And.intro hb2 hv); obtain ⟨y0, yf0⟩ := (HXS.out w2 hb2).at_ 0 _ rfl; obtain ⟨y1, yf1⟩ := (HXS.out w2 hb2).at_ 1 _ rfl; obtain ⟨y2, yf2⟩ := (HXS.out w2 hb2).at_ 2 _ rfl; clear hb2 hv)
    go_meet
    case rel =>
     have q := end_s (HXS.out w2 H2.out.1) H2.out.2 (Strs.nil w2) (.bool sa) (.int .i64 st) (.slice so sl.length sc)
     exact ⟨rfl, ⟨so, sc, q.1, q.2.1⟩, below3r (HB1.out.trans (H2.out.1.mono HB1.out.size)) (Nat.le_of_eq HSB.out) _ _ _⟩
 case rest =>
  obtain ⟨X, rfl⟩ : ∃ X, X = wc := ⟨_, rfl⟩
  obtain ⟨rfl, ⟨so, sc, hxs, hts⟩, hbx⟩ := hcut
  have XS := Lib.hid hxs; have TS := Lib.hid hts; have HBX := Lib.hid hbx
  have KX := Lib.hid (K0.out.below hbx); have RX := Lib.hid (RV.out.mono hbx)
  have X1' := Lib.hid (X1.out.below hbx X1.out.lt); have XA' := Lib.hid (XA.out.below hbx XA.out.lt)
  clear hxs hts hbx K0 RV X1 XA
  have HAP := Lib.hid (fun (wq : World) (hb : Below X.heap.size X wq) => rapply_st (sa, st, sl) _ sf kind (bstr g) (.slice ro C.length rc) C now M L wq (TS.out.mono hb) (RX.out.mono hb) (by
   have h1 := pexp_wf (oldS F (v, g, port)) now (by
    have h2 := KX.out
    obtain ⟨_, _, _, _, _, hok, _⟩ := h2
    rcases HFA.out with ⟨_, hn⟩ | ⟨i, hi, he, _⟩
    · have h3 : oldS F (v, g, port) = noS := by unfold oldS; rw [HREL.out.none_ hn]; rfl
      rw [h3]; decide
    · rw [← he, HREL.out.old hi, List.getElem_map]
      exact (hok _ (List.getElem_mem (by simpa using hi))).2.2)
   rw [HPX.out] at h1
   exact h1) HNS.out)
  rw [HAPQ.out] at HAP
  unfold RetPapp encS at HAP
  dsimp only at HAP
  rw [HZ.out] at HAP
  dsimp only at HAP
  obtain ⟨Xd, hXd⟩ : ∃ W, X.drew = W := ⟨_, rfl⟩
  have hbd : Below X.heap.size X Xd := by rw [← hXd]; exact Below.drew (Below.refl _ _)
  have HF := Lib.hid (show ∀ wq, Below X.heap.size X wq → wq.cell? ⟨sb, 0, none⟩ = some (.bool sa) ∧ wq.cell? ⟨sb, 1, none⟩ = some (.int .i64 st) ∧ wq.cell? ⟨sb, 2, none⟩ = some (.slice so sl.length sc) ∧ wq.cell? ⟨br, 0, none⟩ = some (.int .i64 kind) ∧ wq.cell? ⟨br, 1, none⟩ = some (.string (bstr g)) ∧ wq.cell? ⟨br, 2, none⟩ = some (.slice ro C.length rc) ∧ wq.cell? ⟨q, 1, none⟩ = some (.int .i64 M) ∧ wq.cell? ⟨q, 2, none⟩ = some (.int .i64 L) from fun wq hb => by
   have a := XS.out.below hb XS.out.lt
   have b := X1'.out.below hb X1'.out.lt
   obtain ⟨_, _, c, _⟩ := KX.out.below hb
   exact ⟨(a.at_ 0 _ rfl).1, (a.at_ 1 _ rfl).1, (a.at_ 2 _ rfl).1, (b.at_ 0 _ rfl).1, (b.at_ 1 _ rfl).1, (b.at_ 2 _ rfl).1, (c.at_ 1 _ rfl).1, (c.at_ 2 _ rfl).1⟩)
  have HB := Lib.hid hbd; have HXD := Lib.hid hXd
  clear hbd hXd
  go_upto_region 8 with fail
  go_cut [15, 16, 17, 18] (fun s15 s16 s17 s18 W' => ∃ nb ab vo vc uo uc, s15 = .pointer (some ⟨nb, 0, none⟩) ∧ s16 = .bool ax.isSome ∧ s17 = .pointer (some ⟨ab, 0, none⟩) ∧ s18 = .int .i64 ac ∧ CBox W' nb 71 #[.bool za, .int .i64 zt, .slice vo zl.length vc] ∧ CBox W' ab 59 #[.bool ag, .slice uo aR.length uc] ∧ Tms W' (.slice vo zl.length vc) zl ∧ Strs W' (.slice uo aR.length uc) aR ∧ Below X.heap.size X W' ∧ (∀ s, ax = some s → pcheck s.1 s.2.1 s.2.2 = true ∧ (Lit.int .i64 s.2.1).wf = true))
  case first =>
   refine wp_region_held_drew (S := fun W' => Below X.heap.size X W') (by kernel_rfl) (Below.drew (Below.refl _ _)) (fun hHeld => ?_)
   rw [HXD.out] at hHeld ⊢
   refine tkL 0 (v := ?_) rfl (by kernel_rfl) (fun _ _ _ => id) (Or.inl ⟨by rfl, ?_⟩) (by assumption) ?_; rotate_left; (focus (intro wq hSq; have f := HF.out wq hSq; go_simp <;> with_reducible rfl)); simp only [Act.put, pA, pB, pC]
   refine tkL 1 (v := ?_) rfl (by kernel_rfl) (fun _ _ _ => id) (Or.inl ⟨by rfl, ?_⟩) (by assumption) ?_; rotate_left; (focus (intro wq hSq; have f := HF.out wq hSq; go_simp <;> with_reducible rfl)); simp only [Act.put, pA, pB, pC]
   refine tkL 2 (v := ?_) rfl (by kernel_rfl) (fun _ _ _ => id) (Or.inl ⟨by rfl, ?_⟩) (by assumption) ?_; rotate_left; (focus (intro wq hSq; have f := HF.out wq hSq; go_simp <;> with_reducible rfl)); simp only [Act.put, pA, pB, pC]
   refine tkL 3 (v := ?_) rfl (by kernel_rfl) (fun _ _ _ => id) (Or.inl ⟨by rfl, ?_⟩) (by assumption) ?_; rotate_left; (focus (intro wq hSq; have f := HF.out wq hSq; go_simp <;> with_reducible rfl)); simp only [Act.put, pA, pB, pC]
   refine tkL 4 (v := ?_) rfl (by kernel_rfl) (fun _ _ _ => id) (Or.inl ⟨by rfl, ?_⟩) (by assumption) ?_; rotate_left; (focus (intro wq hSq; have f := HF.out wq hSq; go_simp <;> with_reducible rfl)); simp only [Act.put, pA, pB, pC]
   refine tkL 5 (v := ?_) rfl (by kernel_rfl) (fun _ _ _ => id) (Or.inl ⟨by rfl, ?_⟩) (by assumption) ?_; rotate_left; (focus (intro wq hSq; have f := HF.out wq hSq; go_simp <;> with_reducible rfl)); simp only [Act.put, pA, pB, pC]
   refine tkL 6 (v := ?_) rfl (by kernel_rfl) (fun _ _ _ => id) (Or.inl ⟨by rfl, ?_⟩) (by assumption) ?_; rotate_left; (focus (intro wq hSq; have f := HF.out wq hSq; go_simp <;> with_reducible rfl)); simp only [Act.put, pA, pB, pC]
   refine tkL 7 (v := ?_) rfl (by kernel_rfl) (fun _ _ _ => id) (Or.inl ⟨by rfl, ?_⟩) (by assumption) ?_; rotate_left; (focus (intro wq hSq; have f := HF.out wq hSq; go_simp <;> with_reducible rfl)); simp only [Act.put, pA, pB, pC]
   refine tkL 8 (v := ?_) rfl (by kernel_rfl) (fun _ _ _ => id) (Or.inl ⟨by rfl, ?_⟩) (by assumption) ?_; rotate_left; (focus (intro wq hSq; have f := HF.out wq hSq; go_simp <;> with_reducible rfl)); simp only [Act.put, pA, pB, pC]
   refine tkL 9 (v := ?_) rfl (by kernel_rfl) (fun _ _ _ => id) (Or.inl ⟨by rfl, ?_⟩) (by assumption) ?_; rotate_left; (focus (intro wq hSq; have f := HF.out wq hSq; go_simp <;> with_reducible rfl)); simp only [Act.put, pA, pB, pC]
   refine tkL 10 (v := ?_) rfl (by kernel_rfl) (fun _ _ _ => id) (Or.inl ⟨by rfl, ?_⟩) (by assumption) ?_; rotate_left; (focus (intro wq hSq; have f := HF.out wq hSq; go_simp <;> with_reducible rfl)); simp only [Act.put, pA, pB, pC]
   refine tkL 11 (v := ?_) rfl (by kernel_rfl) (fun _ _ _ => id) (Or.inl ⟨by rfl, ?_⟩) (by assumption) ?_; rotate_left; (focus (intro wq hSq; have f := HF.out wq hSq; go_simp <;> with_reducible rfl)); simp only [Act.put, pA, pB, pC]
   refine wpAnyH_ready (rs := [12, 18, 19]) (by kernel_rfl) (by simp) (nextL 12 rfl (fun Kr hKr => ?_) (nextL 18 rfl (fun Kr hKr => ?_) (nextL 19 rfl (fun Kr hKr => ?_) AllReadyH.nil)))
   · rw [if_pos (by rfl)]
     go_simp
     refine (HAP.out _ HB.out).mono ?_
     rintro e Wz1 ⟨vv, uu, rfl, hT, hU, hb, hc⟩
     obtain ⟨vo, vc, rfl⟩ := hT.shape
     obtain ⟨uo, uc, rfl⟩ := hU.shape
     replace HB := Lib.hid (HB.out.trans (hb.mono HB.out.size))
     have HT := Lib.hid hT; have HU := Lib.hid hU; have HC := Lib.hid hc
     refine hKr.out _ _ HB.out (fun _ => ?_)
     clear hKr hT hU hb hc
     refine tkL 13 (v := ?_) rfl (by kernel_rfl) (fun _ _ _ => id) (Or.inl ⟨by rfl, ?_⟩) (by assumption) ?_; rotate_left; (focus (intro wq hSq; go_simp <;> with_reducible rfl)); simp only [Act.put, pA, pB, pC]
     refine tkL 14 (v := ?_) rfl (by kernel_rfl) (fun _ _ _ => id) (Or.inl ⟨by rfl, ?_⟩) (by assumption) ?_; rotate_left; (focus (intro wq hSq; go_simp <;> with_reducible rfl)); simp only [Act.put, pA, pB, pC]
     refine tkL 15 (v := ?_) rfl (by kernel_rfl) (fun _ _ _ => id) (Or.inl ⟨by rfl, ?_⟩) (by assumption) ?_; rotate_left; (focus (intro wq hSq; go_simp <;> with_reducible rfl)); simp only [Act.put, pA, pB, pC]
     refine tkL 16 (v := ?_) rfl (by kernel_rfl) (fun _ _ _ => id) (Or.inl ⟨by rfl, ?_⟩) (by assumption) ?_; rotate_left; (focus (intro wq hSq; go_simp <;> with_reducible rfl)); simp only [Act.put, pA, pB, pC]
     refine tkL 17 (v := ?_) rfl (by kernel_rfl) (fun _ _ _ => id) (Or.inl ⟨by rfl, ?_⟩) (by assumption) ?_; rotate_left; (focus (intro wq hSq; go_simp <;> with_reducible rfl)); simp only [Act.put, pA, pB, pC]
     refine wpAnyH_ready (rs := [18, 19]) (by kernel_rfl) (by simp) (nextL 18 rfl (fun Kr hKr => ?_) (nextL 19 rfl (fun Kr hKr => ?_) AllReadyH.nil))
     · rw [if_pos (by rfl)]
       go_simp
       obtain ⟨Wz2, hV⟩ : ∃ W', Wz1.alloc (.cells #[.bool false, .int .i64 0, .slice none 0 0] 71) = W' := ⟨_, rfl⟩
       obtain ⟨nb, hnb⟩ : ∃ b, Wz1.heap.size = b := ⟨_, rfl⟩
       have hb : Below Wz1.heap.size Wz1 Wz2 := by rw [← hV]; exact (Below.refl _ _).alloc (Nat.le_refl _) _
       have BN := Lib.hid (show CBox Wz2 nb 71 #[.bool false, .int .i64 0, .slice none 0 0] from by rw [← hV]; exact CBox.new _ hnb.symm)
       have LBN := Lib.hid (show X.heap.size ≤ nb from by rw [← hnb]; exact HB.out.size)
       rw [hV, hnb]
       replace HT := Lib.hid (HT.out.mono hb)
       replace HU := Lib.hid (HU.out.mono hb)
       replace HB := Lib.hid (HB.out.trans (hb.mono HB.out.size))
       refine hKr.out _ _ HB.out (fun _ => ?_)
       clear hKr hV hnb hb
       refine wpAnyH_ready (rs := [19]) (by kernel_rfl) (by simp) (nextL 19 rfl (fun Kr hKr => ?_) AllReadyH.nil)
       rw [if_pos (by rfl)]
       go_simp
       obtain ⟨Wz3, hV⟩ : ∃ W', Wz2.alloc (.cells #[.bool false, .slice none 0 0] 59) = W' := ⟨_, rfl⟩
       obtain ⟨ab, hnb⟩ : ∃ b, Wz2.heap.size = b := ⟨_, rfl⟩
       have hb : Below Wz2.heap.size Wz2 Wz3 := by rw [← hV]; exact (Below.refl _ _).alloc (Nat.le_refl _) _
       have BA := Lib.hid (show CBox Wz3 ab 59 #[.bool false, .slice none 0 0] from by rw [← hV]; exact CBox.new _ hnb.symm)
       have LBA := Lib.hid (show X.heap.size ≤ ab from by rw [← hnb]; exact HB.out.size)
       have NE := Lib.hid (show nb ≠ ab from by have := BN.out.lt; omega)
       rw [hV, hnb]
       replace BN := Lib.hid (BN.out.below hb BN.out.lt)
       replace HT := Lib.hid (HT.out.mono hb)
       replace HU := Lib.hid (HU.out.mono hb)
       replace HB := Lib.hid (HB.out.trans (hb.mono HB.out.size))
       refine hKr.out _ _ HB.out (fun _ => ?_)
       clear hKr hV hnb hb
       refine wpAnyH_ready (rs := [20]) (by kernel_rfl) (by simp) (nextL 20 rfl (fun Kr hKr => ?_) AllReadyH.nil)
       rw [if_pos (by rfl)]
       obtain ⟨n0, nf0⟩ := BN.out.at_ 0 _ rfl
       obtain ⟨n1, nf1⟩ := BN.out.at_ 1 _ rfl
       obtain ⟨n2, nf2⟩ := BN.out.at_ 2 _ rfl
       go_simp
       clear n0 nf0 n1 nf1 n2 nf2
       have hq := end_s BN.out HT.out HU.out (.bool za) (.int .i64 zt) (.slice vo zl.length vc)
       have hf := far3 BA.out (Ne.symm NE.out) (.bool za) (.int .i64 zt) (.slice vo zl.length vc)
       have hb := below3r HB.out LBN.out (.bool za) (.int .i64 zt) (.slice vo zl.length vc)
       obtain ⟨Wz4, hV⟩ : ∃ W', ((Wz3.setCell ⟨nb, 0, none⟩ (.bool za)).setCell ⟨nb, 1, none⟩ (.int .i64 zt)).setCell ⟨nb, 2, none⟩ (.slice vo zl.length vc) = W' := ⟨_, rfl⟩
       rw [hV] at hq hb hf ⊢
       replace BN := Lib.hid hq.1; replace HT := Lib.hid hq.2.1; replace HU := Lib.hid hq.2.2; replace HB := Lib.hid hb
       replace BA := Lib.hid hf
       clear hf
       refine hKr.out _ _ HB.out (fun _ => ?_)
       clear hKr hV hb hq
       refine tkL 21 (v := ?_) rfl (by kernel_rfl) (fun _ _ _ => id) (Or.inl ⟨by rfl, ?_⟩) (by assumption) ?_; rotate_left; (focus (intro wq hSq; go_simp <;> with_reducible rfl)); simp only [Act.put, pA, pB, pC]
       refine wpAnyH_ready (rs := [22]) (by kernel_rfl) (by simp) (nextL 22 rfl (fun Kr hKr => ?_) AllReadyH.nil)
       rw [if_pos (by rfl)]
       obtain ⟨n0, nf0⟩ := BA.out.at_ 0 _ rfl
       obtain ⟨n1, nf1⟩ := BA.out.at_ 1 _ rfl
       go_simp
       clear n0 nf0 n1 nf1
       have hq := rend_a BA.out HT.out HU.out (.bool ag) (.slice uo aR.length uc)
       have hf := far2 BN.out NE.out (.bool ag) (.slice uo aR.length uc)
       have hb := below2 HB.out LBA.out (.bool ag) (.slice uo aR.length uc)
       obtain ⟨Wz5, hV⟩ : ∃ W', (Wz4.setCell ⟨ab, 0, none⟩ (.bool ag)).setCell ⟨ab, 1, none⟩ (.slice uo aR.length uc) = W' := ⟨_, rfl⟩
       rw [hV] at hq hb hf ⊢
       replace BA := Lib.hid hq.1; replace HT := Lib.hid hq.2.1; replace HU := Lib.hid hq.2.2; replace HB := Lib.hid hb
       replace BN := Lib.hid hf
       clear hf
       refine hKr.out _ _ HB.out (fun _ => ?_)
       clear hKr hV hb hq
       refine tkL 23 (v := ?_) rfl (by kernel_rfl) (fun _ _ _ => id) (Or.inl ⟨by rfl, ?_⟩) (by assumption) ?_; rotate_left; (focus (intro wq hSq; go_simp <;> with_reducible rfl)); simp only [Act.put, pA, pB, pC]
       refine wpAnyH_done (by kernel_rfl) ?_ _
       go_wp2_with fail
       go_meet
       case rel => exact ⟨nb, ab, vo, vc, uo, uc, rfl, rfl, rfl, rfl, BN.out, BA.out, HT.out, HU.out, HB.out, HC.out⟩
     · rw [if_pos (by rfl)]
       go_simp
       obtain ⟨Wz6, hV⟩ : ∃ W', Wz1.alloc (.cells #[.bool false, .slice none 0 0] 59) = W' := ⟨_, rfl⟩
       obtain ⟨ab, hnb⟩ : ∃ b, Wz1.heap.size = b := ⟨_, rfl⟩
       have hb : Below Wz1.heap.size Wz1 Wz6 := by rw [← hV]; exact (Below.refl _ _).alloc (Nat.le_refl _) _
       have BA := Lib.hid (show CBox Wz6 ab 59 #[.bool false, .slice none 0 0] from by rw [← hV]; exact CBox.new _ hnb.symm)
       have LBA := Lib.hid (show X.heap.size ≤ ab from by rw [← hnb]; exact HB.out.size)
       rw [hV, hnb]
       replace HT := Lib.hid (HT.out.mono hb)
       replace HU := Lib.hid (HU.out.mono hb)
       replace HB := Lib.hid (HB.out.trans (hb.mono HB.out.size))
       refine hKr.out _ _ HB.out (fun _ => ?_)
       clear hKr hV hnb hb
       refine wpAnyH_ready (rs := [18]) (by kernel_rfl) (by simp) (nextL 18 rfl (fun Kr hKr => ?_) AllReadyH.nil)
       rw [if_pos (by rfl)]
       go_simp
       obtain ⟨Wz7, hV⟩ : ∃ W', Wz6.alloc (.cells #[.bool false, .int .i64 0, .slice none 0 0] 71) = W' := ⟨_, rfl⟩
       obtain ⟨nb, hnb⟩ : ∃ b, Wz6.heap.size = b := ⟨_, rfl⟩
       have hb : Below Wz6.heap.size Wz6 Wz7 := by rw [← hV]; exact (Below.refl _ _).alloc (Nat.le_refl _) _
       have BN := Lib.hid (show CBox Wz7 nb 71 #[.bool false, .int .i64 0, .slice none 0 0] from by rw [← hV]; exact CBox.new _ hnb.symm)
       have LBN := Lib.hid (show X.heap.size ≤ nb from by rw [← hnb]; exact HB.out.size)
       have NE := Lib.hid (show nb ≠ ab from by have := BA.out.lt; omega)
       rw [hV, hnb]
       replace BA := Lib.hid (BA.out.below hb BA.out.lt)
       replace HT := Lib.hid (HT.out.mono hb)
       replace HU := Lib.hid (HU.out.mono hb)
       replace HB := Lib.hid (HB.out.trans (hb.mono HB.out.size))
       refine hKr.out _ _ HB.out (fun _ => ?_)
       clear hKr hV hnb hb
       refine wpAnyH_ready (rs := [20]) (by kernel_rfl) (by simp) (nextL 20 rfl (fun Kr hKr => ?_) AllReadyH.nil)
       rw [if_pos (by rfl)]
       obtain ⟨n0, nf0⟩ := BN.out.at_ 0 _ rfl
       obtain ⟨n1, nf1⟩ := BN.out.at_ 1 _ rfl
       obtain ⟨n2, nf2⟩ := BN.out.at_ 2 _ rfl
       go_simp
       clear n0 nf0 n1 nf1 n2 nf2
       have hq := end_s BN.out HT.out HU.out (.bool za) (.int .i64 zt) (.slice vo zl.length vc)
       have hf := far3 BA.out (Ne.symm NE.out) (.bool za) (.int .i64 zt) (.slice vo zl.length vc)
       have hb := below3r HB.out LBN.out (.bool za) (.int .i64 zt) (.slice vo zl.length vc)
       obtain ⟨Wz8, hV⟩ : ∃ W', ((Wz7.setCell ⟨nb, 0, none⟩ (.bool za)).setCell ⟨nb, 1, none⟩ (.int .i64 zt)).setCell ⟨nb, 2, none⟩ (.slice vo zl.length vc) = W' := ⟨_, rfl⟩
       rw [hV] at hq hb hf ⊢
       replace BN := Lib.hid hq.1; replace HT := Lib.hid hq.2.1; replace HU := Lib.hid hq.2.2; replace HB := Lib.hid hb
       replace BA := Lib.hid hf
       clear hf
       refine hKr.out _ _ HB.out (fun _ => ?_)
       clear hKr hV hb hq
       refine tkL 21 (v := ?_) rfl (by kernel_rfl) (fun _ _ _ => id) (Or.inl ⟨by rfl, ?_⟩) (by assumption) ?_; rotate_left; (focus (intro wq hSq; go_simp <;> with_reducible rfl)); simp only [Act.put, pA, pB, pC]
       refine wpAnyH_ready (rs := [22]) (by kernel_rfl) (by simp) (nextL 22 rfl (fun Kr hKr => ?_) AllReadyH.nil)
       rw [if_pos (by rfl)]
       obtain ⟨n0, nf0⟩ := BA.out.at_ 0 _ rfl
       obtain ⟨n1, nf1⟩ := BA.out.at_ 1 _ rfl
       go_simp
       clear n0 nf0 n1 nf1
       have hq := rend_a BA.out HT.out HU.out (.bool ag) (.slice uo aR.length uc)
       have hf := far2 BN.out NE.out (.bool ag) (.slice uo aR.length uc)
       have hb := below2 HB.out LBA.out (.bool ag) (.slice uo aR.length uc)
       obtain ⟨Wz9, hV⟩ : ∃ W', (Wz8.setCell ⟨ab, 0, none⟩ (.bool ag)).setCell ⟨ab, 1, none⟩ (.slice uo aR.length uc) = W' := ⟨_, rfl⟩
       rw [hV] at hq hb hf ⊢
       replace BA := Lib.hid hq.1; replace HT := Lib.hid hq.2.1; replace HU := Lib.hid hq.2.2; replace HB := Lib.hid hb
       replace BN := Lib.hid hf
       clear hf
       refine hKr.out _ _ HB.out (fun _ => ?_)
       clear hKr hV hb hq
       refine tkL 23 (v := ?_) rfl (by kernel_rfl) (fun _ _ _ => id) (Or.inl ⟨by rfl, ?_⟩) (by assumption) ?_; rotate_left; (focus (intro wq hSq; go_simp <;> with_reducible rfl)); simp only [Act.put, pA, pB, pC]
       refine wpAnyH_done (by kernel_rfl) ?_ _
       go_wp2_with fail
       go_meet
       case rel => exact ⟨nb, ab, vo, vc, uo, uc, rfl, rfl, rfl, rfl, BN.out, BA.out, HT.out, HU.out, HB.out, HC.out⟩
   · rw [if_pos (by rfl)]
     go_simp
     obtain ⟨Wz10, hV⟩ : ∃ W', Xd.alloc (.cells #[.bool false, .int .i64 0, .slice none 0 0] 71) = W' := ⟨_, rfl⟩
     obtain ⟨nb, hnb⟩ : ∃ b, Xd.heap.size = b := ⟨_, rfl⟩
     have hb : Below Xd.heap.size Xd Wz10 := by rw [← hV]; exact (Below.refl _ _).alloc (Nat.le_refl _) _
     have BN := Lib.hid (show CBox Wz10 nb 71 #[.bool false, .int .i64 0, .slice none 0 0] from by rw [← hV]; exact CBox.new _ hnb.symm)
     have LBN := Lib.hid (show X.heap.size ≤ nb from by rw [← hnb]; exact HB.out.size)
     rw [hV, hnb]
     replace HB := Lib.hid (HB.out.trans (hb.mono HB.out.size))
     refine hKr.out _ _ HB.out (fun _ => ?_)
     clear hKr hV hnb hb
     refine wpAnyH_ready (rs := [12, 19]) (by kernel_rfl) (by simp) (nextL 12 rfl (fun Kr hKr => ?_) (nextL 19 rfl (fun Kr hKr => ?_) AllReadyH.nil))
     · rw [if_pos (by rfl)]
       go_simp
       refine (HAP.out _ HB.out).mono ?_
       rintro e Wz11 ⟨vv, uu, rfl, hT, hU, hb, hc⟩
       obtain ⟨vo, vc, rfl⟩ := hT.shape
       obtain ⟨uo, uc, rfl⟩ := hU.shape
       replace BN := Lib.hid (BN.out.below hb BN.out.lt)
       replace HB := Lib.hid (HB.out.trans (hb.mono HB.out.size))
       have HT := Lib.hid hT; have HU := Lib.hid hU; have HC := Lib.hid hc
       refine hKr.out _ _ HB.out (fun _ => ?_)
       clear hKr hT hU hb hc
       refine tkL 13 (v := ?_) rfl (by kernel_rfl) (fun _ _ _ => id) (Or.inl ⟨by rfl, ?_⟩) (by assumption) ?_; rotate_left; (focus (intro wq hSq; go_simp <;> with_reducible rfl)); simp only [Act.put, pA, pB, pC]
       refine tkL 14 (v := ?_) rfl (by kernel_rfl) (fun _ _ _ => id) (Or.inl ⟨by rfl, ?_⟩) (by assumption) ?_; rotate_left; (focus (intro wq hSq; go_simp <;> with_reducible rfl)); simp only [Act.put, pA, pB, pC]
       refine tkL 15 (v := ?_) rfl (by kernel_rfl) (fun _ _ _ => id) (Or.inl ⟨by rfl, ?_⟩) (by assumption) ?_; rotate_left; (focus (intro wq hSq; go_simp <;> with_reducible rfl)); simp only [Act.put, pA, pB, pC]
       refine tkL 16 (v := ?_) rfl (by kernel_rfl) (fun _ _ _ => id) (Or.inl ⟨by rfl, ?_⟩) (by assumption) ?_; rotate_left; (focus (intro wq hSq; go_simp <;> with_reducible rfl)); simp only [Act.put, pA, pB, pC]
       refine tkL 17 (v := ?_) rfl (by kernel_rfl) (fun _ _ _ => id) (Or.inl ⟨by rfl, ?_⟩) (by assumption) ?_; rotate_left; (focus (intro wq hSq; go_simp <;> with_reducible rfl)); simp only [Act.put, pA, pB, pC]
       refine wpAnyH_ready (rs := [19]) (by kernel_rfl) (by simp) (nextL 19 rfl (fun Kr hKr => ?_) AllReadyH.nil)
       rw [if_pos (by rfl)]
       go_simp
       obtain ⟨Wz12, hV⟩ : ∃ W', Wz11.alloc (.cells #[.bool false, .slice none 0 0] 59) = W' := ⟨_, rfl⟩
       obtain ⟨ab, hnb⟩ : ∃ b, Wz11.heap.size = b := ⟨_, rfl⟩
       have hb : Below Wz11.heap.size Wz11 Wz12 := by rw [← hV]; exact (Below.refl _ _).alloc (Nat.le_refl _) _
       have BA := Lib.hid (show CBox Wz12 ab 59 #[.bool false, .slice none 0 0] from by rw [← hV]; exact CBox.new _ hnb.symm)
       have LBA := Lib.hid (show X.heap.size ≤ ab from by rw [← hnb]; exact HB.out.size)
       have NE := Lib.hid (show nb ≠ ab from by have := BN.out.lt; omega)
       rw [hV, hnb]
       replace BN := Lib.hid (BN.out.below hb BN.out.lt)
       replace HT := Lib.hid (HT.out.mono hb)
       replace HU := Lib.hid (HU.out.mono hb)
       replace HB := Lib.hid (HB.out.trans (hb.mono HB.out.size))
       refine hKr.out _ _ HB.out (fun _ => ?_)
       clear hKr hV hnb hb
       refine wpAnyH_ready (rs := [20]) (by kernel_rfl) (by simp) (nextL 20 rfl (fun Kr hKr => ?_) AllReadyH.nil)
       rw [if_pos (by rfl)]
       obtain ⟨n0, nf0⟩ := BN.out.at_ 0 _ rfl
       obtain ⟨n1, nf1⟩ := BN.out.at_ 1 _ rfl
       obtain ⟨n2, nf2⟩ := BN.out.at_ 2 _ rfl
       go_simp
       clear n0 nf0 n1 nf1 n2 nf2
       have hq := end_s BN.out HT.out HU.out (.bool za) (.int .i64 zt) (.slice vo zl.length vc)
       have hf := far3 BA.out (Ne.symm NE.out) (.bool za) (.int .i64 zt) (.slice vo zl.length vc)
       have hb := below3r HB.out LBN.out (.bool za) (.int .i64 zt) (.slice vo zl.length vc)
       obtain ⟨Wz13, hV⟩ : ∃ W', ((Wz12.setCell ⟨nb, 0, none⟩ (.bool za)).setCell ⟨nb, 1, none⟩ (.int .i64 zt)).setCell ⟨nb, 2, none⟩ (.slice vo zl.length vc) = W' := ⟨_, rfl⟩
       rw [hV] at hq hb hf ⊢
       replace BN := Lib.hid hq.1; replace HT := Lib.hid hq.2.1; replace HU := Lib.hid hq.2.2; replace HB := Lib.hid hb
       replace BA := Lib.hid hf
       clear hf
       refine hKr.out _ _ HB.out (fun _ => ?_)
       clear hKr hV hb hq
       refine tkL 21 (v := ?_) rfl (by kernel_rfl) (fun _ _ _ => id) (Or.inl ⟨by rfl, ?_⟩) (by assumption) ?_; rotate_left; (focus (intro wq hSq; go_simp <;> with_reducible rfl)); simp only [Act.put, pA, pB, pC]
       refine wpAnyH_ready (rs := [22]) (by kernel_rfl) (by simp) (nextL 22 rfl (fun Kr hKr => ?_) AllReadyH.nil)
       rw [if_pos (by rfl)]
       obtain ⟨n0, nf0⟩ := BA.out.at_ 0 _ rfl
       obtain ⟨n1, nf1⟩ := BA.out.at_ 1 _ rfl
       go_simp
       clear n0 nf0 n1 nf1
       have hq := rend_a BA.out HT.out HU.out (.bool ag) (.slice uo aR.length uc)
       have hf := far2 BN.out NE.out (.bool ag) (.slice uo aR.length uc)
       have hb := below2 HB.out LBA.out (.bool ag) (.slice uo aR.length uc)
       obtain ⟨Wz14, hV⟩ : ∃ W', (Wz13.setCell ⟨ab, 0, none⟩ (.bool ag)).setCell ⟨ab, 1, none⟩ (.slice uo aR.length uc) = W' := ⟨_, rfl⟩
       rw [hV] at hq hb hf ⊢
       replace BA := Lib.hid hq.1; replace HT := Lib.hid hq.2.1; replace HU := Lib.hid hq.2.2; replace HB := Lib.hid hb
       replace BN := Lib.hid hf
       clear hf
       refine hKr.out _ _ HB.out (fun _ => ?_)
       clear hKr hV hb hq
       refine tkL 23 (v := ?_) rfl (by kernel_rfl) (fun _ _ _ => id) (Or.inl ⟨by rfl, ?_⟩) (by assumption) ?_; rotate_left; (focus (intro wq hSq; go_simp <;> with_reducible rfl)); simp only [Act.put, pA, pB, pC]
       refine wpAnyH_done (by kernel_rfl) ?_ _
       go_wp2_with fail
       go_meet
       case rel => exact ⟨nb, ab, vo, vc, uo, uc, rfl, rfl, rfl, rfl, BN.out, BA.out, HT.out, HU.out, HB.out, HC.out⟩
     · rw [if_pos (by rfl)]
       go_simp
       obtain ⟨Wz15, hV⟩ : ∃ W', Wz10.alloc (.cells #[.bool false, .slice none 0 0] 59) = W' := ⟨_, rfl⟩
       obtain ⟨ab, hnb⟩ : ∃ b, Wz10.heap.size = b := ⟨_, rfl⟩
       have hb : Below Wz10.heap.size Wz10 Wz15 := by rw [← hV]; exact (Below.refl _ _).alloc (Nat.le_refl _) _
       have BA := Lib.hid (show CBox Wz15 ab 59 #[.bool false, .slice none 0 0] from by rw [← hV]; exact CBox.new _ hnb.symm)
       have LBA := Lib.hid (show X.heap.size ≤ ab from by rw [← hnb]; exact HB.out.size)
       have NE := Lib.hid (show nb ≠ ab from by have := BN.out.lt; omega)
       rw [hV, hnb]
       replace BN := Lib.hid (BN.out.below hb BN.out.lt)
       replace HB := Lib.hid (HB.out.trans (hb.mono HB.out.size))
       refine hKr.out _ _ HB.out (fun _ => ?_)
       clear hKr hV hnb hb
       refine wpAnyH_ready (rs := [12]) (by kernel_rfl) (by simp) (nextL 12 rfl (fun Kr hKr => ?_) AllReadyH.nil)
       rw [if_pos (by rfl)]
       go_simp
       refine (HAP.out _ HB.out).mono ?_
       rintro e Wz16 ⟨vv, uu, rfl, hT, hU, hb, hc⟩
       obtain ⟨vo, vc, rfl⟩ := hT.shape
       obtain ⟨uo, uc, rfl⟩ := hU.shape
       replace BN := Lib.hid (BN.out.below hb BN.out.lt)
       replace BA := Lib.hid (BA.out.below hb BA.out.lt)
       replace HB := Lib.hid (HB.out.trans (hb.mono HB.out.size))
       have HT := Lib.hid hT; have HU := Lib.hid hU; have HC := Lib.hid hc
       refine hKr.out _ _ HB.out (fun _ => ?_)
       clear hKr hT hU hb hc
       refine tkL 13 (v := ?_) rfl (by kernel_rfl) (fun _ _ _ => id) (Or.inl ⟨by rfl, ?_⟩) (by assumption) ?_; rotate_left; (focus (intro wq hSq; go_simp <;> with_reducible rfl)); simp only [Act.put, pA, pB, pC]
       refine tkL 14 (v := ?_) rfl (by kernel_rfl) (fun _ _ _ => id) (Or.inl ⟨by rfl, ?_⟩) (by assumption) ?_; rotate_left; (focus (intro wq hSq; go_simp <;> with_reducible rfl)); simp only [Act.put, pA, pB, pC]
       refine tkL 15 (v := ?_) rfl (by kernel_rfl) (fun _ _ _ => id) (Or.inl ⟨by rfl, ?_⟩) (by assumption) ?_; rotate_left; (focus (intro wq hSq; go_simp <;> with_reducible rfl)); simp only [Act.put, pA, pB, pC]
       refine tkL 16 (v := ?_) rfl (by kernel_rfl) (fun _ _ _ => id) (Or.inl ⟨by rfl, ?_⟩) (by assumption) ?_; rotate_left; (focus (intro wq hSq; go_simp <;> with_reducible rfl)); simp only [Act.put, pA, pB, pC]
       refine tkL 17 (v := ?_) rfl (by kernel_rfl) (fun _ _ _ => id) (Or.inl ⟨by rfl, ?_⟩) (by assumption) ?_; rotate_left; (focus (intro wq hSq; go_simp <;> with_reducible rfl)); simp only [Act.put, pA, pB, pC]
       refine wpAnyH_ready (rs := [20]) (by kernel_rfl) (by simp) (nextL 20 rfl (fun Kr hKr => ?_) AllReadyH.nil)
       rw [if_pos (by rfl)]
       obtain ⟨n0, nf0⟩ := BN.out.at_ 0 _ rfl
       obtain ⟨n1, nf1⟩ := BN.out.at_ 1 _ rfl
       obtain ⟨n2, nf2⟩ := BN.out.at_ 2 _ rfl
       go_simp
       clear n0 nf0 n1 nf1 n2 nf2
       have hq := end_s BN.out HT.out HU.out (.bool za) (.int .i64 zt) (.slice vo zl.length vc)
       have hf := far3 BA.out (Ne.symm NE.out) (.bool za) (.int .i64 zt) (.slice vo zl.length vc)
       have hb := below3r HB.out LBN.out (.bool za) (.int .i64 zt) (.slice vo zl.length vc)
       obtain ⟨Wz17, hV⟩ : ∃ W', ((Wz16.setCell ⟨nb, 0, none⟩ (.bool za)).setCell ⟨nb, 1, none⟩ (.int .i64 zt)).setCell ⟨nb, 2, none⟩ (.slice vo zl.length vc) = W' := ⟨_, rfl⟩
       rw [hV] at hq hb hf ⊢
       replace BN := Lib.hid hq.1; replace HT := Lib.hid hq.2.1; replace HU := Lib.hid hq.2.2; replace HB := Lib.hid hb
       replace BA := Lib.hid hf
       clear hf
       refine hKr.out _ _ HB.out (fun _ => ?_)
       clear hKr hV hb hq
       refine tkL 21 (v := ?_) rfl (by kernel_rfl) (fun _ _ _ => id) (Or.inl ⟨by rfl, ?_⟩) (by assumption) ?_; rotate_left; (focus (intro wq hSq; go_simp <;> with_reducible rfl)); simp only [Act.put, pA, pB, pC]
       refine wpAnyH_ready (rs := [22]) (by kernel_rfl) (by simp) (nextL 22 rfl (fun Kr hKr => ?_) AllReadyH.nil)
       rw [if_pos (by rfl)]
       obtain ⟨n0, nf0⟩ := BA.out.at_ 0 _ rfl
       obtain ⟨n1, nf1⟩ := BA.out.at_ 1 _ rfl
       go_simp
       clear n0 nf0 n1 nf1
       have hq := rend_a BA.out HT.out HU.out (.bool ag) (.slice uo aR.length uc)
       have hf := far2 BN.out NE.out (.bool ag) (.slice uo aR.length uc)
       have hb := below2 HB.out LBA.out (.bool ag) (.slice uo aR.length uc)
       obtain ⟨Wz18, hV⟩ : ∃ W', (Wz17.setCell ⟨ab, 0, none⟩ (.bool ag)).setCell ⟨ab, 1, none⟩ (.slice uo aR.length uc) = W' := ⟨_, rfl⟩
       rw [hV] at hq hb hf ⊢
       replace BA := Lib.hid hq.1; replace HT := Lib.hid hq.2.1; replace HU := Lib.hid hq.2.2; replace HB := Lib.hid hb
       replace BN := Lib.hid hf
       clear hf
       refine hKr.out _ _ HB.out (fun _ => ?_)
       clear hKr hV hb hq
       refine tkL 23 (v := ?_) rfl (by kernel_rfl) (fun _ _ _ => id) (Or.inl ⟨by rfl, ?_⟩) (by assumption) ?_; rotate_left; (focus (intro wq hSq; go_simp <;> with_reducible rfl)); simp only [Act.put, pA, pB, pC]
       refine wpAnyH_done (by kernel_rfl) ?_ _
       go_wp2_with fail
       go_meet
       case rel => exact ⟨nb, ab, vo, vc, uo, uc, rfl, rfl, rfl, rfl, BN.out, BA.out, HT.out, HU.out, HB.out, HC.out⟩
   · rw [if_pos (by rfl)]
     go_simp
     obtain ⟨Wz19, hV⟩ : ∃ W', Xd.alloc (.cells #[.bool false, .slice none 0 0] 59) = W' := ⟨_, rfl⟩
     obtain ⟨ab, hnb⟩ : ∃ b, Xd.heap.size = b := ⟨_, rfl⟩
     have hb : Below Xd.heap.size Xd Wz19 := by rw [← hV]; exact (Below.refl _ _).alloc (Nat.le_refl _) _
     have BA := Lib.hid (show CBox Wz19 ab 59 #[.bool false, .slice none 0 0] from by rw [← hV]; exact CBox.new _ hnb.symm)
     have LBA := Lib.hid (show X.heap.size ≤ ab from by rw [← hnb]; exact HB.out.size)
     rw [hV, hnb]
     replace HB := Lib.hid (HB.out.trans (hb.mono HB.out.size))
     refine hKr.out _ _ HB.out (fun _ => ?_)
     clear hKr hV hnb hb
     refine wpAnyH_ready (rs := [12, 18]) (by kernel_rfl) (by simp) (nextL 12 rfl (fun Kr hKr => ?_) (nextL 18 rfl (fun Kr hKr => ?_) AllReadyH.nil))
     · rw [if_pos (by rfl)]
       go_simp
       refine (HAP.out _ HB.out).mono ?_
       rintro e Wz20 ⟨vv, uu, rfl, hT, hU, hb, hc⟩
       obtain ⟨vo, vc, rfl⟩ := hT.shape
       obtain ⟨uo, uc, rfl⟩ := hU.shape
       replace BA := Lib.hid (BA.out.below hb BA.out.lt)
       replace HB := Lib.hid (HB.out.trans (hb.mono HB.out.size))
       have HT := Lib.hid hT; have HU := Lib.hid hU; have HC := Lib.hid hc
       refine hKr.out _ _ HB.out (fun _ => ?_)
       clear hKr hT hU hb hc
       refine tkL 13 (v := ?_) rfl (by kernel_rfl) (fun _ _ _ => id) (Or.inl ⟨by rfl, ?_⟩) (by assumption) ?_; rotate_left; (focus (intro wq hSq; go_simp <;> with_reducible rfl)); simp only [Act.put, pA, pB, pC]
       refine tkL 14 (v := ?_) rfl (by kernel_rfl) (fun _ _ _ => id) (Or.inl ⟨by rfl, ?_⟩) (by assumption) ?_; rotate_left; (focus (intro wq hSq; go_simp <;> with_reducible rfl)); simp only [Act.put, pA, pB, pC]
       refine tkL 15 (v := ?_) rfl (by kernel_rfl) (fun _ _ _ => id) (Or.inl ⟨by rfl, ?_⟩) (by assumption) ?_; rotate_left; (focus (intro wq hSq; go_simp <;> with_reducible rfl)); simp only [Act.put, pA, pB, pC]
       refine tkL 16 (v := ?_) rfl (by kernel_rfl) (fun _ _ _ => id) (Or.inl ⟨by rfl, ?_⟩) (by assumption) ?_; rotate_left; (focus (intro wq hSq; go_simp <;> with_reducible rfl)); simp only [Act.put, pA, pB, pC]
       refine tkL 17 (v := ?_) rfl (by kernel_rfl) (fun _ _ _ => id) (Or.inl ⟨by rfl, ?_⟩) (by assumption) ?_; rotate_left; (focus (intro wq hSq; go_simp <;> with_reducible rfl)); simp only [Act.put, pA, pB, pC]
       refine wpAnyH_ready (rs := [18]) (by kernel_rfl) (by simp) (nextL 18 rfl (fun Kr hKr => ?_) AllReadyH.nil)
       rw [if_pos (by rfl)]
       go_simp
       obtain ⟨Wz21, hV⟩ : ∃ W', Wz20.alloc (.cells #[.bool false, .int .i64 0, .slice none 0 0] 71) = W' := ⟨_, rfl⟩
       obtain ⟨nb, hnb⟩ : ∃ b, Wz20.heap.size = b := ⟨_, rfl⟩
       have hb : Below Wz20.heap.size Wz20 Wz21 := by rw [← hV]; exact (Below.refl _ _).alloc (Nat.le_refl _) _
       have BN := Lib.hid (show CBox Wz21 nb 71 #[.bool false, .int .i64 0, .slice none 0 0] from by rw [← hV]; exact CBox.new _ hnb.symm)
       have LBN := Lib.hid (show X.heap.size ≤ nb from by rw [← hnb]; exact HB.out.size)
       have NE := Lib.hid (show nb ≠ ab from by have := BA.out.lt; omega)
       rw [hV, hnb]
       replace BA := Lib.hid (BA.out.below hb BA.out.lt)
       replace HT := Lib.hid (HT.out.mono hb)
       replace HU := Lib.hid (HU.out.mono hb)
       replace HB := Lib.hid (HB.out.trans (hb.mono HB.out.size))
       refine hKr.out _ _ HB.out (fun _ => ?_)
       clear hKr hV hnb hb
       refine wpAnyH_ready (rs := [20]) (by kernel_rfl) (by simp) (nextL 20 rfl (fun Kr hKr => ?_) AllReadyH.nil)
       rw [if_pos (by rfl)]
       obtain ⟨n0, nf0⟩ := BN.out.at_ 0 _ rfl
       obtain ⟨n1, nf1⟩ := BN.out.at_ 1 _ rfl
       obtain ⟨n2, nf2⟩ := BN.out.at_ 2 _ rfl
       go_simp
       clear n0 nf0 n1 nf1 n2 nf2
       have hq := end_s BN.out HT.out HU.out (.bool za) (.int .i64 zt) (.slice vo zl.length vc)
       have hf := far3 BA.out (Ne.symm NE.out) (.bool za) (.int .i64 zt) (.slice vo zl.length vc)
       have hb := below3r HB.out LBN.out (.bool za) (.int .i64 zt) (.slice vo zl.length vc)
       obtain ⟨Wz22, hV⟩ : ∃ W', ((Wz21.setCell ⟨nb, 0, none⟩ (.bool za)).setCell ⟨nb, 1, none⟩ (.int .i64 zt)).setCell ⟨nb, 2, none⟩ (.slice vo zl.length vc) = W' := ⟨_, rfl⟩
       rw [hV] at hq hb hf ⊢
       replace BN := Lib.hid hq.1; replace HT := Lib.hid hq.2.1; replace HU := Lib.hid hq.2.2; replace HB := Lib.hid hb
       replace BA := Lib.hid hf
       clear hf
       refine hKr.out _ _ HB.out (fun _ => ?_)
       clear hKr hV hb hq
       refine tkL 21 (v := ?_) rfl (by kernel_rfl) (fun _ _ _ => id) (Or.inl ⟨by rfl, ?_⟩) (by assumption) ?_; rotate_left; (focus (intro wq hSq; go_simp <;> with_reducible rfl)); simp only [Act.put, pA, pB, pC]
       refine wpAnyH_ready (rs := [22]) (by kernel_rfl) (by simp) (nextL 22 rfl (fun Kr hKr => ?_) AllReadyH.nil)
       rw [if_pos (by rfl)]
       obtain ⟨n0, nf0⟩ := BA.out.at_ 0 _ rfl
       obtain ⟨n1, nf1⟩ := BA.out.at_ 1 _ rfl
       go_simp
       clear n0 nf0 n1 nf1
       have hq := rend_a BA.out HT.out HU.out (.bool ag) (.slice uo aR.length uc)
       have hf := far2 BN.out NE.out (.bool ag) (.slice uo aR.length uc)
       have hb := below2 HB.out LBA.out (.bool ag) (.slice uo aR.length uc)
       obtain ⟨Wz23, hV⟩ : ∃ W', (Wz22.setCell ⟨ab, 0, none⟩ (.bool ag)).setCell ⟨ab, 1, none⟩ (.slice uo aR.length uc) = W' := ⟨_, rfl⟩
       rw [hV] at hq hb hf ⊢
       replace BA := Lib.hid hq.1; replace HT := Lib.hid hq.2.1; replace HU := Lib.hid hq.2.2; replace HB := Lib.hid hb
       replace BN := Lib.hid hf
       clear hf
       refine hKr.out _ _ HB.out (fun _ => ?_)
       clear hKr hV hb hq
       refine tkL 23 (v := ?_) rfl (by kernel_rfl) (fun _ _ _ => id) (Or.inl ⟨by rfl, ?_⟩) (by assumption) ?_; rotate_left; (focus (intro wq hSq; go_simp <;> with_reducible rfl)); simp only [Act.put, pA, pB, pC]
       refine wpAnyH_done (by kernel_rfl) ?_ _
       go_wp2_with fail
       go_meet
       case rel => exact ⟨nb, ab, vo, vc, uo, uc, rfl, rfl, rfl, rfl, BN.out, BA.out, HT.out, HU.out, HB.out, HC.out⟩
     · rw [if_pos (by rfl)]
       go_simp
       obtain ⟨Wz24, hV⟩ : ∃ W', Wz19.alloc (.cells #[.bool false, .int .i64 0, .slice none 0 0] 71) = W' := ⟨_, rfl⟩
       obtain ⟨nb, hnb⟩ : ∃ b, Wz19.heap.size = b := ⟨_, rfl⟩
       have hb : Below Wz19.heap.size Wz19 Wz24 := by rw [← hV]; exact (Below.refl _ _).alloc (Nat.le_refl _) _
       have BN := Lib.hid (show CBox Wz24 nb 71 #[.bool false, .int .i64 0, .slice none 0 0] from by rw [← hV]; exact CBox.new _ hnb.symm)
       have LBN := Lib.hid (show X.heap.size ≤ nb from by rw [← hnb]; exact HB.out.size)
       have NE := Lib.hid (show nb ≠ ab from by have := BA.out.lt; omega)
       rw [hV, hnb]
       replace BA := Lib.hid (BA.out.below hb BA.out.lt)
       replace HB := Lib.hid (HB.out.trans (hb.mono HB.out.size))
       refine hKr.out _ _ HB.out (fun _ => ?_)
       clear hKr hV hnb hb
       refine wpAnyH_ready (rs := [12]) (by kernel_rfl) (by simp) (nextL 12 rfl (fun Kr hKr => ?_) AllReadyH.nil)
       rw [if_pos (by rfl)]
       go_simp
       refine (HAP.out _ HB.out).mono ?_
       rintro e Wz25 ⟨vv, uu, rfl, hT, hU, hb, hc⟩
       obtain ⟨vo, vc, rfl⟩ := hT.shape
       obtain ⟨uo, uc, rfl⟩ := hU.shape
       replace BN := Lib.hid (BN.out.below hb BN.out.lt)
       replace BA := Lib.hid (BA.out.below hb BA.out.lt)
       replace HB := Lib.hid (HB.out.trans (hb.mono HB.out.size))
       have HT := Lib.hid hT; have HU := Lib.hid hU; have HC := Lib.hid hc
       refine hKr.out _ _ HB.out (fun _ => ?_)
       clear hKr hT hU hb hc
       refine tkL 13 (v := ?_) rfl (by kernel_rfl) (fun _ _ _ => id) (Or.inl ⟨by rfl, ?_⟩) (by assumption) ?_; rotate_left; (focus (intro wq hSq; go_simp <;> with_reducible rfl)); simp only [Act.put, pA, pB, pC]
       refine tkL 14 (v := ?_) rfl (by kernel_rfl) (fun _ _ _ => id) (Or.inl ⟨by rfl, ?_⟩) (by assumption) ?_; rotate_left; (focus (intro wq hSq; go_simp <;> with_reducible rfl)); simp only [Act.put, pA, pB, pC]
       refine tkL 15 (v := ?_) rfl (by kernel_rfl) (fun _ _ _ => id) (Or.inl ⟨by rfl, ?_⟩) (by assumption) ?_; rotate_left; (focus (intro wq hSq; go_simp <;> with_reducible rfl)); simp only [Act.put, pA, pB, pC]
       refine tkL 16 (v := ?_) rfl (by kernel_rfl) (fun _ _ _ => id) (Or.inl ⟨by rfl, ?_⟩) (by assumption) ?_; rotate_left; (focus (intro wq hSq; go_simp <;> with_reducible rfl)); simp only [Act.put, pA, pB, pC]
       refine tkL 17 (v := ?_) rfl (by kernel_rfl) (fun _ _ _ => id) (Or.inl ⟨by rfl, ?_⟩) (by assumption) ?_; rotate_left; (focus (intro wq hSq; go_simp <;> with_reducible rfl)); simp only [Act.put, pA, pB, pC]
       refine wpAnyH_ready (rs := [20]) (by kernel_rfl) (by simp) (nextL 20 rfl (fun Kr hKr => ?_) AllReadyH.nil)
       rw [if_pos (by rfl)]
       obtain ⟨n0, nf0⟩ := BN.out.at_ 0 _ rfl
       obtain ⟨n1, nf1⟩ := BN.out.at_ 1 _ rfl
       obtain ⟨n2, nf2⟩ := BN.out.at_ 2 _ rfl
       go_simp
       clear n0 nf0 n1 nf1 n2 nf2
       have hq := end_s BN.out HT.out HU.out (.bool za) (.int .i64 zt) (.slice vo zl.length vc)
       have hf := far3 BA.out (Ne.symm NE.out) (.bool za) (.int .i64 zt) (.slice vo zl.length vc)
       have hb := below3r HB.out LBN.out (.bool za) (.int .i64 zt) (.slice vo zl.length vc)
       obtain ⟨Wz26, hV⟩ : ∃ W', ((Wz25.setCell ⟨nb, 0, none⟩ (.bool za)).setCell ⟨nb, 1, none⟩ (.int .i64 zt)).setCell ⟨nb, 2, none⟩ (.slice vo zl.length vc) = W' := ⟨_, rfl⟩
       rw [hV] at hq hb hf ⊢
       replace BN := Lib.hid hq.1; replace HT := Lib.hid hq.2.1; replace HU := Lib.hid hq.2.2; replace HB := Lib.hid hb
       replace BA := Lib.hid hf
       clear hf
       refine hKr.out _ _ HB.out (fun _ => ?_)
       clear hKr hV hb hq
       refine tkL 21 (v := ?_) rfl (by kernel_rfl) (fun _ _ _ => id) (Or.inl ⟨by rfl, ?_⟩) (by assumption) ?_; rotate_left; (focus (intro wq hSq; go_simp <;> with_reducible rfl)); simp only [Act.put, pA, pB, pC]
       refine wpAnyH_ready (rs := [22]) (by kernel_rfl) (by simp) (nextL 22 rfl (fun Kr hKr => ?_) AllReadyH.nil)
       rw [if_pos (by rfl)]
       obtain ⟨n0, nf0⟩ := BA.out.at_ 0 _ rfl
       obtain ⟨n1, nf1⟩ := BA.out.at_ 1 _ rfl
       go_simp
       clear n0 nf0 n1 nf1
       have hq := rend_a BA.out HT.out HU.out (.bool ag) (.slice uo aR.length uc)
       have hf := far2 BN.out NE.out (.bool ag) (.slice uo aR.length uc)
       have hb := below2 HB.out LBA.out (.bool ag) (.slice uo aR.length uc)
       obtain ⟨Wz27, hV⟩ : ∃ W', (Wz26.setCell ⟨ab, 0, none⟩ (.bool ag)).setCell ⟨ab, 1, none⟩ (.slice uo aR.length uc) = W' := ⟨_, rfl⟩
       rw [hV] at hq hb hf ⊢
       replace BA := Lib.hid hq.1; replace HT := Lib.hid hq.2.1; replace HU := Lib.hid hq.2.2; replace HB := Lib.hid hb
       replace BN := Lib.hid hf
       clear hf
       refine hKr.out _ _ HB.out (fun _ => ?_)
       clear hKr hV hb hq
       refine tkL 23 (v := ?_) rfl (by kernel_rfl) (fun _ _ _ => id) (Or.inl ⟨by rfl, ?_⟩) (by assumption) ?_; rotate_left; (focus (intro wq hSq; go_simp <;> with_reducible rfl)); simp only [Act.put, pA, pB, pC]
       refine wpAnyH_done (by kernel_rfl) ?_ _
       go_wp2_with fail
       go_meet
       case rel => exact ⟨nb, ab, vo, vc, uo, uc, rfl, rfl, rfl, rfl, BN.out, BA.out, HT.out, HU.out, HB.out, HC.out⟩
  case rest =>
   obtain ⟨Y, rfl⟩ : ∃ Y, Y = wc := ⟨_, rfl⟩
   obtain ⟨nb, ab, vo, vc, uo, uc, rfl, rfl, rfl, rfl, hn, ha, ht, hu, hb, hc⟩ := hcut
   obtain ⟨Z, hZZ⟩ : ∃ W, Y.drew = W := ⟨_, rfl⟩
   have hbz : Below Y.heap.size Y Z := by rw [← hZZ]; exact Below.drew (Below.refl _ _)
   have hbt : Below w.heap.size w Y := HB0.out.trans ((HBX.out.trans (hb.mono HBX.out.size)).mono HB0.out.size)
   have hxz := hb.trans (hbz.mono hb.size)
   have XA1 := Lib.hid (XA'.out.below hb XA'.out.lt)
   have BN := Lib.hid (hn.below hbz hn.lt); have BA := Lib.hid (ha.below hbz ha.lt); have TT := Lib.hid (ht.mono hbz); have UU := Lib.hid (hu.mono hbz)
   have KZ := Lib.hid (KX.out.below hxz); have X1z := Lib.hid (X1'.out.below hxz X1'.out.lt); have XAz := Lib.hid (XA'.out.below hxz XA'.out.lt)
   have BY := Lib.hid hbt; have BZ := Lib.hid (hbt.trans (hbz.mono hbt.size)); have KY := Lib.hid (KX.out.below hb)
   have HCC := Lib.hid hc; have HZD := Lib.hid hZZ; have HYZ := Lib.hid hbz
   obtain ⟨z0, zf0⟩ := XA1.out.at_ 0 _ rfl; obtain ⟨z1, zf1⟩ := XA1.out.at_ 1 _ rfl
   clear hn ha ht hu hb hc hbz hbt hxz hZZ KX RX X1' XA' XS TS HBX HF HB HAP HXD
   have HBW := Lib.hid (show w.heap.size ≤ br + 1 ∧ B ≤ w.heap.size from ⟨by have := HBR.out; omega, HLT.out.2.2⟩)
   have fin : ∀ (W W' : World) (Q' : List QRow18) (S' : List (Int × Int)) (f : Bool) (o : Option Addr) (n c : Nat) (er : Int) (R : List Str), W' = (W.setCell ⟨br + 1, 0, none⟩ (.bool f)).setCell ⟨br + 1, 1, none⟩ (.slice o n c) → CBox W (br + 1) 59 #[.bool false, .slice none 0 0] → Kt W B q room M L Q' S' → RTurn B w W → Strs W (.slice o n c) R →
    ∀ (r : (Bool × List Str) × Int × Tst × (Int → Option Int)), r.1.1 = f → r.1.2 = R → r.2.1 = er → RelT r.2.2.1 (Q'.map Prod.fst) → RelO r.2.2.2 S' → Q'.length ≤ Q.length + 1 → (S' = S ∨ S' = overS S v now) → RetRRep w B q room M L Q S v now r (.returned (.tuple #[.agg #[.bool f, .slice o n c], .int .i64 er])) W' := by
    rintro W W' Q' S' f o n c er R rfl hx hk ht hs ⟨⟨r1, r2⟩, r3, r4, r5⟩ rfl rfl rfl h1 h2 h3 h4
    exact ⟨_, Q', S', rfl, (rend_a hx (Tms.nil _) hs _ _).2.2, hk.ask hx, h1, h2, (ht.ahead HBW.out.1 HBW.out.2 _ _).ahead HBW.out.1 HBW.out.2 _ _, h3, h4.imp id fun e => ⟨e, HNW.out⟩⟩
   have FIN := Lib.hid fin
   clear fin
   by_cases hac : ac = 0
   · subst hac
     cases ax with
     | none =>
       have HPN := Lib.hid (show prep room M L Q.length F O (v, g, port) kind C now = ((ag, aR), 0, delS F (v, g, port), O) from by rw [HPR.out]; rfl)
       go_upto_region 11 with fail
       refine wp_region_held_drew (S := fun W' => Below Y.heap.size Y W') (by kernel_rfl) (Below.drew (Below.refl _ _)) (fun hHeld => ?_)
       rw [HZD.out] at hHeld ⊢
       refine tkL 0 (v := ?_) rfl (by kernel_rfl) (fun _ _ _ => id) (Or.inl ⟨by rfl, ?_⟩) (by assumption) ?_; rotate_left; (focus (intro wq hSq; go_simp <;> with_reducible rfl)); simp only [Act.put, pA, pB, pC]
       refine tkL 1 (v := ?_) rfl (by kernel_rfl) (fun _ _ _ => id) (Or.inl ⟨by rfl, ?_⟩) (by assumption) ?_; rotate_left; (focus (intro wq hSq; go_simp <;> with_reducible rfl)); simp only [Act.put, pA, pB, pC]
       refine tkL 2 (v := undef) rfl (by kernel_rfl) (fun _ _ _ h => h) (Or.inr ⟨by rfl, rfl⟩) (by assumption) ?_; simp only [Act.put, pA, pB, pC]
       refine tkL 3 (v := undef) rfl (by kernel_rfl) (fun _ _ _ h => h) (Or.inr ⟨by rfl, rfl⟩) (by assumption) ?_; simp only [Act.put, pA, pB, pC]
       refine tkL 4 (v := ?_) rfl (by kernel_rfl) (fun _ _ _ => id) (Or.inl ⟨by rfl, ?_⟩) (by assumption) ?_; rotate_left; (focus (intro wq hSq; go_simp <;> with_reducible rfl)); simp only [Act.put, pA, pB, pC]
       refine tkL 5 (v := ?_) rfl (by kernel_rfl) (fun _ _ _ => id) (Or.inl ⟨by rfl, ?_⟩) (by assumption) ?_; rotate_left; (focus (intro wq hSq; go_simp <;> with_reducible rfl)); simp only [Act.put, pA, pB, pC]
       refine tkL 6 (v := undef) rfl (by kernel_rfl) (fun _ _ _ h => h) (Or.inr ⟨by rfl, rfl⟩) (by assumption) ?_; simp only [Act.put, pA, pB, pC]
       refine tkL 7 (v := undef) rfl (by kernel_rfl) (fun _ _ _ h => h) (Or.inr ⟨by rfl, rfl⟩) (by assumption) ?_; simp only [Act.put, pA, pB, pC]
       refine tkL 8 (v := undef) rfl (by kernel_rfl) (fun _ _ _ h => h) (Or.inr ⟨by rfl, rfl⟩) (by assumption) ?_; simp only [Act.put, pA, pB, pC]
       refine tkL 9 (v := undef) rfl (by kernel_rfl) (fun _ _ _ h => h) (Or.inr ⟨by rfl, rfl⟩) (by assumption) ?_; simp only [Act.put, pA, pB, pC]
       refine tkL 10 (v := undef) rfl (by kernel_rfl) (fun _ _ _ h => h) (Or.inr ⟨by rfl, rfl⟩) (by assumption) ?_; simp only [Act.put, pA, pB, pC]
       refine tkL 11 (v := undef) rfl (by kernel_rfl) (fun _ _ _ h => h) (Or.inr ⟨by rfl, rfl⟩) (by assumption) ?_; simp only [Act.put, pA, pB, pC]
       refine tkL 12 (v := undef) rfl (by kernel_rfl) (fun _ _ _ h => h) (Or.inr ⟨by rfl, rfl⟩) (by assumption) ?_; simp only [Act.put, pA, pB, pC]
       refine tkL 13 (v := undef) rfl (by kernel_rfl) (fun _ _ _ h => h) (Or.inr ⟨by rfl, rfl⟩) (by assumption) ?_; simp only [Act.put, pA, pB, pC]
       refine tkL 14 (v := undef) rfl (by kernel_rfl) (fun _ _ _ h => h) (Or.inr ⟨by rfl, rfl⟩) (by assumption) ?_; simp only [Act.put, pA, pB, pC]
       refine tkL 15 (v := undef) rfl (by kernel_rfl) (fun _ _ _ h => h) (Or.inr ⟨by rfl, rfl⟩) (by assumption) ?_; simp only [Act.put, pA, pB, pC]
       refine tkL 16 (v := ?_) rfl (by kernel_rfl) (fun _ _ _ => id) (Or.inl ⟨by rfl, ?_⟩) (by assumption) ?_; rotate_left; (focus (intro wq hSq; go_simp <;> with_reducible rfl)); simp only [Act.put, pA, pB, pC]
       refine wpAnyH_done (by kernel_rfl) ?_ _
       clear hHeld z0 zf0 z1 zf1
       rcases HFA.out with ⟨rfl, hn⟩ | ⟨i, hi, he, rfl⟩
       · have HD := Lib.hid (show delS F (v, g, port) = F from delS_none (HREL.out.none_ hn))
         obtain ⟨z0, zf0⟩ := XAz.out.at_ 0 _ rfl; obtain ⟨z1, zf1⟩ := XAz.out.at_ 1 _ rfl
         obtain ⟨a0, _⟩ := BA.out.at_ 0 _ rfl; obtain ⟨a1, _⟩ := BA.out.at_ 1 _ rfl
         clear hn
         go_wp2_with fail
         have r := fun x y => rask_end XAz.out x y
         refine bodyPost_ret (v := .tuple #[.agg #[.bool ag, .slice uo aR.length uc], .int .i64 0]) (by simp [results, Tryz.results15, go_sem, r]) rfl ?_
         exact FIN.out Z _ Q S _ _ _ _ _ aR rfl XAz.out KZ.out (RTurn.of_below BZ.out HBW.out.2) UU.out _ (by rw [HPN.out]) (by rw [HPN.out]) (by rw [HPN.out]) (by rw [HPN.out]; dsimp only; rw [HD.out]; exact HREL.out) (by rw [HPN.out]; exact HRO.out) (Nat.le_succ _) (.inl rfl)
       · have hi' : i < Q.length := by simpa using hi
         have HCT := Lib.hid (rcut_any B q i room M L Q S Z KZ.out hi' (by have := HQL.out; omega))
         have HRE := Lib.hid (show RelT (delS F (v, g, port)) ((Q.eraseIdx i).map Prod.fst) from by
          have := erase_relT HREL.out hi
          rw [he] at this
          rw [map_erase18]
          exact this)
         have d : decide ((0 : Int) ≤ (i : Int)) = true := decide_eq_true (by omega)
         clear hi hi' he
         go_wp2_with ((with_reducible refine HCT.out.mono ?_); rintro e w2 ⟨rfl, hk2, hr2⟩; have XA2 := Lib.hid (XAz.out.rturn hr2 (by decide) (by decide) (by decide)); have BA2 := Lib.hid (BA.out.rturn hr2 (by decide) (by decide) (by decide)); have K2 := Lib.hid (And.intro hk2 hr2); have UU2 := Lib.hid (UU.out.rturn hr2); obtain ⟨z0, zf0⟩ := XA2.out.at_ 0 _ rfl; obtain ⟨z1, zf1⟩ := XA2.out.at_ 1 _ rfl; obtain ⟨a0, _⟩ := BA2.out.at_ 0 _ rfl; obtain ⟨a1, _⟩ := BA2.out.at_ 1 _ rfl; clear hk2 hr2)
         have r := fun x y => rask_end XA2.out x y
         refine bodyPost_ret (v := .tuple #[.agg #[.bool ag, .slice uo aR.length uc], .int .i64 0]) (by simp [results, Tryz.results15, go_sem, r]) rfl ?_
         exact FIN.out w2 _ (Q.eraseIdx i) S _ _ _ _ _ aR rfl XA2.out K2.out.1 ((RTurn.of_below BZ.out HBW.out.2).trans K2.out.2) UU2.out _ (by rw [HPN.out]) (by rw [HPN.out]) (by rw [HPN.out]) (by rw [HPN.out]; exact HRE.out) (by rw [HPN.out]; exact HRO.out) (Nat.le_trans (List.eraseIdx_sublist Q i).length_le (Nat.le_succ _)) (.inl rfl)
     | some zz =>
       obtain rfl : zz = (za, zt, zl) := HZ.out
       have hc := HCC.out _ rfl
       have HWZ := Lib.hid hc.2
       clear hc HCC
       have HPS := Lib.hid (show prep room M L Q.length F O (v, g, port) kind C now = (if (F (v, g, port)).isSome = false ∧ room ≤ (Q.length : Int) then ((false, []), 5, F, updO O v now) else ((ag, aR), 0, updS F (v, g, port) (za, zt, zl), O)) from by rw [HPR.out]; rfl)
       obtain ⟨v1, u1, hbox, _, hrows, _⟩ := KZ.out
       obtain ⟨_, hlen, _, _, _⟩ := rfacts hrows
       have HF := Lib.hid (show ∀ wq, Below Z.heap.size Z wq → wq.cell? ⟨q, 0, none⟩ = some (.int .i64 room) ∧ wq.cell? ⟨q, 3, none⟩ = some v1 from fun wq hb => ⟨((hbox.below hb hbox.lt).at_ 0 _ rfl).1, ((hbox.below hb hbox.lt).at_ 3 _ rfl).1⟩)
       clear hbox hrows
       go_upto_region 11 with fail
       rcases HFA.out with ⟨rfl, hn⟩ | ⟨i, hi, he, rfl⟩
       · have hFn := HREL.out.none_ hn
         have HFN := Lib.hid hFn
         clear hn hFn
         have HSM := Lib.hid (show (F (v, g, port)).isSome = false from by rw [HFN.out]; rfl)
         refine wp_region_held_drew (S := fun W' => Below Z.heap.size Z W') (by kernel_rfl) (by rw [HZD.out]; exact Below.refl _ _) (fun hHeld => ?_)
         rw [HZD.out] at hHeld ⊢
         have hd0 : decide ((-1 : Int) < 0) = true := rfl
         refine tkL 0 (v := ?_) rfl (by kernel_rfl) (fun _ _ _ => id) (Or.inl ⟨by rfl, ?_⟩) (by assumption) ?_; rotate_left; (focus (intro wq hSq; go_simp <;> with_reducible rfl)); simp only [Act.put, pA, pB, pC]
         refine tkL 1 (v := ?_) rfl (by kernel_rfl) (fun _ _ _ => id) (Or.inl ⟨by rfl, ?_⟩) (by assumption) ?_; rotate_left; (focus (intro wq hSq; go_simp <;> with_reducible rfl)); simp only [Act.put, pA, pB, pC]
         refine tkL 2 (v := ?_) rfl (by kernel_rfl) (fun _ _ _ => id) (Or.inl ⟨by rfl, ?_⟩) (by assumption) ?_; rotate_left; (focus (intro wq hSq; go_simp <;> with_reducible rfl)); simp only [Act.put, pA, pB, pC]
         refine tkL 3 (v := ?_) rfl (by kernel_rfl) (fun _ _ _ => id) (Or.inl ⟨by rfl, ?_⟩) (by assumption) ?_; rotate_left; (focus (intro wq hSq; go_simp <;> with_reducible rfl)); simp only [Act.put, pA, pB, pC]
         refine tkL 4 (v := ?_) rfl (by kernel_rfl) (fun _ _ _ => id) (Or.inl ⟨by rfl, ?_⟩) (by assumption) ?_; rotate_left; (focus (intro wq hSq; go_simp <;> with_reducible rfl)); simp only [Act.put, pA, pB, pC]
         refine tkL 5 (v := ?_) rfl (by kernel_rfl) (fun _ _ _ => id) (Or.inl ⟨by rfl, ?_⟩) (by assumption) ?_; rotate_left; (focus (intro wq hSq; go_simp <;> with_reducible rfl)); simp only [Act.put, pA, pB, pC]
         refine tkL 6 (v := ?_) rfl (by kernel_rfl) (fun _ _ _ => id) (Or.inl ⟨by rfl, ?_⟩) (by assumption) ?_; rotate_left; (focus (intro wq hSq; have f := HF.out wq hSq; go_simp <;> with_reducible rfl)); simp only [Act.put, pA, pB, pC]
         refine tkL 7 (v := ?_) rfl (by kernel_rfl) (fun _ _ _ => id) (Or.inl ⟨by rfl, ?_⟩) (by assumption) ?_; rotate_left; (focus (intro wq hSq; have f := HF.out wq hSq; go_simp <;> with_reducible rfl)); simp only [Act.put, pA, pB, pC]
         refine tkL 8 (v := ?_) rfl (by kernel_rfl) (fun _ _ _ => id) (Or.inl ⟨by rfl, ?_⟩) (by assumption) ?_; rotate_left; (focus (intro wq hSq; have f := HF.out wq hSq; go_simp <;> with_reducible rfl)); simp only [Act.put, pA, pB, pC]
         refine tkL 9 (v := ?_) rfl (by kernel_rfl) (fun _ _ _ => id) (Or.inl ⟨by rfl, ?_⟩) (by assumption) ?_; rotate_left; (focus (intro wq hSq; have f := HF.out wq hSq; go_simp <;> with_reducible rfl)); simp only [Act.put, pA, pB, pC]
         refine tkL 10 (v := ?_) rfl (by kernel_rfl) (fun _ _ _ => id) (Or.inl ⟨by rfl, ?_⟩) (by assumption) ?_; rotate_left; (focus (intro wq hSq; have f := HF.out wq hSq; go_simp <;> with_reducible rfl)); simp only [Act.put, pA, pB, pC]
         refine tkL 11 (v := ?_) rfl (by kernel_rfl) (fun _ _ _ => id) (Or.inl ⟨by rfl, ?_⟩) (by assumption) ?_; rotate_left; (focus (intro wq hSq; have f := HF.out wq hSq; go_simp <;> with_reducible rfl)); simp only [Act.put, pA, pB, pC]
         refine tkL 12 (v := ?_) rfl (by kernel_rfl) (fun _ _ _ => id) (Or.inl ⟨by rfl, ?_⟩) (by assumption) ?_; rotate_left; (focus (intro wq hSq; have f := HF.out wq hSq; go_simp <;> with_reducible rfl)); simp only [Act.put, pA, pB, pC]
         refine tkL 13 (v := ?_) rfl (by kernel_rfl) (fun _ _ _ => id) (Or.inl ⟨by rfl, ?_⟩) (by assumption) ?_; rotate_left; (focus (intro wq hSq; have f := HF.out wq hSq; go_simp <;> with_reducible rfl)); simp only [Act.put, pA, pB, pC]
         refine tkL 14 (v := ?_) rfl (by kernel_rfl) (fun _ _ _ => id) (Or.inl ⟨by rfl, ?_⟩) (by assumption) ?_; rotate_left; (focus (intro wq hSq; have f := HF.out wq hSq; go_simp <;> with_reducible rfl)); simp only [Act.put, pA, pB, pC]
         refine tkL 15 (v := ?_) rfl (by kernel_rfl) (fun _ _ _ => id) (Or.inl ⟨by rfl, ?_⟩) (by assumption) ?_; rotate_left; (focus (intro wq hSq; have f := HF.out wq hSq; go_simp <;> with_reducible rfl)); simp only [Act.put, pA, pB, pC]
         refine tkL 16 (v := ?_) rfl (by kernel_rfl) (fun _ _ _ => id) (Or.inl ⟨by rfl, ?_⟩) (by assumption) ?_; rotate_left; (focus (intro wq hSq; go_simp <;> with_reducible rfl)); simp only [Act.put, pA, pB, pC]
         refine wpAnyH_done (by kernel_rfl) ?_ _
         clear hHeld z0 zf0 z1 zf1 hlen HF
         cases hfull : decide (room ≤ (Q.length : Int))
         · have HCO := Lib.hid (show ¬ ((F (v, g, port)).isSome = false ∧ room ≤ (Q.length : Int)) from fun h => of_decide_eq_false hfull h.2)
           have HPO := Lib.hid (show prep room M L Q.length F O (v, g, port) kind C now = ((ag, aR), 0, updS F (v, g, port) (za, zt, zl), O) from by rw [HPS.out, if_neg HCO.out])
           have HPT := Lib.hid (rput_any B q room M L Q S v port g za zt zl vo zl.length vc Z KZ.out ⟨TT.out, HM.out, HWZ.out⟩ (by have := HQL.out; omega))
           have HRI := Lib.hid (show RelT (updS F (v, g, port) (za, zt, zl)) ((putQ Q (((v, g, port), za, zt, zl), .slice vo zl.length vc) (cntT (Q.map Prod.fst) (v, g, port))).map Prod.fst) from by
            have := ins_relT (za, zt, zl) HREL.out HFN.out
            unfold putQ
            rw [List.map_append, List.map_cons, List.map_take, List.map_drop]
            exact this)
           obtain ⟨g1, _⟩ := X1z.out.at_ 1 _ rfl
           obtain ⟨n0, _⟩ := BN.out.at_ 0 _ rfl; obtain ⟨n1, _⟩ := BN.out.at_ 1 _ rfl; obtain ⟨n2, _⟩ := BN.out.at_ 2 _ rfl
           go_wp2_with ((with_reducible refine HPT.out.mono ?_); rintro e w2 ⟨rfl, hk2, hr2⟩; have XA2 := Lib.hid (XAz.out.rturn hr2 (by decide) (by decide) (by decide)); have BA2 := Lib.hid (BA.out.rturn hr2 (by decide) (by decide) (by decide)); have K2 := Lib.hid (And.intro hk2 hr2); have UU2 := Lib.hid (UU.out.rturn hr2); obtain ⟨z0, zf0⟩ := XA2.out.at_ 0 _ rfl; obtain ⟨z1, zf1⟩ := XA2.out.at_ 1 _ rfl; obtain ⟨a0, _⟩ := BA2.out.at_ 0 _ rfl; obtain ⟨a1, _⟩ := BA2.out.at_ 1 _ rfl; clear hk2 hr2 g1 n0 n1 n2)
           have r := fun x y => rask_end XA2.out x y
           refine bodyPost_ret (v := .tuple #[.agg #[.bool ag, .slice uo aR.length uc], .int .i64 0]) (by simp [results, Tryz.results15, go_sem, r]) rfl ?_
           exact FIN.out w2 _ _ S _ _ _ _ _ aR rfl XA2.out K2.out.1 ((RTurn.of_below BZ.out HBW.out.2).trans K2.out.2) UU2.out _ (by rw [HPO.out]) (by rw [HPO.out]) (by rw [HPO.out]) (by rw [HPO.out]; exact HRI.out) (by rw [HPO.out]; exact HRO.out) (by rw [← put_len _ _ _ (Nat.le_trans (cntT_le _ _) (by rw [List.length_map]; exact Nat.le_refl _))]; have := cntT_le (Q.map Prod.fst) (v, g, port); rw [List.length_map] at this; omega) (.inl rfl)
         · have HPO := Lib.hid (show prep room M L Q.length F O (v, g, port) kind C now = ((false, []), 5, F, updO O v now) from by rw [HPS.out, if_pos ⟨HSM.out, of_decide_eq_true hfull⟩])
           have HOV := Lib.hid (rover_any B q room M L v now Q S Z KZ.out (by have := HQL.out; omega))
           go_wp2_with ((with_reducible refine HOV.out.mono ?_); rintro e w2 ⟨rfl, hk2, hr2⟩; have XA2 := Lib.hid (XAz.out.rturn hr2 (by decide) (by decide) (by decide)); have K2 := Lib.hid (And.intro hk2 hr2); obtain ⟨z0, zf0⟩ := XA2.out.at_ 0 _ rfl; obtain ⟨z1, zf1⟩ := XA2.out.at_ 1 _ rfl; clear hk2 hr2)
           have r := fun x y => rask_end XA2.out x y
           refine bodyPost_ret (v := .tuple #[.agg #[.bool false, .slice none 0 0], .int .i64 5]) (by simp [results, Tryz.results15, go_sem, r]) rfl ?_
           exact FIN.out w2 _ Q (overS S v now) _ _ _ _ _ [] rfl XA2.out K2.out.1 ((RTurn.of_below BZ.out HBW.out.2).trans K2.out.2) (Strs.nil _) _ (by rw [HPO.out]) (by rw [HPO.out]) (by rw [HPO.out]) (by rw [HPO.out]; exact HREL.out) (by rw [HPO.out]; exact overS_rel v now HRO.out) (Nat.le_succ _) (.inr rfl)
       · have hi' : i < Q.length := by simpa using hi
         have HPO := Lib.hid (show prep room M L Q.length F O (v, g, port) kind C now = ((ag, aR), 0, updS F (v, g, port) (za, zt, zl), O) from by
          rw [HPS.out, if_neg]
          rintro ⟨h1, _⟩
          have := HREL.out.at_ hi
          rw [he] at this
          rw [this] at h1
          cases h1)
         have hre : RelT (delS F (v, g, port)) ((Q.eraseIdx i).map Prod.fst) := by
          have := erase_relT HREL.out hi
          rw [he] at this
          rw [map_erase18]
          exact this
         have HRI := Lib.hid (show RelT (updS F (v, g, port) (za, zt, zl)) ((putQ (Q.eraseIdx i) (((v, g, port), za, zt, zl), .slice vo zl.length vc) (cntT ((Q.eraseIdx i).map Prod.fst) (v, g, port))).map Prod.fst) from by
          have := ins_relT (za, zt, zl) hre (delS_self _ _)
          rw [upd_delS] at this
          unfold putQ
          rw [List.map_append, List.map_cons, List.map_take, List.map_drop]
          exact this)
         have HCT := Lib.hid (rcut_any B q i room M L Q S Z KZ.out hi' (by have := HQL.out; omega))
         have HQE := Lib.hid (show (Q.eraseIdx i).length ≤ 1000000 from by have := HQL.out; have := (List.eraseIdx_sublist Q i).length_le; omega)
         have d : decide ((0 : Int) ≤ (i : Int)) = true := decide_eq_true (by omega)
         have d' : decide ((i : Int) < 0) = false := decide_eq_false (by omega)
         clear hi hi' he hre
         refine wp_region_held_drew (S := fun W' => Below Z.heap.size Z W') (by kernel_rfl) (by rw [HZD.out]; exact Below.refl _ _) (fun hHeld => ?_)
         rw [HZD.out] at hHeld ⊢
         refine tkL 0 (v := ?_) rfl (by kernel_rfl) (fun _ _ _ => id) (Or.inl ⟨by rfl, ?_⟩) (by assumption) ?_; rotate_left; (focus (intro wq hSq; go_simp <;> with_reducible rfl)); simp only [Act.put, pA, pB, pC]
         refine tkL 1 (v := ?_) rfl (by kernel_rfl) (fun _ _ _ => id) (Or.inl ⟨by rfl, ?_⟩) (by assumption) ?_; rotate_left; (focus (intro wq hSq; go_simp <;> with_reducible rfl)); simp only [Act.put, pA, pB, pC]
         refine tkL 2 (v := ?_) rfl (by kernel_rfl) (fun _ _ _ => id) (Or.inl ⟨by rfl, ?_⟩) (by assumption) ?_; rotate_left; (focus (intro wq hSq; go_simp <;> with_reducible rfl)); simp only [Act.put, pA, pB, pC]
         refine tkL 3 (v := ?_) rfl (by kernel_rfl) (fun _ _ _ => id) (Or.inl ⟨by rfl, ?_⟩) (by assumption) ?_; rotate_left; (focus (intro wq hSq; go_simp <;> with_reducible rfl)); simp only [Act.put, pA, pB, pC]
         refine tkL 4 (v := ?_) rfl (by kernel_rfl) (fun _ _ _ => id) (Or.inl ⟨by rfl, ?_⟩) (by assumption) ?_; rotate_left; (focus (intro wq hSq; go_simp <;> with_reducible rfl)); simp only [Act.put, pA, pB, pC]
         refine tkL 5 (v := ?_) rfl (by kernel_rfl) (fun _ _ _ => id) (Or.inl ⟨by rfl, ?_⟩) (by assumption) ?_; rotate_left; (focus (intro wq hSq; go_simp <;> with_reducible rfl)); simp only [Act.put, pA, pB, pC]
         refine tkL 6 (v := undef) rfl (by kernel_rfl) (fun _ _ _ h => h) (Or.inr ⟨by rfl, rfl⟩) (by assumption) ?_; simp only [Act.put, pA, pB, pC]
         refine tkL 7 (v := undef) rfl (by kernel_rfl) (fun _ _ _ h => h) (Or.inr ⟨by rfl, rfl⟩) (by assumption) ?_; simp only [Act.put, pA, pB, pC]
         refine tkL 8 (v := undef) rfl (by kernel_rfl) (fun _ _ _ h => h) (Or.inr ⟨by rfl, rfl⟩) (by assumption) ?_; simp only [Act.put, pA, pB, pC]
         refine tkL 9 (v := undef) rfl (by kernel_rfl) (fun _ _ _ h => h) (Or.inr ⟨by rfl, rfl⟩) (by assumption) ?_; simp only [Act.put, pA, pB, pC]
         refine tkL 10 (v := undef) rfl (by kernel_rfl) (fun _ _ _ h => h) (Or.inr ⟨by rfl, rfl⟩) (by assumption) ?_; simp only [Act.put, pA, pB, pC]
         refine tkL 11 (v := undef) rfl (by kernel_rfl) (fun _ _ _ h => h) (Or.inr ⟨by rfl, rfl⟩) (by assumption) ?_; simp only [Act.put, pA, pB, pC]
         refine tkL 12 (v := undef) rfl (by kernel_rfl) (fun _ _ _ h => h) (Or.inr ⟨by rfl, rfl⟩) (by assumption) ?_; simp only [Act.put, pA, pB, pC]
         refine tkL 13 (v := undef) rfl (by kernel_rfl) (fun _ _ _ h => h) (Or.inr ⟨by rfl, rfl⟩) (by assumption) ?_; simp only [Act.put, pA, pB, pC]
         refine tkL 14 (v := undef) rfl (by kernel_rfl) (fun _ _ _ h => h) (Or.inr ⟨by rfl, rfl⟩) (by assumption) ?_; simp only [Act.put, pA, pB, pC]
         refine tkL 15 (v := undef) rfl (by kernel_rfl) (fun _ _ _ h => h) (Or.inr ⟨by rfl, rfl⟩) (by assumption) ?_; simp only [Act.put, pA, pB, pC]
         refine tkL 16 (v := ?_) rfl (by kernel_rfl) (fun _ _ _ => id) (Or.inl ⟨by rfl, ?_⟩) (by assumption) ?_; rotate_left; (focus (intro wq hSq; go_simp <;> with_reducible rfl)); simp only [Act.put, pA, pB, pC]
         refine wpAnyH_done (by kernel_rfl) ?_ _
         clear hHeld z0 zf0 z1 zf1 hlen HF
         go_upto_region 17 with ((with_reducible refine HCT.out.mono ?_); rintro e w2 ⟨rfl, hk2, hr2⟩; have XA2 := Lib.hid (XAz.out.rturn hr2 (by decide) (by decide) (by decide)); have BA2 := Lib.hid (BA.out.rturn hr2 (by decide) (by decide) (by decide)); have BN2 := Lib.hid (BN.out.rturn hr2 (by decide) (by decide) (by decide)); have X12 := Lib.hid (X1z.out.rturn hr2 (by decide) (by decide) (by decide)); have K2 := Lib.hid (And.intro hk2 hr2); have UU2 := Lib.hid (UU.out.rturn hr2); have TT2 := Lib.hid (TT.out.rturn hr2); clear hk2 hr2)
         have HPT := Lib.hid (rput_any B q room M L (Q.eraseIdx i) S v port g za zt zl vo zl.length vc w2 K2.out.1 ⟨TT2.out, HM.out, HWZ.out⟩ HQE.out)
         obtain ⟨g1, _⟩ := X12.out.at_ 1 _ rfl
         obtain ⟨n0, _⟩ := BN2.out.at_ 0 _ rfl; obtain ⟨n1, _⟩ := BN2.out.at_ 1 _ rfl; obtain ⟨n2, _⟩ := BN2.out.at_ 2 _ rfl
         clear d d'
         go_wp2_with ((with_reducible refine HPT.out.mono ?_); rintro e w3 ⟨rfl, hk3, hr3⟩; have XA3 := Lib.hid (XA2.out.rturn hr3 (by decide) (by decide) (by decide)); have BA3 := Lib.hid (BA2.out.rturn hr3 (by decide) (by decide) (by decide)); have K3 := Lib.hid (And.intro hk3 hr3); have UU3 := Lib.hid (UU2.out.rturn hr3); obtain ⟨z0, zf0⟩ := XA3.out.at_ 0 _ rfl; obtain ⟨z1, zf1⟩ := XA3.out.at_ 1 _ rfl; obtain ⟨a0, _⟩ := BA3.out.at_ 0 _ rfl; obtain ⟨a1, _⟩ := BA3.out.at_ 1 _ rfl; clear hk3 hr3 g1 n0 n1 n2)
         have r := fun x y => rask_end XA3.out x y
         refine bodyPost_ret (v := .tuple #[.agg #[.bool ag, .slice uo aR.length uc], .int .i64 0]) (by simp [results, Tryz.results15, go_sem, r]) rfl ?_
         exact FIN.out w3 _ _ S _ _ _ _ _ aR rfl XA3.out K3.out.1 (((RTurn.of_below BZ.out HBW.out.2).trans K2.out.2).trans K3.out.2) UU3.out _ (by rw [HPO.out]) (by rw [HPO.out]) (by rw [HPO.out]) (by rw [HPO.out]; exact HRI.out) (by rw [HPO.out]; exact HRO.out) (by rw [← put_len _ _ _ (Nat.le_trans (cntT_le _ _) (by rw [List.length_map]; exact Nat.le_refl _))]; have := (List.eraseIdx_sublist Q i).length_le; have := cntT_le ((Q.eraseIdx i).map Prod.fst) (v, g, port); rw [List.length_map] at this; omega) (.inl rfl)
   · have c1 : (ac == 0) = false := by simpa using hac
     have c2 : (ac != 0) = true := by simpa using hac
     have HPO := Lib.hid (show prep room M L Q.length F O (v, g, port) kind C now = ((false, []), ac, F, O) from by rw [HPR.out, if_pos hac])
     clear hac
     go_wp2_with fail
     have r := fun x y => rask_end XA1.out x y
     refine bodyPost_ret (v := .tuple #[.agg #[.bool false, .slice none 0 0], .int .i64 ac]) (by simp [results, Tryz.results15, go_sem, r]) rfl ?_
     exact FIN.out Y _ Q S _ _ _ _ _ [] rfl XA1.out KY.out (RTurn.of_below BY.out HBW.out.2) (Strs.nil _) _ (by rw [HPO.out]) (by rw [HPO.out]) (by rw [HPO.out]) (by rw [HPO.out]; exact HREL.out) (by rw [HPO.out]; exact HRO.out) (Nat.le_succ _) (.inl rfl)
end Go.Proofs.YtpibmjkbebkilaaGreat

namespace Go.Proofs.YtpibmjkbebkilaaGreat
open Go.RowKit Go.Lib Go.Maps Go.Sort
set_option maxRecDepth 20000
set_option maxRecDepth 20000

open Classical in
noncomputable def prepa (room M L : Int) (c : Nat) (F : Tst) (O : Int → Option Int) (k : TK) (kind : Int) (C : List Str) (now : Int) : (Bool × List Str) × Int × Tst × (Int → Option Int) :=
 if mayT k.1 k.2.2 now ∧ isGrp k.2.1 = true then prep room M L c F O k kind C now else ((false, []), 1, F, O)
theorem treport_op (p b o n m : Nat) (room M L v port kind now : Int) (g : Str) (rv : Value) (C : List Str) (F : Tst) (O : Int → Option Int) (K : List TK) (w : World) (h : Tb w p b o n m room M L F O) (hK : KeysS F K) (hr : Strs w rv C) (hn : n < 1000000) (hmm : m < 1000000) :
 Calls Tryz.prog 10 #[.pointer (some ⟨p, 0, none⟩), .int .i64 v, .int .i64 port, .agg #[.int .i64 kind, .string (bstr g), rv], .int .i64 now] w (RetRep w p b o n m room M L (prepa room M L K.length F O (v, g, port) kind C now)) := by
 unfold prepa
 by_cases hm : mayT v port now ∧ isGrp g = true
 · rw [if_pos hm]
   exact (report_go p b o n m room M L v port kind now g rv C F O K w h hK hm.1 hm.2 hr hn hmm).mono fun _ _ q => q.1
 · rw [if_neg hm]
   obtain ⟨ro, rc, rfl⟩ := hr.shape
   exact (report_bad ⟨p, 0, none⟩ v port kind now g ro _ rc w hm).mono fun e w' ⟨he, hb⟩ => ⟨_, he, Strs.nil _, (h.mono hb).up (by omega) (by omega), .of_below hb⟩
theorem rreport_op (B q : Nat) (room M L v port kind now : Int) (g : Str) (rv : Value) (C : List Str) (F : Tst) (O : Int → Option Int) (Q : List QRow18) (S : List (Int × Int)) (w : World) (h : Kt w B q room M L Q S) (hR : RelT F (Q.map Prod.fst)) (hO : RelO O S) (hQ : Q.length ≤ 10000) (hS : S.length ≤ 10000) (hr : Strs w rv C) :
 Calls Tryz.prog 15 #[.pointer (some ⟨q, 0, none⟩), .int .i64 v, .int .i64 port, .agg #[.int .i64 kind, .string (bstr g), rv], .int .i64 now] w (RetRRep w B q room M L Q S v now (prepa room M L Q.length F O (v, g, port) kind C now)) := by
 unfold prepa
 by_cases hm : mayT v port now ∧ isGrp g = true
 · rw [if_pos hm]
   exact rreport_go B q room M L v port kind now g rv C F O Q S w h hR hO hQ hS hm.1 hm.2 hr
 · rw [if_neg hm]
   obtain ⟨ro, rc, rfl⟩ := hr.shape
   exact (rreport_bad ⟨q, 0, none⟩ v port kind now g ro _ rc w hm).mono fun e w' ⟨he, hb⟩ => ⟨_, Q, S, he, Strs.nil _, h.below hb, hR, hO, RTurn.of_below hb h.lt.2.2, Nat.le_succ _, .inl rfl⟩

def Sc (W : World) (p b o q B : Nat) (room M L : Int) (k : Nat) : Prop :=
 ∃ n m F O Q S, n ≤ k ∧ m ≤ k ∧ Q.length ≤ k ∧ S.length ≤ k ∧ Tb W p b o n m room M L F O ∧ Kt W B q room M L Q S ∧ RelT F (Q.map Prod.fst) ∧ RelO O S ∧ ∀ s ∈ S, 1 ≤ s.2 ∧ s.2 ≤ 1099511627776
theorem Sc.below {w w' : World} {p b o q B : Nat} {room M L : Int} {k : Nat} (h : Sc w p b o q B room M L k) (hb : Below w.heap.size w w') : Sc w' p b o q B room M L k := by
 obtain ⟨n, m, F, O, Q, S, h1, h2, h3, h4, h5, h6, h7⟩ := h
 exact ⟨n, m, F, O, Q, S, h1, h2, h3, h4, h5.mono hb, h6.below hb, h7⟩
def RetSc (w : World) (p b o q B B0 : Nat) (room M L : Int) (k : Nat) (e : Ending) (w' : World) : Prop := e = .returned (.bool true) ∧ Sc w' p b o q B room M L (k + 1) ∧ Below B0 w w'

theorem overS_len (S : List (Int × Int)) (v now : Int) : (overS S v now).length ≤ S.length + 1 := by
 induction S with
 | nil => simp [overS]
 | cons s S ih =>
   unfold overS
   split
   · simp
   · simpa using ih
theorem overS_mem {S : List (Int × Int)} {v now : Int} {s : Int × Int} (h : s ∈ overS S v now) : s ∈ S ∨ s.2 = now := by
 induction S with
 | nil =>
   simp [overS] at h
   exact .inr (by rw [h])
 | cons t S ih =>
   unfold overS at h
   split at h
   · rcases List.mem_cons.1 h with rfl | h
     · exact .inr rfl
     · exact .inl (List.mem_cons_of_mem _ h)
   · rcases List.mem_cons.1 h with rfl | h
     · exact .inl (List.mem_cons_self ..)
     · rcases ih h with h | h
       · exact .inl (List.mem_cons_of_mem _ h)
       · exact .inr h
theorem over_times {v now : Int} {S S' : List (Int × Int)} (h : S' = S ∨ (S' = overS S v now ∧ 1 ≤ now ∧ now ≤ 1099511627776)) (hs : ∀ s ∈ S, 1 ≤ s.2 ∧ s.2 ≤ 1099511627776) : (∀ s ∈ S', 1 ≤ s.2 ∧ s.2 ≤ 1099511627776) ∧ S'.length ≤ S.length + 1 := by
 rcases h with rfl | ⟨rfl, h⟩
 · exact ⟨hs, Nat.le_succ _⟩
 · refine ⟨fun s hx => ?_, overS_len _ _ _⟩
   rcases overS_mem hx with hx | hx
   · exact hs s hx
   · rw [hx]; exact h
theorem portsR_wf {w : World} {src : Str} {now v : Int} {g : Str} {Q : List QRow18} (h : ∀ x ∈ Q, okQ w x) : ∀ x ∈ portsR src now v g (Q.map Prod.fst), (Lit.int .i64 x).wf = true := by
 intro x hx
 unfold portsR at hx
 obtain ⟨r, hr, rfl⟩ := List.mem_map.1 hx
 obtain ⟨y, hy, rfl⟩ := List.mem_map.1 (List.mem_filter.1 hr).1
 exact (h y hy).2.1.2.2

theorem less_rel {F : Tst} {Q : List QRow18} (k : TK) (h : RelT F (Q.map Prod.fst)) : (F k).isSome = hasT (Q.map Prod.fst) k ∧ RelT (delS F k) ((lessT Q k).map Prod.fst) ∧ (lessT Q k).length ≤ Q.length := by
 by_cases hx : ∃ i, ∃ hi : i < Q.length, Q[i].1.1 = k
 · obtain ⟨i, hi, rfl⟩ := hx
   have hi' : i < (Q.map Prod.fst).length := by simpa using hi
   have e : ((Q.map Prod.fst)[i]).1 = Q[i].1.1 := by rw [List.getElem_map]
   refine ⟨?_, ?_, ?_⟩
   · have := h.at_ hi'
     rw [e] at this
     rw [this, found_has hi' e]; rfl
   · rw [lessT_at hi h.1 rfl, map_erase18]
     have := erase_relT h hi'
     rwa [e] at this
   · rw [lessT_at hi h.1 rfl]; exact (List.eraseIdx_sublist Q i).length_le
 · have hn : ∀ i, (h : i < (Q.map Prod.fst).length) → (Q.map Prod.fst)[i].1 ≠ k := fun i hi e => hx ⟨i, by simpa using hi, by rw [List.getElem_map] at e; exact e⟩
   refine ⟨?_, ?_, ?_⟩
   · rw [h.none_ hn, found_not hn]; rfl
   · rw [lessT_not hn, delS_none (h.none_ hn)]; exact h
   · rw [lessT_not hn]; exact Nat.le_refl _
set_option maxHeartbeats 4000000 in
theorem expireT_bad (p : Nat) (now : Int) (w : World) (hn : timeT now = false) :
 Calls Tryz.prog 24 #[.pointer (some ⟨p, 0, none⟩), .int .i64 now] w fun e w' => e = .returned (.int .i64 0) ∧ Below w.heap.size w w' := by
 have HWI := Lib.hid (fun W => twithin_any now 1 1099511627776 W)
 unfold timeT at hn
 rw [hn] at HWI
 go_enter Tryz.func24, Tryz.ntmps24
 go_wp2_with ((with_reducible refine (HWI.out _).mono ?_); rintro e w' ⟨rfl, hw'⟩; subst w')
 go_ret
 exact ⟨rfl, (((Below.refl _ w).alloc (Nat.le_refl _) _).alloc (by simp) _).alloc (by simp <;> omega) _⟩

set_option maxHeartbeats 8000000 in
theorem step_0 (p b o q B B0 : Nat) (room M L : Int) (k : Nat) (x : TOp) (xv : Value) (w : World) (h : Sc w p b o q B room M L k) (hx : x.Ok w xv) (hk : k ≤ 1000) (hB : B0 ≤ b ∧ B0 ≤ o ∧ B0 ≤ B ∧ B0 ≤ w.heap.size) (hf : fitsT room M L) (hd : x.d = 0) :
 Calls Tryz.prog 7 #[.pointer (some ⟨p, 0, none⟩), .pointer (some ⟨q, 0, none⟩), .agg (x.cells xv).toArray] w (RetSc w p b o q B B0 room M L k) := by
 have hxs := hx.strs
 obtain ⟨so, sc, rfl⟩ := hxs.shape
 obtain ⟨d, vl, pt, kind, g, C, src, now⟩ := x
 obtain ⟨_, hgl, hsl, _, hwv, hwp, _, _⟩ := hx
 dsimp only at hd hxs hgl hsl hwv hwp ⊢
 subst hd
 show Calls _ _ #[.pointer (some ⟨p, 0, none⟩), .pointer (some ⟨q, 0, none⟩), .agg #[.int .i64 0, .int .i64 vl, .int .i64 pt, .int .i64 kind, .string (bstr g), .slice so C.length sc, .string (bstr src), .int .i64 now]] w _
 obtain ⟨W0, hW0⟩ : ∃ W0, w.alloc (.cells #[.int .i64 0, .int .i64 vl, .int .i64 pt, .int .i64 kind, .string (bstr g), .slice so C.length sc, .string (bstr src), .int .i64 now] 41) = W0 := ⟨_, rfl⟩
 obtain ⟨ob, hob⟩ : ∃ b, w.heap.size = b := ⟨_, rfl⟩
 have hb0 : Below w.heap.size w W0 := by rw [← hW0]; exact (Below.refl _ _).alloc (Nat.le_refl _) _
 have XO := Lib.hid (show CBox W0 ob 41 #[.int .i64 0, .int .i64 vl, .int .i64 pt, .int .i64 kind, .string (bstr g), .slice so C.length sc, .string (bstr src), .int .i64 now] from by rw [← hW0]; exact CBox.new _ hob.symm)
 have HB := Lib.hid (hb0.mono hB.2.2.2)
 have RV := Lib.hid (hxs.mono hb0)
 have HBB := Lib.hid (show B0 ≤ b ∧ B0 ≤ o ∧ B0 ≤ B ∧ B0 ≤ W0.heap.size from ⟨hB.1, hB.2.1, hB.2.2.1, Nat.le_trans hB.2.2.2 hb0.size⟩)
 have HF0 := Lib.hid hf; have HBW := Lib.hid hB.2.2.2
 obtain ⟨n, m, F, O, Q, S, h1, h2, h3, h4, h5, h6, h7, h8, h9⟩ := h.below hb0
 have HOKT := Lib.hid (show okT (vl, g, pt) from ⟨hwv, hgl, hwp⟩)
 have H9 := Lib.hid h9
 have HW0 := Lib.hid hW0; have HOB := Lib.hid hob
 clear hW0 hob hb0 h hxs hB hf h9
 go_enter Tryz.func7, Tryz.ntmps7
 go_upto_region 1 with fail
 rw [HW0.out, HOB.out]
 clear HW0 HOB
 obtain ⟨x0, _⟩ := XO.out.at_ 0 _ rfl; obtain ⟨x1, _⟩ := XO.out.at_ 1 _ rfl; obtain ⟨x2, _⟩ := XO.out.at_ 2 _ rfl; obtain ⟨x3, _⟩ := XO.out.at_ 3 _ rfl; obtain ⟨x4, _⟩ := XO.out.at_ 4 _ rfl; obtain ⟨x5, _⟩ := XO.out.at_ 5 _ rfl; obtain ⟨x6, _⟩ := XO.out.at_ 6 _ rfl; obtain ⟨x7, _⟩ := XO.out.at_ 7 _ rfl
 have HT1 := Lib.hid (treport_op p b o n m room M L vl pt kind now g _ C F O ((Q.map Prod.fst).map Prod.fst) W0 h5 h7.keys RV.out (by omega) (by omega))
 rw [List.length_map, List.length_map] at HT1
 obtain ⟨⟨⟨rf, rR⟩, re, rF, rO⟩, hr⟩ : ∃ t, prepa room M L Q.length F O (vl, g, pt) kind C now = t := ⟨_, rfl⟩
 have HRR := Lib.hid (fun W K1 R1 => rreport_op B q room M L vl pt kind now g (.slice so C.length sc) C F O Q S W K1 h7 h8 (by omega) (by omega) R1)
 rw [hr] at HT1 HRR
 unfold RetRep at HT1
 unfold RetRRep at HRR
 dsimp only at HT1 HRR
 have H5 := Lib.hid h5; have H6 := Lib.hid h6; have HKK := Lib.hid (show n ≤ k ∧ m ≤ k ∧ Q.length ≤ k ∧ S.length ≤ k from ⟨h1, h2, h3, h4⟩)
 clear h5 h6 h7 h8 hr h1 h2 h3 h4 hk hgl hsl hwv hwp
 go_upto_region 4 with ((with_reducible refine HT1.out.mono ?_); rintro e w1 ⟨u, rfl, hu, htb, hmt⟩; obtain ⟨uo, uc, rfl⟩ := hu.shape; have H1 := Lib.hid (And.intro hu (And.intro htb hmt)); clear hu htb hmt)
 obtain ⟨W1, hW1⟩ : ∃ W, w1.alloc (.cells #[.bool rf, .slice uo rR.length uc] 51) = W := ⟨_, rfl⟩
 obtain ⟨ab, hab⟩ : ∃ b, w1.heap.size = b := ⟨_, rfl⟩
 have hb1 : Below w1.heap.size w1 W1 := by rw [← hW1]; exact (Below.refl _ _).alloc (Nat.le_refl _) _
 have XB := Lib.hid (show CBox W1 ab 51 #[.bool rf, .slice uo rR.length uc] from by rw [← hW1]; exact CBox.new _ hab.symm)
 have ck := (H5.out.ckeep H1.out.2.2).trans (CKeep.of_below hb1)
 have T1 := Lib.hid (H1.out.2.1.mono hb1); have U1 := Lib.hid (H1.out.1.mono hb1); have XO1 := Lib.hid (ck.box XO.out)
 have hm1 := H1.out.2.2.below HBB.out.2.2.2 HBB.out.1 HBB.out.2.1
 have B1 := Lib.hid (HB.out.trans (hm1.trans (hb1.mono (Nat.le_trans HBB.out.2.2.2 hm1.size))))
 have HT2 := Lib.hid (HRR.out W1 (H6.out.keep ck) (ck.strs RV.out))
 rw [hW1, hab]
 clear hW1 hab hb1 ck hm1 HRR H5 H6 HT1 H1 RV x0 x1 x2 x3 x4 x5 x6 x7
 obtain ⟨y1, _⟩ := XO1.out.at_ 1 _ rfl; obtain ⟨y2, _⟩ := XO1.out.at_ 2 _ rfl; obtain ⟨y3, _⟩ := XO1.out.at_ 3 _ rfl; obtain ⟨y4, _⟩ := XO1.out.at_ 4 _ rfl; obtain ⟨y5, _⟩ := XO1.out.at_ 5 _ rfl; obtain ⟨y7, _⟩ := XO1.out.at_ 7 _ rfl
 go_upto_region 5 with ((with_reducible refine HT2.out.mono ?_); rintro e w2 ⟨u2, Q', S', rfl, hu2, hk2, hr2, ho2, ht2, hl2, hs2⟩; obtain ⟨vo, vc, rfl⟩ := hu2.shape; have H2 := Lib.hid (And.intro hu2 (And.intro hk2 (And.intro hr2 (And.intro ho2 (And.intro ht2 (And.intro hl2 hs2)))))); clear hu2 hk2 hr2 ho2 ht2 hl2 hs2)
 obtain ⟨hu2, hk2, hr2, ho2, ht2, hl2, hs2⟩ := H2.out
 obtain ⟨W2, hW2⟩ : ∃ W, w2.alloc (.cells #[.bool rf, .slice vo rR.length vc] 59) = W := ⟨_, rfl⟩
 obtain ⟨bb, hbb⟩ : ∃ b, w2.heap.size = b := ⟨_, rfl⟩
 have hb2 : Below w2.heap.size w2 W2 := by rw [← hW2]; exact (Below.refl _ _).alloc (Nat.le_refl _) _
 have XC := Lib.hid (show CBox W2 bb 59 #[.bool rf, .slice vo rR.length vc] from by rw [← hW2]; exact CBox.new _ hbb.symm)
 have xb := XB.out.rturn ht2 (by decide) (by decide) (by decide)
 have XB2 := Lib.hid (xb.below hb2 xb.lt)
 have HSA := Lib.hid (sameask_yes rf _ rR _ W2 (hu2.mono hb2) ((U1.out.rturn ht2).mono hb2))
 have T2 := Lib.hid ((T1.out.rturn ht2).mono hb2); have K2 := Lib.hid (hk2.below hb2); have R2 := Lib.hid hr2; have O2 := Lib.hid ho2
 have hlow := ht2.low.mono HBB.out.2.2.1
 have B2 := Lib.hid (B1.out.trans (hlow.trans (hb2.mono (Nat.le_trans (Nat.le_trans HBW.out B1.out.size) hlow.size))))
 have L2 := Lib.hid hl2; have S2 := Lib.hid (over_times hs2 H9.out)
 rw [hW2, hbb]
 clear hW2 hbb hb2 xb hu2 hk2 hr2 ho2 ht2 hl2 hs2 hlow H2 HT2 T1 U1 XO1 XB B1 y1 y2 y3 y4 y5 y7
 obtain ⟨a0, _⟩ := XB2.out.at_ 0 _ rfl; obtain ⟨a1, _⟩ := XB2.out.at_ 1 _ rfl; obtain ⟨c0, _⟩ := XC.out.at_ 0 _ rfl; obtain ⟨c1, _⟩ := XC.out.at_ 1 _ rfl
 have qe : (re == re) = true := by simp
 go_wp2_with ((with_reducible refine HSA.out.mono ?_); rintro e w3 ⟨rfl, hb3⟩; have H3 := Lib.hid hb3; clear hb3)
 go_ret
 refine ⟨rfl, Sc.below ⟨n + 1, m + 1, rF, rO, Q', S', ?_, ?_, ?_, ?_, T2.out, K2.out, R2.out, O2.out, S2.out.1⟩ H3.out, B2.out.trans (H3.out.mono ?_)⟩
 · have := HKK.out; omega
 · have := HKK.out; omega
 · have := HKK.out; have := L2.out; omega
 · have := HKK.out; have := S2.out.2; omega
 · exact Nat.le_trans HBW.out B2.out.size

set_option maxHeartbeats 8000000 in
theorem step_1 (p b o q B B0 : Nat) (room M L : Int) (k : Nat) (x : TOp) (xv : Value) (w : World) (h : Sc w p b o q B room M L k) (hx : x.Ok w xv) (hk : k ≤ 1000) (hB : B0 ≤ b ∧ B0 ≤ o ∧ B0 ≤ B ∧ B0 ≤ w.heap.size) (hf : fitsT room M L) (hd : x.d = 1) :
 Calls Tryz.prog 7 #[.pointer (some ⟨p, 0, none⟩), .pointer (some ⟨q, 0, none⟩), .agg (x.cells xv).toArray] w (RetSc w p b o q B B0 room M L k) := by
 have hxs := hx.strs
 obtain ⟨so, sc, rfl⟩ := hxs.shape
 obtain ⟨d, vl, pt, kind, g, C, src, now⟩ := x
 obtain ⟨_, hgl, hsl, _, hwv, hwp, _, _⟩ := hx
 dsimp only at hd hxs hgl hsl hwv hwp ⊢
 subst hd
 show Calls _ _ #[.pointer (some ⟨p, 0, none⟩), .pointer (some ⟨q, 0, none⟩), .agg #[.int .i64 1, .int .i64 vl, .int .i64 pt, .int .i64 kind, .string (bstr g), .slice so C.length sc, .string (bstr src), .int .i64 now]] w _
 obtain ⟨W0, hW0⟩ : ∃ W0, w.alloc (.cells #[.int .i64 1, .int .i64 vl, .int .i64 pt, .int .i64 kind, .string (bstr g), .slice so C.length sc, .string (bstr src), .int .i64 now] 41) = W0 := ⟨_, rfl⟩
 obtain ⟨ob, hob⟩ : ∃ b, w.heap.size = b := ⟨_, rfl⟩
 have hb0 : Below w.heap.size w W0 := by rw [← hW0]; exact (Below.refl _ _).alloc (Nat.le_refl _) _
 have XO := Lib.hid (show CBox W0 ob 41 #[.int .i64 1, .int .i64 vl, .int .i64 pt, .int .i64 kind, .string (bstr g), .slice so C.length sc, .string (bstr src), .int .i64 now] from by rw [← hW0]; exact CBox.new _ hob.symm)
 have HB := Lib.hid (hb0.mono hB.2.2.2)
 have RV := Lib.hid (hxs.mono hb0)
 have HBB := Lib.hid (show B0 ≤ b ∧ B0 ≤ o ∧ B0 ≤ B ∧ B0 ≤ W0.heap.size from ⟨hB.1, hB.2.1, hB.2.2.1, Nat.le_trans hB.2.2.2 hb0.size⟩)
 have HF0 := Lib.hid hf; have HBW := Lib.hid hB.2.2.2
 obtain ⟨n, m, F, O, Q, S, h1, h2, h3, h4, h5, h6, h7, h8, h9⟩ := h.below hb0
 have HOKT := Lib.hid (show okT (vl, g, pt) from ⟨hwv, hgl, hwp⟩)
 have H9 := Lib.hid h9
 have HW0 := Lib.hid hW0; have HOB := Lib.hid hob
 clear hW0 hob hb0 h hxs hB hf h9
 go_enter Tryz.func7, Tryz.ntmps7
 go_upto_region 1 with fail
 rw [HW0.out, HOB.out]
 clear HW0 HOB
 obtain ⟨x0, _⟩ := XO.out.at_ 0 _ rfl; obtain ⟨x1, _⟩ := XO.out.at_ 1 _ rfl; obtain ⟨x2, _⟩ := XO.out.at_ 2 _ rfl; obtain ⟨x3, _⟩ := XO.out.at_ 3 _ rfl; obtain ⟨x4, _⟩ := XO.out.at_ 4 _ rfl; obtain ⟨x5, _⟩ := XO.out.at_ 5 _ rfl; obtain ⟨x6, _⟩ := XO.out.at_ 6 _ rfl; obtain ⟨x7, _⟩ := XO.out.at_ 7 _ rfl
 have HT1 := Lib.hid (ports_any (some ⟨p, 0, none⟩) n vl now g src F ((Q.map Prod.fst).map Prod.fst) W0 ⟨h7.keys, .inr ⟨p, b, o, m, room, M, L, O, rfl, h5⟩⟩ (by omega) hsl)
 rw [ports_rows h7] at HT1
 have HRP := Lib.hid (fun W K1 => rports_any B q room M L vl now g src Q S W K1 (by omega))
 have HWF := Lib.hid (show ∀ x ∈ portsR src now vl g (Q.map Prod.fst), (Lit.int .i64 x).wf = true from portsR_wf (by obtain ⟨_, _, _, _, _, hok, _⟩ := h6; exact hok))
 have HLN := Lib.hid (show (portsR src now vl g (Q.map Prod.fst)).length ≤ 17592186044416 from by have := portsR_len src now vl g (Q.map Prod.fst); rw [List.length_map] at this; omega)
 have H6 := Lib.hid h6
 have HSC := Lib.hid (show Sc W0 p b o q B room M L (k + 1) from ⟨n, m, F, O, Q, S, by omega, by omega, by omega, by omega, h5, h6, h7, h8, H9.out⟩)
 generalize portsR src now vl g (Q.map Prod.fst) = PL at HT1 HRP HWF HLN
 clear h5 h6 h7 h8 h1 h2 h3 h4 hk hgl hsl hwv hwp RV H9 HOKT
 go_upto_region 8 with ((with_reducible refine HT1.out.mono ?_); rintro e w1 ⟨u, rfl, hrow, hb1⟩; have H1 := Lib.hid (And.intro hrow hb1); have XO1 := Lib.hid (XO.out.below hb1 XO.out.lt); clear hrow hb1)
 have HT2 := Lib.hid (HRP.out w1 (H6.out.below H1.out.2))
 clear x0 x1 x2 x3 x4 x5 x6 x7 HT1 HRP
 obtain ⟨y1, _⟩ := XO1.out.at_ 1 _ rfl; obtain ⟨y4, _⟩ := XO1.out.at_ 4 _ rfl; obtain ⟨y6, _⟩ := XO1.out.at_ 6 _ rfl; obtain ⟨y7, _⟩ := XO1.out.at_ 7 _ rfl
 have HSI := Lib.hid (fun (w2 : World) (u2 : Value) (hr2 : w2.ownsRow w1.heap.size 3 1 u2 PL.length (PL.map (Value.int .i64))) (hb2 : Below w1.heap.size w1 w2) => same_any u u2 PL PL w2 (Ints.own (own_bel H1.out.1 hb2) HLN.out HWF.out) (Ints.own hr2 HLN.out HWF.out))
 go_wp2_with (first
  | ((with_reducible refine HT2.out.mono ?_); rintro e w2 ⟨u2, rfl, hrow, hb2⟩; have HS2 := Lib.hid (HSI.out w2 u2 hrow hb2); have H2 := Lib.hid hb2; clear hrow hb2)
  | ((with_reducible refine HS2.out.mono ?_); rintro e w3 ⟨rfl, ⟨nd, rfl⟩⟩))
 go_ret
 have hb := H1.out.2.trans ((below_draws _ H2.out nd).mono H1.out.2.size)
 exact ⟨by simp, HSC.out.below hb, HB.out.trans (hb.mono HBB.out.2.2.2)⟩

set_option maxHeartbeats 8000000 in
theorem step_2 (p b o q B B0 : Nat) (room M L : Int) (k : Nat) (x : TOp) (xv : Value) (w : World) (h : Sc w p b o q B room M L k) (hx : x.Ok w xv) (hk : k ≤ 1000) (hB : B0 ≤ b ∧ B0 ≤ o ∧ B0 ≤ B ∧ B0 ≤ w.heap.size) (hf : fitsT room M L) (hd : x.d = 2) :
 Calls Tryz.prog 7 #[.pointer (some ⟨p, 0, none⟩), .pointer (some ⟨q, 0, none⟩), .agg (x.cells xv).toArray] w (RetSc w p b o q B B0 room M L k) := by
 have hxs := hx.strs
 obtain ⟨so, sc, rfl⟩ := hxs.shape
 obtain ⟨d, vl, pt, kind, g, C, src, now⟩ := x
 obtain ⟨_, hgl, hsl, _, hwv, hwp, _, _⟩ := hx
 dsimp only at hd hxs hgl hsl hwv hwp ⊢
 subst hd
 show Calls _ _ #[.pointer (some ⟨p, 0, none⟩), .pointer (some ⟨q, 0, none⟩), .agg #[.int .i64 2, .int .i64 vl, .int .i64 pt, .int .i64 kind, .string (bstr g), .slice so C.length sc, .string (bstr src), .int .i64 now]] w _
 obtain ⟨W0, hW0⟩ : ∃ W0, w.alloc (.cells #[.int .i64 2, .int .i64 vl, .int .i64 pt, .int .i64 kind, .string (bstr g), .slice so C.length sc, .string (bstr src), .int .i64 now] 41) = W0 := ⟨_, rfl⟩
 obtain ⟨ob, hob⟩ : ∃ b, w.heap.size = b := ⟨_, rfl⟩
 have hb0 : Below w.heap.size w W0 := by rw [← hW0]; exact (Below.refl _ _).alloc (Nat.le_refl _) _
 have XO := Lib.hid (show CBox W0 ob 41 #[.int .i64 2, .int .i64 vl, .int .i64 pt, .int .i64 kind, .string (bstr g), .slice so C.length sc, .string (bstr src), .int .i64 now] from by rw [← hW0]; exact CBox.new _ hob.symm)
 have HB := Lib.hid (hb0.mono hB.2.2.2)
 have RV := Lib.hid (hxs.mono hb0)
 have HBB := Lib.hid (show B0 ≤ b ∧ B0 ≤ o ∧ B0 ≤ B ∧ B0 ≤ W0.heap.size from ⟨hB.1, hB.2.1, hB.2.2.1, Nat.le_trans hB.2.2.2 hb0.size⟩)
 have HF0 := Lib.hid hf; have HBW := Lib.hid hB.2.2.2
 obtain ⟨n, m, F, O, Q, S, h1, h2, h3, h4, h5, h6, h7, h8, h9⟩ := h.below hb0
 have HOKT := Lib.hid (show okT (vl, g, pt) from ⟨hwv, hgl, hwp⟩)
 have H9 := Lib.hid h9
 have HW0 := Lib.hid hW0; have HOB := Lib.hid hob
 clear hW0 hob hb0 h hxs hB hf h9
 go_enter Tryz.func7, Tryz.ntmps7
 go_upto_region 1 with fail
 rw [HW0.out, HOB.out]
 clear HW0 HOB
 obtain ⟨Z, hZ⟩ : ∃ W, W0.drew = W := ⟨_, rfl⟩
 have hbz : Below W0.heap.size W0 Z := by rw [← hZ]; exact Below.drew (Below.refl _ _)
 have XZ := Lib.hid (XO.out.below hbz XO.out.lt); have HZ := Lib.hid hZ
 have h5 := h5.mono hbz; have h6 := h6.below hbz
 have HBZ := Lib.hid (HB.out.trans (hbz.mono HBB.out.2.2.2)); have HZS := Lib.hid (Nat.le_trans HBB.out.2.2.2 hbz.size)
 obtain ⟨x0, _⟩ := XO.out.at_ 0 _ rfl
 have SK := Lib.hid (show ∀ W, CBox W ob 41 #[.int .i64 2, .int .i64 vl, .int .i64 pt, .int .i64 kind, .string (bstr g), .slice so C.length sc, .string (bstr src), .int .i64 now] → W.cell? ⟨ob, 1, none⟩ = some (.int .i64 vl) ∧ W.cell? ⟨ob, 2, none⟩ = some (.int .i64 pt) ∧ W.cell? ⟨ob, 4, none⟩ = some (.string (bstr g)) ∧ W.cell? ⟨ob, 7, none⟩ = some (.int .i64 now) from fun W hX => ⟨(hX.at_ 1 _ rfl).1, (hX.at_ 2 _ rfl).1, (hX.at_ 4 _ rfl).1, (hX.at_ 7 _ rfl).1⟩)
 have HF := Lib.hid (fun (W : World) (h : W.cell? ⟨ob, 1, none⟩ = some (.int .i64 vl) ∧ W.cell? ⟨ob, 2, none⟩ = some (.int .i64 pt) ∧ W.cell? ⟨ob, 4, none⟩ = some (.string (bstr g)) ∧ W.cell? ⟨ob, 7, none⟩ = some (.int .i64 now)) => h)
 clear hZ hbz
 have H1 := Lib.hid (known_any (some ⟨p, 0, none⟩) n vl now g F ((Q.map Prod.fst).map Prod.fst) Z ⟨h7.keys, .inr ⟨p, b, o, m, room, M, L, O, rfl, h5⟩⟩ (by omega))
 rw [known_rows h7] at H1
 have H2 := Lib.hid (fun W K1 => rknown_any B q room M L vl now g Q S W K1 (by omega))
 have H3 := Lib.hid (fun W T1 => over_any p b o n m room M L vl now F O W T1 HOKT.out.1 (by have := HF0.out.2.1; omega) (fun v s e => by
  rw [h8 v] at e
  cases hs : S.find? fun s => s.1 == v with
  | none => rw [hs] at e; cases e
  | some y =>
    rw [hs] at e
    injection e with e
    subst e
    exact H9.out _ (List.mem_of_find?_eq_some hs)))
 rw [overB_rel h8] at H3
 have H4 := Lib.hid (fun W K1 => rOver_any B q room M L vl now Q S W K1 (by omega) (by have := HF0.out.2.1; omega) H9.out)
 have T0 := Lib.hid h5; have K0 := Lib.hid h6
 have HSC := Lib.hid (show Sc Z p b o q B room M L (k + 1) from ⟨n, m, F, O, Q, S, by omega, by omega, by omega, by omega, h5, h6, h7, h8, H9.out⟩)
 generalize knownR now vl g (Q.map Prod.fst) = kb at H1 H2
 generalize overB S M vl now = vb at H3 H4
 have qk : (kb == kb) = true := by simp
 have qv : (vb == vb) = true := by simp
 clear h5 h6 h7 h8 h1 h2 h3 h4 hk hgl hsl hwv hwp RV H9 HOKT
 go_upto_region 10 with fail
 refine wp_region_held_drew (S := fun W => W.cell? ⟨ob, 1, none⟩ = some (.int .i64 vl) ∧ W.cell? ⟨ob, 2, none⟩ = some (.int .i64 pt) ∧ W.cell? ⟨ob, 4, none⟩ = some (.string (bstr g)) ∧ W.cell? ⟨ob, 7, none⟩ = some (.int .i64 now)) (by kernel_rfl) (by rw [HZ.out]; exact SK.out _ XZ.out) (fun hHeld => ?_)
 rw [HZ.out] at hHeld ⊢
 clear x0
 refine tkL 0 (v := ?_) rfl (by kernel_rfl) (fun _ _ _ => id) (Or.inl ⟨by rfl, ?_⟩) (by assumption) ?_; rotate_left; (focus (intro wq hSq; have f := HF.out wq hSq; go_simp <;> with_reducible rfl)); simp only [Act.put, pA, pB, pC]
 refine tkL 1 (v := ?_) rfl (by kernel_rfl) (fun _ _ _ => id) (Or.inl ⟨by rfl, ?_⟩) (by assumption) ?_; rotate_left; (focus (intro wq hSq; have f := HF.out wq hSq; go_simp <;> with_reducible rfl)); simp only [Act.put, pA, pB, pC]
 refine tkL 2 (v := ?_) rfl (by kernel_rfl) (fun _ _ _ => id) (Or.inl ⟨by rfl, ?_⟩) (by assumption) ?_; rotate_left; (focus (intro wq hSq; have f := HF.out wq hSq; go_simp <;> with_reducible rfl)); simp only [Act.put, pA, pB, pC]
 refine tkL 3 (v := ?_) rfl (by kernel_rfl) (fun _ _ _ => id) (Or.inl ⟨by rfl, ?_⟩) (by assumption) ?_; rotate_left; (focus (intro wq hSq; have f := HF.out wq hSq; go_simp <;> with_reducible rfl)); simp only [Act.put, pA, pB, pC]
 refine tkL 4 (v := ?_) rfl (by kernel_rfl) (fun _ _ _ => id) (Or.inl ⟨by rfl, ?_⟩) (by assumption) ?_; rotate_left; (focus (intro wq hSq; have f := HF.out wq hSq; go_simp <;> with_reducible rfl)); simp only [Act.put, pA, pB, pC]
 refine tkL 5 (v := ?_) rfl (by kernel_rfl) (fun _ _ _ => id) (Or.inl ⟨by rfl, ?_⟩) (by assumption) ?_; rotate_left; (focus (intro wq hSq; have f := HF.out wq hSq; go_simp <;> with_reducible rfl)); simp only [Act.put, pA, pB, pC]
 refine tkL 6 (v := ?_) rfl (by kernel_rfl) (fun _ _ _ => id) (Or.inl ⟨by rfl, ?_⟩) (by assumption) ?_; rotate_left; (focus (intro wq hSq; have f := HF.out wq hSq; go_simp <;> with_reducible rfl)); simp only [Act.put, pA, pB, pC]
 refine tkL 7 (v := ?_) rfl (by kernel_rfl) (fun _ _ _ => id) (Or.inl ⟨by rfl, ?_⟩) (by assumption) ?_; rotate_left; (focus (intro wq hSq; have f := HF.out wq hSq; go_simp <;> with_reducible rfl)); simp only [Act.put, pA, pB, pC]
 refine tkL 9 (v := ?_) rfl (by kernel_rfl) (fun _ _ _ => id) (Or.inl ⟨by rfl, ?_⟩) (by assumption) ?_; rotate_left; (focus (intro wq hSq; have f := HF.out wq hSq; go_simp <;> with_reducible rfl)); simp only [Act.put, pA, pB, pC]
 refine tkL 10 (v := ?_) rfl (by kernel_rfl) (fun _ _ _ => id) (Or.inl ⟨by rfl, ?_⟩) (by assumption) ?_; rotate_left; (focus (intro wq hSq; have f := HF.out wq hSq; go_simp <;> with_reducible rfl)); simp only [Act.put, pA, pB, pC]
 refine tkL 11 (v := ?_) rfl (by kernel_rfl) (fun _ _ _ => id) (Or.inl ⟨by rfl, ?_⟩) (by assumption) ?_; rotate_left; (focus (intro wq hSq; have f := HF.out wq hSq; go_simp <;> with_reducible rfl)); simp only [Act.put, pA, pB, pC]
 refine tkL 12 (v := ?_) rfl (by kernel_rfl) (fun _ _ _ => id) (Or.inl ⟨by rfl, ?_⟩) (by assumption) ?_; rotate_left; (focus (intro wq hSq; have f := HF.out wq hSq; go_simp <;> with_reducible rfl)); simp only [Act.put, pA, pB, pC]
 refine tkL 13 (v := ?_) rfl (by kernel_rfl) (fun _ _ _ => id) (Or.inl ⟨by rfl, ?_⟩) (by assumption) ?_; rotate_left; (focus (intro wq hSq; have f := HF.out wq hSq; go_simp <;> with_reducible rfl)); simp only [Act.put, pA, pB, pC]
 refine tkL 14 (v := ?_) rfl (by kernel_rfl) (fun _ _ _ => id) (Or.inl ⟨by rfl, ?_⟩) (by assumption) ?_; rotate_left; (focus (intro wq hSq; have f := HF.out wq hSq; go_simp <;> with_reducible rfl)); simp only [Act.put, pA, pB, pC]
 refine tkL 15 (v := ?_) rfl (by kernel_rfl) (fun _ _ _ => id) (Or.inl ⟨by rfl, ?_⟩) (by assumption) ?_; rotate_left; (focus (intro wq hSq; have f := HF.out wq hSq; go_simp <;> with_reducible rfl)); simp only [Act.put, pA, pB, pC]
 refine tkL 16 (v := ?_) rfl (by kernel_rfl) (fun _ _ _ => id) (Or.inl ⟨by rfl, ?_⟩) (by assumption) ?_; rotate_left; (focus (intro wq hSq; have f := HF.out wq hSq; go_simp <;> with_reducible rfl)); simp only [Act.put, pA, pB, pC]
 refine wpAnyH_ready (rs := [8]) (by kernel_rfl) (by simp) (nextL 8 rfl (fun Kr hKr => ?_) AllReadyH.nil)
 rw [if_pos (by rfl)]
 go_simp
 refine H1.out.mono ?_
 rintro e w1 ⟨rfl, hb1⟩
 have B1 := Lib.hid hb1
 refine hKr.out _ _ (SK.out _ (XZ.out.below hb1 XZ.out.lt)) (fun _ => ?_)
 clear hKr hb1 H1
 refine wpAnyH_ready (rs := [17]) (by kernel_rfl) (by simp) (nextL 17 rfl (fun Kr hKr => ?_) AllReadyH.nil)
 rw [if_pos (by rfl)]
 go_simp
 refine (H2.out _ (K0.out.below B1.out)).mono ?_
 rintro e w2 ⟨rfl, hb2⟩
 have B2 := Lib.hid (B1.out.trans (hb2.mono B1.out.size))
 refine hKr.out _ _ (SK.out _ (XZ.out.below B2.out XZ.out.lt)) (fun _ => ?_)
 clear hKr hb2 H2 B1
 refine tkL 18 (v := ?_) rfl (by kernel_rfl) (fun _ _ _ => id) (Or.inl ⟨by rfl, ?_⟩) (by assumption) ?_; rotate_left; (focus (intro wq hSq; go_simp <;> with_reducible rfl)); simp only [Act.put, pA, pB, pC]
 refine tkL 19 (v := ?_) rfl (by kernel_rfl) (fun _ _ _ => id) (Or.inl ⟨by rfl, ?_⟩) (by assumption) ?_; rotate_left; (focus (intro wq hSq; go_simp <;> with_reducible rfl)); simp only [Act.put, pA, pB, pC]
 refine tkL 20 (v := ?_) rfl (by kernel_rfl) (fun _ _ _ => id) (Or.inl ⟨by rfl, ?_⟩) (by assumption) ?_; rotate_left; (focus (intro wq hSq; have f := HF.out wq hSq; go_simp <;> with_reducible rfl)); simp only [Act.put, pA, pB, pC]
 refine tkL 21 (v := ?_) rfl (by kernel_rfl) (fun _ _ _ => id) (Or.inl ⟨by rfl, ?_⟩) (by assumption) ?_; rotate_left; (focus (intro wq hSq; have f := HF.out wq hSq; go_simp <;> with_reducible rfl)); simp only [Act.put, pA, pB, pC]
 refine tkL 22 (v := ?_) rfl (by kernel_rfl) (fun _ _ _ => id) (Or.inl ⟨by rfl, ?_⟩) (by assumption) ?_; rotate_left; (focus (intro wq hSq; have f := HF.out wq hSq; go_simp <;> with_reducible rfl)); simp only [Act.put, pA, pB, pC]
 refine tkL 23 (v := ?_) rfl (by kernel_rfl) (fun _ _ _ => id) (Or.inl ⟨by rfl, ?_⟩) (by assumption) ?_; rotate_left; (focus (intro wq hSq; have f := HF.out wq hSq; go_simp <;> with_reducible rfl)); simp only [Act.put, pA, pB, pC]
 refine tkL 24 (v := ?_) rfl (by kernel_rfl) (fun _ _ _ => id) (Or.inl ⟨by rfl, ?_⟩) (by assumption) ?_; rotate_left; (focus (intro wq hSq; have f := HF.out wq hSq; go_simp <;> with_reducible rfl)); simp only [Act.put, pA, pB, pC]
 refine tkL 26 (v := ?_) rfl (by kernel_rfl) (fun _ _ _ => id) (Or.inl ⟨by rfl, ?_⟩) (by assumption) ?_; rotate_left; (focus (intro wq hSq; have f := HF.out wq hSq; go_simp <;> with_reducible rfl)); simp only [Act.put, pA, pB, pC]
 refine tkL 27 (v := ?_) rfl (by kernel_rfl) (fun _ _ _ => id) (Or.inl ⟨by rfl, ?_⟩) (by assumption) ?_; rotate_left; (focus (intro wq hSq; have f := HF.out wq hSq; go_simp <;> with_reducible rfl)); simp only [Act.put, pA, pB, pC]
 refine tkL 28 (v := ?_) rfl (by kernel_rfl) (fun _ _ _ => id) (Or.inl ⟨by rfl, ?_⟩) (by assumption) ?_; rotate_left; (focus (intro wq hSq; have f := HF.out wq hSq; go_simp <;> with_reducible rfl)); simp only [Act.put, pA, pB, pC]
 refine tkL 29 (v := ?_) rfl (by kernel_rfl) (fun _ _ _ => id) (Or.inl ⟨by rfl, ?_⟩) (by assumption) ?_; rotate_left; (focus (intro wq hSq; have f := HF.out wq hSq; go_simp <;> with_reducible rfl)); simp only [Act.put, pA, pB, pC]
 refine tkL 30 (v := ?_) rfl (by kernel_rfl) (fun _ _ _ => id) (Or.inl ⟨by rfl, ?_⟩) (by assumption) ?_; rotate_left; (focus (intro wq hSq; have f := HF.out wq hSq; go_simp <;> with_reducible rfl)); simp only [Act.put, pA, pB, pC]
 refine wpAnyH_ready (rs := [25]) (by kernel_rfl) (by simp) (nextL 25 rfl (fun Kr hKr => ?_) AllReadyH.nil)
 rw [if_pos (by rfl)]
 go_simp
 refine (H3.out _ (T0.out.mono B2.out)).mono ?_
 rintro e w3 ⟨rfl, hw3⟩
 subst w3
 refine hKr.out _ _ (SK.out _ (XZ.out.below B2.out XZ.out.lt)) (fun _ => ?_)
 clear hKr H3
 refine wpAnyH_ready (rs := [31]) (by kernel_rfl) (by simp) (nextL 31 rfl (fun Kr hKr => ?_) AllReadyH.nil)
 rw [if_pos (by rfl)]
 go_simp
 refine (H4.out _ (K0.out.below B2.out)).mono ?_
 rintro e w4 ⟨rfl, hb4⟩
 have B4 := Lib.hid (B2.out.trans (hb4.mono B2.out.size))
 refine hKr.out _ _ (SK.out _ (XZ.out.below B4.out XZ.out.lt)) (fun _ => ?_)
 clear hKr hb4 H4 B2
 refine tkL 32 (v := ?_) rfl (by kernel_rfl) (fun _ _ _ => id) (Or.inl ⟨by rfl, ?_⟩) (by assumption) ?_; rotate_left; (focus (intro wq hSq; go_simp <;> with_reducible rfl)); simp only [Act.put, pA, pB, pC]
 refine tkL 33 (v := ?_) rfl (by kernel_rfl) (fun _ _ _ => id) (Or.inl ⟨by rfl, ?_⟩) (by assumption) ?_; rotate_left; (focus (intro wq hSq; go_simp <;> with_reducible rfl)); simp only [Act.put, pA, pB, pC]
 refine tkL 34 (v := ?_) rfl (by kernel_rfl) (fun _ _ _ => id) (Or.inl ⟨by rfl, ?_⟩) (by assumption) ?_; rotate_left; (focus (intro wq hSq; go_simp <;> with_reducible rfl)); simp only [Act.put, pA, pB, pC]
 refine wpAnyH_done (by kernel_rfl) ?_ _
 clear hHeld
 go_wp2_with fail
 go_ret
 exact ⟨rfl, HSC.out.below B4.out, HBZ.out.trans (B4.out.mono HZS.out)⟩

set_option maxHeartbeats 8000000 in
theorem step_3 (p b o q B B0 : Nat) (room M L : Int) (k : Nat) (x : TOp) (xv : Value) (w : World) (h : Sc w p b o q B room M L k) (hx : x.Ok w xv) (hk : k ≤ 1000) (hB : B0 ≤ b ∧ B0 ≤ o ∧ B0 ≤ B ∧ B0 ≤ w.heap.size) (hf : fitsT room M L) (hd : x.d = 3) :
 Calls Tryz.prog 7 #[.pointer (some ⟨p, 0, none⟩), .pointer (some ⟨q, 0, none⟩), .agg (x.cells xv).toArray] w (RetSc w p b o q B B0 room M L k) := by
 have hxs := hx.strs
 obtain ⟨so, sc, rfl⟩ := hxs.shape
 obtain ⟨d, vl, pt, kind, g, C, src, now⟩ := x
 obtain ⟨_, hgl, hsl, _, hwv, hwp, _, _⟩ := hx
 dsimp only at hd hxs hgl hsl hwv hwp ⊢
 subst hd
 show Calls _ _ #[.pointer (some ⟨p, 0, none⟩), .pointer (some ⟨q, 0, none⟩), .agg #[.int .i64 3, .int .i64 vl, .int .i64 pt, .int .i64 kind, .string (bstr g), .slice so C.length sc, .string (bstr src), .int .i64 now]] w _
 obtain ⟨W0, hW0⟩ : ∃ W0, w.alloc (.cells #[.int .i64 3, .int .i64 vl, .int .i64 pt, .int .i64 kind, .string (bstr g), .slice so C.length sc, .string (bstr src), .int .i64 now] 41) = W0 := ⟨_, rfl⟩
 obtain ⟨ob, hob⟩ : ∃ b, w.heap.size = b := ⟨_, rfl⟩
 have hb0 : Below w.heap.size w W0 := by rw [← hW0]; exact (Below.refl _ _).alloc (Nat.le_refl _) _
 have XO := Lib.hid (show CBox W0 ob 41 #[.int .i64 3, .int .i64 vl, .int .i64 pt, .int .i64 kind, .string (bstr g), .slice so C.length sc, .string (bstr src), .int .i64 now] from by rw [← hW0]; exact CBox.new _ hob.symm)
 have HB := Lib.hid (hb0.mono hB.2.2.2)
 have RV := Lib.hid (hxs.mono hb0)
 have HBB := Lib.hid (show B0 ≤ b ∧ B0 ≤ o ∧ B0 ≤ B ∧ B0 ≤ W0.heap.size from ⟨hB.1, hB.2.1, hB.2.2.1, Nat.le_trans hB.2.2.2 hb0.size⟩)
 have HF0 := Lib.hid hf; have HBW := Lib.hid hB.2.2.2
 obtain ⟨n, m, F, O, Q, S, h1, h2, h3, h4, h5, h6, h7, h8, h9⟩ := h.below hb0
 have HOKT := Lib.hid (show okT (vl, g, pt) from ⟨hwv, hgl, hwp⟩)
 have H9 := Lib.hid h9
 have HW0 := Lib.hid hW0; have HOB := Lib.hid hob
 clear hW0 hob hb0 h hxs hB hf h9
 go_enter Tryz.func7, Tryz.ntmps7
 go_upto_region 1 with fail
 rw [HW0.out, HOB.out]
 clear HW0 HOB
 obtain ⟨Z, hZ⟩ : ∃ W, W0.drew = W := ⟨_, rfl⟩
 have hbz : Below W0.heap.size W0 Z := by rw [← hZ]; exact Below.drew (Below.refl _ _)
 have XZ := Lib.hid (XO.out.below hbz XO.out.lt); have HZ := Lib.hid hZ
 have h5 := h5.mono hbz; have h6 := h6.below hbz
 have HBZ := Lib.hid (HB.out.trans (hbz.mono HBB.out.2.2.2)); have HZS := Lib.hid (Nat.le_trans HBB.out.2.2.2 hbz.size)
 obtain ⟨x0, _⟩ := XO.out.at_ 0 _ rfl
 have SK := Lib.hid (show ∀ W, CBox W ob 41 #[.int .i64 3, .int .i64 vl, .int .i64 pt, .int .i64 kind, .string (bstr g), .slice so C.length sc, .string (bstr src), .int .i64 now] → W.cell? ⟨ob, 1, none⟩ = some (.int .i64 vl) ∧ W.cell? ⟨ob, 2, none⟩ = some (.int .i64 pt) ∧ W.cell? ⟨ob, 4, none⟩ = some (.string (bstr g)) ∧ W.cell? ⟨ob, 7, none⟩ = some (.int .i64 now) from fun W hX => ⟨(hX.at_ 1 _ rfl).1, (hX.at_ 2 _ rfl).1, (hX.at_ 4 _ rfl).1, (hX.at_ 7 _ rfl).1⟩)
 have HF := Lib.hid (fun (W : World) (h : W.cell? ⟨ob, 1, none⟩ = some (.int .i64 vl) ∧ W.cell? ⟨ob, 2, none⟩ = some (.int .i64 pt) ∧ W.cell? ⟨ob, 4, none⟩ = some (.string (bstr g)) ∧ W.cell? ⟨ob, 7, none⟩ = some (.int .i64 now)) => h)
 clear hZ hbz
 have H1 := Lib.hid (remove_any p b o n m room M L F O (vl, g, pt) Z h5 HOKT.out)
 have H2 := Lib.hid (fun W K1 => rremove_any B q room M L vl pt g Q S W K1 h7.1 (by omega))
 obtain ⟨hr1, hr2, hr3⟩ := less_rel (vl, g, pt) h7
 rw [hr1] at H1
 have H7 := Lib.hid hr2; have HLL := Lib.hid hr3
 have T0 := Lib.hid h5; have K0 := Lib.hid h6; have H8 := Lib.hid h8; have HKK := Lib.hid (show n ≤ k ∧ m ≤ k ∧ Q.length ≤ k ∧ S.length ≤ k from ⟨h1, h2, h3, h4⟩)
 generalize hasT (Q.map Prod.fst) (vl, g, pt) = kb at H1 H2
 unfold RetTurnV at H2
 have qk : (kb == kb) = true := by simp
 clear hr1 hr2 hr3
 clear h5 h6 h7 h8 h1 h2 h3 h4 hk hgl hsl hwv hwp RV
 go_upto_region 12 with fail
 refine wp_region_held_drew (S := fun W => W.cell? ⟨ob, 1, none⟩ = some (.int .i64 vl) ∧ W.cell? ⟨ob, 2, none⟩ = some (.int .i64 pt) ∧ W.cell? ⟨ob, 4, none⟩ = some (.string (bstr g)) ∧ W.cell? ⟨ob, 7, none⟩ = some (.int .i64 now)) (by kernel_rfl) (by rw [HZ.out]; exact SK.out _ XZ.out) (fun hHeld => ?_)
 rw [HZ.out] at hHeld ⊢
 clear x0
 refine tkL 0 (v := ?_) rfl (by kernel_rfl) (fun _ _ _ => id) (Or.inl ⟨by rfl, ?_⟩) (by assumption) ?_; rotate_left; (focus (intro wq hSq; have f := HF.out wq hSq; go_simp <;> with_reducible rfl)); simp only [Act.put, pA, pB, pC]
 refine tkL 1 (v := ?_) rfl (by kernel_rfl) (fun _ _ _ => id) (Or.inl ⟨by rfl, ?_⟩) (by assumption) ?_; rotate_left; (focus (intro wq hSq; have f := HF.out wq hSq; go_simp <;> with_reducible rfl)); simp only [Act.put, pA, pB, pC]
 refine tkL 2 (v := ?_) rfl (by kernel_rfl) (fun _ _ _ => id) (Or.inl ⟨by rfl, ?_⟩) (by assumption) ?_; rotate_left; (focus (intro wq hSq; have f := HF.out wq hSq; go_simp <;> with_reducible rfl)); simp only [Act.put, pA, pB, pC]
 refine tkL 3 (v := ?_) rfl (by kernel_rfl) (fun _ _ _ => id) (Or.inl ⟨by rfl, ?_⟩) (by assumption) ?_; rotate_left; (focus (intro wq hSq; have f := HF.out wq hSq; go_simp <;> with_reducible rfl)); simp only [Act.put, pA, pB, pC]
 refine tkL 4 (v := ?_) rfl (by kernel_rfl) (fun _ _ _ => id) (Or.inl ⟨by rfl, ?_⟩) (by assumption) ?_; rotate_left; (focus (intro wq hSq; have f := HF.out wq hSq; go_simp <;> with_reducible rfl)); simp only [Act.put, pA, pB, pC]
 refine tkL 5 (v := ?_) rfl (by kernel_rfl) (fun _ _ _ => id) (Or.inl ⟨by rfl, ?_⟩) (by assumption) ?_; rotate_left; (focus (intro wq hSq; have f := HF.out wq hSq; go_simp <;> with_reducible rfl)); simp only [Act.put, pA, pB, pC]
 refine tkL 6 (v := ?_) rfl (by kernel_rfl) (fun _ _ _ => id) (Or.inl ⟨by rfl, ?_⟩) (by assumption) ?_; rotate_left; (focus (intro wq hSq; have f := HF.out wq hSq; go_simp <;> with_reducible rfl)); simp only [Act.put, pA, pB, pC]
 refine tkL 7 (v := ?_) rfl (by kernel_rfl) (fun _ _ _ => id) (Or.inl ⟨by rfl, ?_⟩) (by assumption) ?_; rotate_left; (focus (intro wq hSq; have f := HF.out wq hSq; go_simp <;> with_reducible rfl)); simp only [Act.put, pA, pB, pC]
 refine tkL 8 (v := ?_) rfl (by kernel_rfl) (fun _ _ _ => id) (Or.inl ⟨by rfl, ?_⟩) (by assumption) ?_; rotate_left; (focus (intro wq hSq; have f := HF.out wq hSq; go_simp <;> with_reducible rfl)); simp only [Act.put, pA, pB, pC]
 refine tkL 10 (v := ?_) rfl (by kernel_rfl) (fun _ _ _ => id) (Or.inl ⟨by rfl, ?_⟩) (by assumption) ?_; rotate_left; (focus (intro wq hSq; have f := HF.out wq hSq; go_simp <;> with_reducible rfl)); simp only [Act.put, pA, pB, pC]
 refine tkL 11 (v := ?_) rfl (by kernel_rfl) (fun _ _ _ => id) (Or.inl ⟨by rfl, ?_⟩) (by assumption) ?_; rotate_left; (focus (intro wq hSq; have f := HF.out wq hSq; go_simp <;> with_reducible rfl)); simp only [Act.put, pA, pB, pC]
 refine tkL 12 (v := ?_) rfl (by kernel_rfl) (fun _ _ _ => id) (Or.inl ⟨by rfl, ?_⟩) (by assumption) ?_; rotate_left; (focus (intro wq hSq; have f := HF.out wq hSq; go_simp <;> with_reducible rfl)); simp only [Act.put, pA, pB, pC]
 refine tkL 13 (v := ?_) rfl (by kernel_rfl) (fun _ _ _ => id) (Or.inl ⟨by rfl, ?_⟩) (by assumption) ?_; rotate_left; (focus (intro wq hSq; have f := HF.out wq hSq; go_simp <;> with_reducible rfl)); simp only [Act.put, pA, pB, pC]
 refine tkL 14 (v := ?_) rfl (by kernel_rfl) (fun _ _ _ => id) (Or.inl ⟨by rfl, ?_⟩) (by assumption) ?_; rotate_left; (focus (intro wq hSq; have f := HF.out wq hSq; go_simp <;> with_reducible rfl)); simp only [Act.put, pA, pB, pC]
 refine tkL 15 (v := ?_) rfl (by kernel_rfl) (fun _ _ _ => id) (Or.inl ⟨by rfl, ?_⟩) (by assumption) ?_; rotate_left; (focus (intro wq hSq; have f := HF.out wq hSq; go_simp <;> with_reducible rfl)); simp only [Act.put, pA, pB, pC]
 refine tkL 16 (v := ?_) rfl (by kernel_rfl) (fun _ _ _ => id) (Or.inl ⟨by rfl, ?_⟩) (by assumption) ?_; rotate_left; (focus (intro wq hSq; have f := HF.out wq hSq; go_simp <;> with_reducible rfl)); simp only [Act.put, pA, pB, pC]
 refine tkL 17 (v := ?_) rfl (by kernel_rfl) (fun _ _ _ => id) (Or.inl ⟨by rfl, ?_⟩) (by assumption) ?_; rotate_left; (focus (intro wq hSq; have f := HF.out wq hSq; go_simp <;> with_reducible rfl)); simp only [Act.put, pA, pB, pC]
 refine wpAnyH_ready (rs := [9]) (by kernel_rfl) (by simp) (nextL 9 rfl (fun Kr hKr => ?_) AllReadyH.nil)
 rw [if_pos (by rfl)]
 go_simp
 refine H1.out.mono ?_
 rintro e w1 ⟨rfl, htb, hmt⟩
 have ck := Lib.hid (T0.out.ckeep hmt)
 have T1 := Lib.hid htb; have M1 := Lib.hid hmt; have X1 := Lib.hid (ck.out.box XZ.out)
 refine hKr.out _ _ (SK.out _ X1.out) (fun _ => ?_)
 clear hKr htb hmt H1
 refine wpAnyH_ready (rs := [18]) (by kernel_rfl) (by simp) (nextL 18 rfl (fun Kr hKr => ?_) AllReadyH.nil)
 rw [if_pos (by rfl)]
 go_simp
 refine (H2.out _ (K0.out.keep ck.out)).mono ?_
 rintro e w2 ⟨rfl, hk2, ht2⟩
 have K2 := Lib.hid (And.intro hk2 ht2)
 refine hKr.out _ _ (SK.out _ (X1.out.rturn ht2 (by decide) (by decide) (by decide))) (fun _ => ?_)
 clear hKr hk2 ht2 H2
 refine tkL 19 (v := ?_) rfl (by kernel_rfl) (fun _ _ _ => id) (Or.inl ⟨by rfl, ?_⟩) (by assumption) ?_; rotate_left; (focus (intro wq hSq; go_simp <;> with_reducible rfl)); simp only [Act.put, pA, pB, pC]
 refine tkL 20 (v := ?_) rfl (by kernel_rfl) (fun _ _ _ => id) (Or.inl ⟨by rfl, ?_⟩) (by assumption) ?_; rotate_left; (focus (intro wq hSq; go_simp <;> with_reducible rfl)); simp only [Act.put, pA, pB, pC]
 refine wpAnyH_done (by kernel_rfl) ?_ _
 clear hHeld
 go_wp2_with fail
 go_ret
 have hm1 := M1.out.below HZS.out HBB.out.1 HBB.out.2.1
 have hB2 := HBZ.out.trans (hm1.trans (K2.out.2.low.mono HBB.out.2.2.1))
 refine ⟨rfl, ⟨n, m, _, O, _, S, ?_, ?_, ?_, ?_, T1.out.rturn K2.out.2, K2.out.1, H7.out, H8.out, H9.out⟩, hB2⟩
 · have := HKK.out; omega
 · have := HKK.out; omega
 · have := HKK.out; have := HLL.out; omega
 · have := HKK.out; omega

set_option maxHeartbeats 8000000 in
theorem step_4 (p b o q B B0 : Nat) (room M L : Int) (k : Nat) (x : TOp) (xv : Value) (w : World) (h : Sc w p b o q B room M L k) (hx : x.Ok w xv) (hk : k ≤ 1000) (hB : B0 ≤ b ∧ B0 ≤ o ∧ B0 ≤ B ∧ B0 ≤ w.heap.size) (hf : fitsT room M L) (hd : x.d = 4) :
 Calls Tryz.prog 7 #[.pointer (some ⟨p, 0, none⟩), .pointer (some ⟨q, 0, none⟩), .agg (x.cells xv).toArray] w (RetSc w p b o q B B0 room M L k) := by
 have hxs := hx.strs
 obtain ⟨so, sc, rfl⟩ := hxs.shape
 obtain ⟨d, vl, pt, kind, g, C, src, now⟩ := x
 obtain ⟨_, hgl, hsl, _, hwv, hwp, _, _⟩ := hx
 dsimp only at hd hxs hgl hsl hwv hwp ⊢
 subst hd
 show Calls _ _ #[.pointer (some ⟨p, 0, none⟩), .pointer (some ⟨q, 0, none⟩), .agg #[.int .i64 4, .int .i64 vl, .int .i64 pt, .int .i64 kind, .string (bstr g), .slice so C.length sc, .string (bstr src), .int .i64 now]] w _
 obtain ⟨W0, hW0⟩ : ∃ W0, w.alloc (.cells #[.int .i64 4, .int .i64 vl, .int .i64 pt, .int .i64 kind, .string (bstr g), .slice so C.length sc, .string (bstr src), .int .i64 now] 41) = W0 := ⟨_, rfl⟩
 obtain ⟨ob, hob⟩ : ∃ b, w.heap.size = b := ⟨_, rfl⟩
 have hb0 : Below w.heap.size w W0 := by rw [← hW0]; exact (Below.refl _ _).alloc (Nat.le_refl _) _
 have XO := Lib.hid (show CBox W0 ob 41 #[.int .i64 4, .int .i64 vl, .int .i64 pt, .int .i64 kind, .string (bstr g), .slice so C.length sc, .string (bstr src), .int .i64 now] from by rw [← hW0]; exact CBox.new _ hob.symm)
 have HB := Lib.hid (hb0.mono hB.2.2.2)
 have RV := Lib.hid (hxs.mono hb0)
 have HBB := Lib.hid (show B0 ≤ b ∧ B0 ≤ o ∧ B0 ≤ B ∧ B0 ≤ W0.heap.size from ⟨hB.1, hB.2.1, hB.2.2.1, Nat.le_trans hB.2.2.2 hb0.size⟩)
 have HF0 := Lib.hid hf; have HBW := Lib.hid hB.2.2.2
 obtain ⟨n, m, F, O, Q, S, h1, h2, h3, h4, h5, h6, h7, h8, h9⟩ := h.below hb0
 have HOKT := Lib.hid (show okT (vl, g, pt) from ⟨hwv, hgl, hwp⟩)
 have H9 := Lib.hid h9
 have HW0 := Lib.hid hW0; have HOB := Lib.hid hob
 clear hW0 hob hb0 h hxs hB hf h9
 go_enter Tryz.func7, Tryz.ntmps7
 go_upto_region 1 with fail
 rw [HW0.out, HOB.out]
 clear HW0 HOB
 obtain ⟨Z, hZ⟩ : ∃ W, W0.drew = W := ⟨_, rfl⟩
 have hbz : Below W0.heap.size W0 Z := by rw [← hZ]; exact Below.drew (Below.refl _ _)
 have XZ := Lib.hid (XO.out.below hbz XO.out.lt); have HZ := Lib.hid hZ
 have h5 := h5.mono hbz; have h6 := h6.below hbz
 have HBZ := Lib.hid (HB.out.trans (hbz.mono HBB.out.2.2.2)); have HZS := Lib.hid (Nat.le_trans HBB.out.2.2.2 hbz.size)
 obtain ⟨x0, _⟩ := XO.out.at_ 0 _ rfl
 have SK := Lib.hid (show ∀ W, CBox W ob 41 #[.int .i64 4, .int .i64 vl, .int .i64 pt, .int .i64 kind, .string (bstr g), .slice so C.length sc, .string (bstr src), .int .i64 now] → W.cell? ⟨ob, 1, none⟩ = some (.int .i64 vl) ∧ W.cell? ⟨ob, 2, none⟩ = some (.int .i64 pt) ∧ W.cell? ⟨ob, 4, none⟩ = some (.string (bstr g)) ∧ W.cell? ⟨ob, 7, none⟩ = some (.int .i64 now) from fun W hX => ⟨(hX.at_ 1 _ rfl).1, (hX.at_ 2 _ rfl).1, (hX.at_ 4 _ rfl).1, (hX.at_ 7 _ rfl).1⟩)
 have HF := Lib.hid (fun (W : World) (h : W.cell? ⟨ob, 1, none⟩ = some (.int .i64 vl) ∧ W.cell? ⟨ob, 2, none⟩ = some (.int .i64 pt) ∧ W.cell? ⟨ob, 4, none⟩ = some (.string (bstr g)) ∧ W.cell? ⟨ob, 7, none⟩ = some (.int .i64 now)) => h)
 clear hZ hbz
 have H1 := Lib.hid (drop_any p b o n m room M L pt F O ((Q.map Prod.fst).map Prod.fst) Z h5 h7.keys (by omega))
 have H2 := Lib.hid (fun W K1 => rdrop_any B q room M L pt Q S W K1 (by omega))
 rw [dropN_rows, ← van18_len] at H1
 have hr2 := drop_relT pt h7
 rw [← keep18_map] at hr2
 have H7 := Lib.hid hr2; have HLL := Lib.hid (show (keep18 pt Q).length ≤ Q.length from List.length_filter_le _ _)
 have T0 := Lib.hid h5; have K0 := Lib.hid h6; have H8 := Lib.hid h8; have HKK := Lib.hid (show n ≤ k ∧ m ≤ k ∧ Q.length ≤ k ∧ S.length ≤ k from ⟨h1, h2, h3, h4⟩)
 generalize (van18 pt Q).length = kn at H1 H2
 unfold RetTurnV at H2
 have qk : ((kn : Int) == (kn : Int)) = true := by simp
 clear hr2
 clear h5 h6 h7 h8 h1 h2 h3 h4 hk hgl hsl hwv hwp RV
 go_upto_region 14 with fail
 refine wp_region_held_drew (S := fun W => W.cell? ⟨ob, 1, none⟩ = some (.int .i64 vl) ∧ W.cell? ⟨ob, 2, none⟩ = some (.int .i64 pt) ∧ W.cell? ⟨ob, 4, none⟩ = some (.string (bstr g)) ∧ W.cell? ⟨ob, 7, none⟩ = some (.int .i64 now)) (by kernel_rfl) (by rw [HZ.out]; exact SK.out _ XZ.out) (fun hHeld => ?_)
 rw [HZ.out] at hHeld ⊢
 clear x0
 refine tkL 0 (v := ?_) rfl (by kernel_rfl) (fun _ _ _ => id) (Or.inl ⟨by rfl, ?_⟩) (by assumption) ?_; rotate_left; (focus (intro wq hSq; have f := HF.out wq hSq; go_simp <;> with_reducible rfl)); simp only [Act.put, pA, pB, pC]
 refine tkL 1 (v := ?_) rfl (by kernel_rfl) (fun _ _ _ => id) (Or.inl ⟨by rfl, ?_⟩) (by assumption) ?_; rotate_left; (focus (intro wq hSq; have f := HF.out wq hSq; go_simp <;> with_reducible rfl)); simp only [Act.put, pA, pB, pC]
 refine tkL 2 (v := ?_) rfl (by kernel_rfl) (fun _ _ _ => id) (Or.inl ⟨by rfl, ?_⟩) (by assumption) ?_; rotate_left; (focus (intro wq hSq; have f := HF.out wq hSq; go_simp <;> with_reducible rfl)); simp only [Act.put, pA, pB, pC]
 refine tkL 4 (v := ?_) rfl (by kernel_rfl) (fun _ _ _ => id) (Or.inl ⟨by rfl, ?_⟩) (by assumption) ?_; rotate_left; (focus (intro wq hSq; have f := HF.out wq hSq; go_simp <;> with_reducible rfl)); simp only [Act.put, pA, pB, pC]
 refine tkL 5 (v := ?_) rfl (by kernel_rfl) (fun _ _ _ => id) (Or.inl ⟨by rfl, ?_⟩) (by assumption) ?_; rotate_left; (focus (intro wq hSq; have f := HF.out wq hSq; go_simp <;> with_reducible rfl)); simp only [Act.put, pA, pB, pC]
 refine tkL 6 (v := ?_) rfl (by kernel_rfl) (fun _ _ _ => id) (Or.inl ⟨by rfl, ?_⟩) (by assumption) ?_; rotate_left; (focus (intro wq hSq; have f := HF.out wq hSq; go_simp <;> with_reducible rfl)); simp only [Act.put, pA, pB, pC]
 refine wpAnyH_ready (rs := [3]) (by kernel_rfl) (by simp) (nextL 3 rfl (fun Kr hKr => ?_) AllReadyH.nil)
 rw [if_pos (by rfl)]
 go_simp
 refine H1.out.mono ?_
 rintro e w1 ⟨rfl, htb, hmt⟩
 have ck := Lib.hid (T0.out.ckeep hmt)
 have T1 := Lib.hid htb; have M1 := Lib.hid hmt; have X1 := Lib.hid (ck.out.box XZ.out)
 refine hKr.out _ _ (SK.out _ X1.out) (fun _ => ?_)
 clear hKr htb hmt H1
 refine wpAnyH_ready (rs := [7]) (by kernel_rfl) (by simp) (nextL 7 rfl (fun Kr hKr => ?_) AllReadyH.nil)
 rw [if_pos (by rfl)]
 go_simp
 refine (H2.out _ (K0.out.keep ck.out)).mono ?_
 rintro e w2 ⟨rfl, hk2, ht2⟩
 have K2 := Lib.hid (And.intro hk2 ht2)
 refine hKr.out _ _ (SK.out _ (X1.out.rturn ht2 (by decide) (by decide) (by decide))) (fun _ => ?_)
 clear hKr hk2 ht2 H2
 refine tkL 8 (v := ?_) rfl (by kernel_rfl) (fun _ _ _ => id) (Or.inl ⟨by rfl, ?_⟩) (by assumption) ?_; rotate_left; (focus (intro wq hSq; go_simp <;> with_reducible rfl)); simp only [Act.put, pA, pB, pC]
 refine tkL 9 (v := ?_) rfl (by kernel_rfl) (fun _ _ _ => id) (Or.inl ⟨by rfl, ?_⟩) (by assumption) ?_; rotate_left; (focus (intro wq hSq; go_simp <;> with_reducible rfl)); simp only [Act.put, pA, pB, pC]
 refine wpAnyH_done (by kernel_rfl) ?_ _
 clear hHeld
 go_wp2_with fail
 go_ret
 have hm1 := M1.out.below HZS.out HBB.out.1 HBB.out.2.1
 have hB2 := HBZ.out.trans (hm1.trans (K2.out.2.low.mono HBB.out.2.2.1))
 refine ⟨rfl, ⟨n, m, _, O, _, S, ?_, ?_, ?_, ?_, T1.out.rturn K2.out.2, K2.out.1, H7.out, H8.out, H9.out⟩, hB2⟩
 · have := HKK.out; omega
 · have := HKK.out; omega
 · have := HKK.out; have := HLL.out; omega
 · have := HKK.out; omega

set_option maxHeartbeats 8000000 in
theorem step_5y (p b o q B B0 : Nat) (room M L : Int) (k : Nat) (x : TOp) (xv : Value) (w : World) (h : Sc w p b o q B room M L k) (hx : x.Ok w xv) (hk : k ≤ 1000) (hB : B0 ≤ b ∧ B0 ≤ o ∧ B0 ≤ B ∧ B0 ≤ w.heap.size) (hf : fitsT room M L) (hd : x.d = 5) (ht : timeT x.now = true) :
 Calls Tryz.prog 7 #[.pointer (some ⟨p, 0, none⟩), .pointer (some ⟨q, 0, none⟩), .agg (x.cells xv).toArray] w (RetSc w p b o q B B0 room M L k) := by
 have hxs := hx.strs
 obtain ⟨so, sc, rfl⟩ := hxs.shape
 obtain ⟨d, vl, pt, kind, g, C, src, now⟩ := x
 obtain ⟨_, hgl, hsl, _, hwv, hwp, _, _⟩ := hx
 dsimp only at ht
 dsimp only at hd hxs hgl hsl hwv hwp ⊢
 subst hd
 show Calls _ _ #[.pointer (some ⟨p, 0, none⟩), .pointer (some ⟨q, 0, none⟩), .agg #[.int .i64 5, .int .i64 vl, .int .i64 pt, .int .i64 kind, .string (bstr g), .slice so C.length sc, .string (bstr src), .int .i64 now]] w _
 obtain ⟨W0, hW0⟩ : ∃ W0, w.alloc (.cells #[.int .i64 5, .int .i64 vl, .int .i64 pt, .int .i64 kind, .string (bstr g), .slice so C.length sc, .string (bstr src), .int .i64 now] 41) = W0 := ⟨_, rfl⟩
 obtain ⟨ob, hob⟩ : ∃ b, w.heap.size = b := ⟨_, rfl⟩
 have hb0 : Below w.heap.size w W0 := by rw [← hW0]; exact (Below.refl _ _).alloc (Nat.le_refl _) _
 have XO := Lib.hid (show CBox W0 ob 41 #[.int .i64 5, .int .i64 vl, .int .i64 pt, .int .i64 kind, .string (bstr g), .slice so C.length sc, .string (bstr src), .int .i64 now] from by rw [← hW0]; exact CBox.new _ hob.symm)
 have HB := Lib.hid (hb0.mono hB.2.2.2)
 have RV := Lib.hid (hxs.mono hb0)
 have HBB := Lib.hid (show B0 ≤ b ∧ B0 ≤ o ∧ B0 ≤ B ∧ B0 ≤ W0.heap.size from ⟨hB.1, hB.2.1, hB.2.2.1, Nat.le_trans hB.2.2.2 hb0.size⟩)
 have HF0 := Lib.hid hf; have HBW := Lib.hid hB.2.2.2
 obtain ⟨n, m, F, O, Q, S, h1, h2, h3, h4, h5, h6, h7, h8, h9⟩ := h.below hb0
 have HOKT := Lib.hid (show okT (vl, g, pt) from ⟨hwv, hgl, hwp⟩)
 have H9 := Lib.hid h9
 have HW0 := Lib.hid hW0; have HOB := Lib.hid hob
 clear hW0 hob hb0 h hxs hB hf h9
 go_enter Tryz.func7, Tryz.ntmps7
 go_upto_region 1 with fail
 rw [HW0.out, HOB.out]
 clear HW0 HOB
 obtain ⟨Z, hZ⟩ : ∃ W, W0.drew = W := ⟨_, rfl⟩
 have hbz : Below W0.heap.size W0 Z := by rw [← hZ]; exact Below.drew (Below.refl _ _)
 have XZ := Lib.hid (XO.out.below hbz XO.out.lt); have HZ := Lib.hid hZ
 have h5 := h5.mono hbz; have h6 := h6.below hbz
 have HBZ := Lib.hid (HB.out.trans (hbz.mono HBB.out.2.2.2)); have HZS := Lib.hid (Nat.le_trans HBB.out.2.2.2 hbz.size)
 obtain ⟨x0, _⟩ := XO.out.at_ 0 _ rfl
 have SK := Lib.hid (show ∀ W, CBox W ob 41 #[.int .i64 5, .int .i64 vl, .int .i64 pt, .int .i64 kind, .string (bstr g), .slice so C.length sc, .string (bstr src), .int .i64 now] → W.cell? ⟨ob, 1, none⟩ = some (.int .i64 vl) ∧ W.cell? ⟨ob, 2, none⟩ = some (.int .i64 pt) ∧ W.cell? ⟨ob, 4, none⟩ = some (.string (bstr g)) ∧ W.cell? ⟨ob, 7, none⟩ = some (.int .i64 now) from fun W hX => ⟨(hX.at_ 1 _ rfl).1, (hX.at_ 2 _ rfl).1, (hX.at_ 4 _ rfl).1, (hX.at_ 7 _ rfl).1⟩)
 have HF := Lib.hid (fun (W : World) (h : W.cell? ⟨ob, 1, none⟩ = some (.int .i64 vl) ∧ W.cell? ⟨ob, 2, none⟩ = some (.int .i64 pt) ∧ W.cell? ⟨ob, 4, none⟩ = some (.string (bstr g)) ∧ W.cell? ⟨ob, 7, none⟩ = some (.int .i64 now)) => h)
 clear hZ hbz
 have H1 := Lib.hid (expireT_any p b o n m room M L now F O ((Q.map Prod.fst).map Prod.fst) Z h5 h7.keys (by omega) (by unfold timeT at ht; simpa using ht))
 have H2 := Lib.hid (fun W K1 => rexpT_any B q room M L now Q S W K1 (by omega) ht)
 rw [expN_rows now h7, List.length_map, List.length_map] at H1
 have H7 := Lib.hid (expR_relT now h7); have HLL := Lib.hid (expR_len now (Q.map Prod.fst))
 have T0 := Lib.hid h5; have K0 := Lib.hid h6; have H8 := Lib.hid h8; have HKK := Lib.hid (show n ≤ k ∧ m ≤ k ∧ Q.length ≤ k ∧ S.length ≤ k from ⟨h1, h2, h3, h4⟩)
 unfold RetExpT at H2
 generalize deadR now (Q.map Prod.fst) = kn at H1 H2
 have qk : ((kn : Int) == (kn : Int)) = true := by simp
 clear h5 h6 h7 h8 h1 h2 h3 h4 hk hgl hsl hwv hwp RV ht
 go_upto_region 16 with fail
 refine wp_region_held_drew (S := fun W => W.cell? ⟨ob, 1, none⟩ = some (.int .i64 vl) ∧ W.cell? ⟨ob, 2, none⟩ = some (.int .i64 pt) ∧ W.cell? ⟨ob, 4, none⟩ = some (.string (bstr g)) ∧ W.cell? ⟨ob, 7, none⟩ = some (.int .i64 now)) (by kernel_rfl) (by rw [HZ.out]; exact SK.out _ XZ.out) (fun hHeld => ?_)
 rw [HZ.out] at hHeld ⊢
 clear x0
 refine tkL 0 (v := ?_) rfl (by kernel_rfl) (fun _ _ _ => id) (Or.inl ⟨by rfl, ?_⟩) (by assumption) ?_; rotate_left; (focus (intro wq hSq; have f := HF.out wq hSq; go_simp <;> with_reducible rfl)); simp only [Act.put, pA, pB, pC]
 refine tkL 1 (v := ?_) rfl (by kernel_rfl) (fun _ _ _ => id) (Or.inl ⟨by rfl, ?_⟩) (by assumption) ?_; rotate_left; (focus (intro wq hSq; have f := HF.out wq hSq; go_simp <;> with_reducible rfl)); simp only [Act.put, pA, pB, pC]
 refine tkL 2 (v := ?_) rfl (by kernel_rfl) (fun _ _ _ => id) (Or.inl ⟨by rfl, ?_⟩) (by assumption) ?_; rotate_left; (focus (intro wq hSq; have f := HF.out wq hSq; go_simp <;> with_reducible rfl)); simp only [Act.put, pA, pB, pC]
 refine tkL 4 (v := ?_) rfl (by kernel_rfl) (fun _ _ _ => id) (Or.inl ⟨by rfl, ?_⟩) (by assumption) ?_; rotate_left; (focus (intro wq hSq; have f := HF.out wq hSq; go_simp <;> with_reducible rfl)); simp only [Act.put, pA, pB, pC]
 refine tkL 5 (v := ?_) rfl (by kernel_rfl) (fun _ _ _ => id) (Or.inl ⟨by rfl, ?_⟩) (by assumption) ?_; rotate_left; (focus (intro wq hSq; have f := HF.out wq hSq; go_simp <;> with_reducible rfl)); simp only [Act.put, pA, pB, pC]
 refine tkL 6 (v := ?_) rfl (by kernel_rfl) (fun _ _ _ => id) (Or.inl ⟨by rfl, ?_⟩) (by assumption) ?_; rotate_left; (focus (intro wq hSq; have f := HF.out wq hSq; go_simp <;> with_reducible rfl)); simp only [Act.put, pA, pB, pC]
 refine wpAnyH_ready (rs := [3]) (by kernel_rfl) (by simp) (nextL 3 rfl (fun Kr hKr => ?_) AllReadyH.nil)
 rw [if_pos (by rfl)]
 go_simp
 refine H1.out.mono ?_
 rintro e w1 ⟨rfl, ⟨n', hn', htb⟩, hmt⟩
 have ck := Lib.hid (T0.out.ckeep hmt)
 have T1 := Lib.hid (And.intro hn' htb); have M1 := Lib.hid hmt; have X1 := Lib.hid (ck.out.box XZ.out)
 refine hKr.out _ _ (SK.out _ X1.out) (fun _ => ?_)
 clear hKr htb hmt H1 hn'
 refine wpAnyH_ready (rs := [7]) (by kernel_rfl) (by simp) (nextL 7 rfl (fun Kr hKr => ?_) AllReadyH.nil)
 rw [if_pos (by rfl)]
 go_simp
 refine (H2.out _ (K0.out.keep ck.out)).mono ?_
 rintro e w2 ⟨Q', rfl, hk2, hq2, ht2⟩
 have K2 := Lib.hid (And.intro hk2 ht2); have Q2 := Lib.hid hq2
 refine hKr.out _ _ (SK.out _ (X1.out.rturn ht2 (by decide) (by decide) (by decide))) (fun _ => ?_)
 clear hKr hk2 ht2 H2 hq2
 refine tkL 8 (v := ?_) rfl (by kernel_rfl) (fun _ _ _ => id) (Or.inl ⟨by rfl, ?_⟩) (by assumption) ?_; rotate_left; (focus (intro wq hSq; go_simp <;> with_reducible rfl)); simp only [Act.put, pA, pB, pC]
 refine tkL 9 (v := ?_) rfl (by kernel_rfl) (fun _ _ _ => id) (Or.inl ⟨by rfl, ?_⟩) (by assumption) ?_; rotate_left; (focus (intro wq hSq; go_simp <;> with_reducible rfl)); simp only [Act.put, pA, pB, pC]
 refine wpAnyH_done (by kernel_rfl) ?_ _
 clear hHeld
 go_wp2_with fail
 go_ret
 have hm1 := M1.out.below HZS.out HBB.out.1 HBB.out.2.1
 have hB2 := HBZ.out.trans (hm1.trans (K2.out.2.low.mono HBB.out.2.2.1))
 refine ⟨rfl, ⟨n', m, _, O, Q', S, ?_, ?_, ?_, ?_, T1.out.2.rturn K2.out.2, K2.out.1, by rw [Q2.out]; exact H7.out, H8.out, H9.out⟩, hB2⟩
 · have := HKK.out; have := T1.out.1; omega
 · have := HKK.out; omega
 · have := HKK.out; have := HLL.out; rw [← Q2.out, List.length_map, List.length_map] at this; omega
 · have := HKK.out; omega

set_option maxHeartbeats 8000000 in
theorem step_5n (p b o q B B0 : Nat) (room M L : Int) (k : Nat) (x : TOp) (xv : Value) (w : World) (h : Sc w p b o q B room M L k) (hx : x.Ok w xv) (hk : k ≤ 1000) (hB : B0 ≤ b ∧ B0 ≤ o ∧ B0 ≤ B ∧ B0 ≤ w.heap.size) (hf : fitsT room M L) (hd : x.d = 5) (ht : timeT x.now = false) :
 Calls Tryz.prog 7 #[.pointer (some ⟨p, 0, none⟩), .pointer (some ⟨q, 0, none⟩), .agg (x.cells xv).toArray] w (RetSc w p b o q B B0 room M L k) := by
 have hxs := hx.strs
 obtain ⟨so, sc, rfl⟩ := hxs.shape
 obtain ⟨d, vl, pt, kind, g, C, src, now⟩ := x
 obtain ⟨_, hgl, hsl, _, hwv, hwp, _, _⟩ := hx
 dsimp only at ht
 dsimp only at hd hxs hgl hsl hwv hwp ⊢
 subst hd
 show Calls _ _ #[.pointer (some ⟨p, 0, none⟩), .pointer (some ⟨q, 0, none⟩), .agg #[.int .i64 5, .int .i64 vl, .int .i64 pt, .int .i64 kind, .string (bstr g), .slice so C.length sc, .string (bstr src), .int .i64 now]] w _
 obtain ⟨W0, hW0⟩ : ∃ W0, w.alloc (.cells #[.int .i64 5, .int .i64 vl, .int .i64 pt, .int .i64 kind, .string (bstr g), .slice so C.length sc, .string (bstr src), .int .i64 now] 41) = W0 := ⟨_, rfl⟩
 obtain ⟨ob, hob⟩ : ∃ b, w.heap.size = b := ⟨_, rfl⟩
 have hb0 : Below w.heap.size w W0 := by rw [← hW0]; exact (Below.refl _ _).alloc (Nat.le_refl _) _
 have XO := Lib.hid (show CBox W0 ob 41 #[.int .i64 5, .int .i64 vl, .int .i64 pt, .int .i64 kind, .string (bstr g), .slice so C.length sc, .string (bstr src), .int .i64 now] from by rw [← hW0]; exact CBox.new _ hob.symm)
 have HB := Lib.hid (hb0.mono hB.2.2.2)
 have RV := Lib.hid (hxs.mono hb0)
 have HBB := Lib.hid (show B0 ≤ b ∧ B0 ≤ o ∧ B0 ≤ B ∧ B0 ≤ W0.heap.size from ⟨hB.1, hB.2.1, hB.2.2.1, Nat.le_trans hB.2.2.2 hb0.size⟩)
 have HF0 := Lib.hid hf; have HBW := Lib.hid hB.2.2.2
 obtain ⟨n, m, F, O, Q, S, h1, h2, h3, h4, h5, h6, h7, h8, h9⟩ := h.below hb0
 have HOKT := Lib.hid (show okT (vl, g, pt) from ⟨hwv, hgl, hwp⟩)
 have H9 := Lib.hid h9
 have HW0 := Lib.hid hW0; have HOB := Lib.hid hob
 clear hW0 hob hb0 h hxs hB hf h9
 go_enter Tryz.func7, Tryz.ntmps7
 go_upto_region 1 with fail
 rw [HW0.out, HOB.out]
 clear HW0 HOB
 obtain ⟨Z, hZ⟩ : ∃ W, W0.drew = W := ⟨_, rfl⟩
 have hbz : Below W0.heap.size W0 Z := by rw [← hZ]; exact Below.drew (Below.refl _ _)
 have XZ := Lib.hid (XO.out.below hbz XO.out.lt); have HZ := Lib.hid hZ
 have h5 := h5.mono hbz; have h6 := h6.below hbz
 have HBZ := Lib.hid (HB.out.trans (hbz.mono HBB.out.2.2.2)); have HZS := Lib.hid (Nat.le_trans HBB.out.2.2.2 hbz.size)
 obtain ⟨x0, _⟩ := XO.out.at_ 0 _ rfl
 have SK := Lib.hid (show ∀ W, CBox W ob 41 #[.int .i64 5, .int .i64 vl, .int .i64 pt, .int .i64 kind, .string (bstr g), .slice so C.length sc, .string (bstr src), .int .i64 now] → W.cell? ⟨ob, 1, none⟩ = some (.int .i64 vl) ∧ W.cell? ⟨ob, 2, none⟩ = some (.int .i64 pt) ∧ W.cell? ⟨ob, 4, none⟩ = some (.string (bstr g)) ∧ W.cell? ⟨ob, 7, none⟩ = some (.int .i64 now) from fun W hX => ⟨(hX.at_ 1 _ rfl).1, (hX.at_ 2 _ rfl).1, (hX.at_ 4 _ rfl).1, (hX.at_ 7 _ rfl).1⟩)
 have HF := Lib.hid (fun (W : World) (h : W.cell? ⟨ob, 1, none⟩ = some (.int .i64 vl) ∧ W.cell? ⟨ob, 2, none⟩ = some (.int .i64 pt) ∧ W.cell? ⟨ob, 4, none⟩ = some (.string (bstr g)) ∧ W.cell? ⟨ob, 7, none⟩ = some (.int .i64 now)) => h)
 clear hZ hbz
 have H1 := Lib.hid (expireT_bad p now Z ht)
 have H2 := Lib.hid (fun W K1 => rexpT_bad ⟨q, 0, none⟩ now W ht B q room M L Q S rfl K1 (by omega))
 have K0 := Lib.hid h6
 have HSC := Lib.hid (show Sc Z p b o q B room M L (k + 1) from ⟨n, m, F, O, Q, S, by omega, by omega, by omega, by omega, h5, h6, h7, h8, H9.out⟩)
 clear h5 h6 h7 h8 h1 h2 h3 h4 hk hgl hsl hwv hwp RV ht
 go_upto_region 16 with fail
 refine wp_region_held_drew (S := fun W => W.cell? ⟨ob, 1, none⟩ = some (.int .i64 vl) ∧ W.cell? ⟨ob, 2, none⟩ = some (.int .i64 pt) ∧ W.cell? ⟨ob, 4, none⟩ = some (.string (bstr g)) ∧ W.cell? ⟨ob, 7, none⟩ = some (.int .i64 now)) (by kernel_rfl) (by rw [HZ.out]; exact SK.out _ XZ.out) (fun hHeld => ?_)
 rw [HZ.out] at hHeld ⊢
 clear x0
 refine tkL 0 (v := ?_) rfl (by kernel_rfl) (fun _ _ _ => id) (Or.inl ⟨by rfl, ?_⟩) (by assumption) ?_; rotate_left; (focus (intro wq hSq; have f := HF.out wq hSq; go_simp <;> with_reducible rfl)); simp only [Act.put, pA, pB, pC]
 refine tkL 1 (v := ?_) rfl (by kernel_rfl) (fun _ _ _ => id) (Or.inl ⟨by rfl, ?_⟩) (by assumption) ?_; rotate_left; (focus (intro wq hSq; have f := HF.out wq hSq; go_simp <;> with_reducible rfl)); simp only [Act.put, pA, pB, pC]
 refine tkL 2 (v := ?_) rfl (by kernel_rfl) (fun _ _ _ => id) (Or.inl ⟨by rfl, ?_⟩) (by assumption) ?_; rotate_left; (focus (intro wq hSq; have f := HF.out wq hSq; go_simp <;> with_reducible rfl)); simp only [Act.put, pA, pB, pC]
 refine tkL 4 (v := ?_) rfl (by kernel_rfl) (fun _ _ _ => id) (Or.inl ⟨by rfl, ?_⟩) (by assumption) ?_; rotate_left; (focus (intro wq hSq; have f := HF.out wq hSq; go_simp <;> with_reducible rfl)); simp only [Act.put, pA, pB, pC]
 refine tkL 5 (v := ?_) rfl (by kernel_rfl) (fun _ _ _ => id) (Or.inl ⟨by rfl, ?_⟩) (by assumption) ?_; rotate_left; (focus (intro wq hSq; have f := HF.out wq hSq; go_simp <;> with_reducible rfl)); simp only [Act.put, pA, pB, pC]
 refine tkL 6 (v := ?_) rfl (by kernel_rfl) (fun _ _ _ => id) (Or.inl ⟨by rfl, ?_⟩) (by assumption) ?_; rotate_left; (focus (intro wq hSq; have f := HF.out wq hSq; go_simp <;> with_reducible rfl)); simp only [Act.put, pA, pB, pC]
 refine wpAnyH_ready (rs := [3]) (by kernel_rfl) (by simp) (nextL 3 rfl (fun Kr hKr => ?_) AllReadyH.nil)
 rw [if_pos (by rfl)]
 go_simp
 refine H1.out.mono ?_
 rintro e w1 ⟨rfl, hb1⟩
 have B1 := Lib.hid hb1
 refine hKr.out _ _ (SK.out _ (XZ.out.below hb1 XZ.out.lt)) (fun _ => ?_)
 clear hKr hb1 H1
 refine wpAnyH_ready (rs := [7]) (by kernel_rfl) (by simp) (nextL 7 rfl (fun Kr hKr => ?_) AllReadyH.nil)
 rw [if_pos (by rfl)]
 go_simp
 refine (H2.out _ (K0.out.below B1.out)).mono ?_
 rintro e w2 ⟨rfl, hw2⟩
 subst w2
 refine hKr.out _ _ (SK.out _ (XZ.out.below B1.out XZ.out.lt)) (fun _ => ?_)
 clear hKr H2
 refine tkL 8 (v := ?_) rfl (by kernel_rfl) (fun _ _ _ => id) (Or.inl ⟨by rfl, ?_⟩) (by assumption) ?_; rotate_left; (focus (intro wq hSq; go_simp <;> with_reducible rfl)); simp only [Act.put, pA, pB, pC]
 refine tkL 9 (v := ?_) rfl (by kernel_rfl) (fun _ _ _ => id) (Or.inl ⟨by rfl, ?_⟩) (by assumption) ?_; rotate_left; (focus (intro wq hSq; go_simp <;> with_reducible rfl)); simp only [Act.put, pA, pB, pC]
 refine wpAnyH_done (by kernel_rfl) ?_ _
 clear hHeld
 go_wp2_with fail
 go_ret
 exact ⟨rfl, HSC.out.below B1.out, HBZ.out.trans (B1.out.mono HZS.out)⟩
end Go.Proofs.YtpibmjkbebkilaaGreat
