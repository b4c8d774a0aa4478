/- Texts joined into one file: UCut, UPut, UNs. -/
import Derived.Test.YtpibmjkbebkilaaGreatW28
import Derived.Test.YtpibmjkbebkilaaGreatW22

namespace Go.Proofs.YtpibmjkbebkilaaGreat
open Go.RowKit Go.Lib Go.Maps Go.Sort
set_option maxRecDepth 20000
set_option maxRecDepth 20000

theorem infoRow18 : (Tryz.prog.info? 73).map (fun i => (i.zero, i.size, i.bytes)) = some (some (.agg #[.int .i64 0, .string ⟨#[]⟩, .int .i64 0, .bool false, .int .i64 0, .slice none 0 0]), 6, 72) := by kernel_rfl
theorem infoSince : (Tryz.prog.info? 98).map (fun i => (i.zero, i.size, i.bytes)) = some (some (.agg #[.int .i64 0, .int .i64 0]), 2, 16) := by kernel_rfl

theorem own_slice {w : World} {base n size : Nat} {e : TypeId} {v : Value} {xs : List Value} (h : w.ownsRow base e size v n xs) : ∃ ao c, v = .slice ao n c := by
 rcases h.2 with ⟨rfl, rfl⟩ | ⟨g, cap, cur, rfl, _⟩
 · exact ⟨_, _, rfl⟩
 · exact ⟨_, _, rfl⟩
theorem own_base {w : World} {base base' size n : Nat} {e : TypeId} {v : Value} {xs : List Value} (h : w.ownsRow base e size v n xs) (hb : base' ≤ base) : w.ownsRow base' e size v n xs := by
 rcases h.2 with ⟨rfl, h0⟩ | ⟨g, cap, cur, rfl, hg, hr⟩
 · exact ⟨h.1, .inl ⟨rfl, h0⟩⟩
 · exact ⟨h.1, .inr ⟨g, cap, cur, rfl, Nat.le_trans hb hg, hr⟩⟩
section
variable {w w2 : World} {B q : Nat} {room M L : Int} {v u v2 : Value} {Q Q2 : List QRow18} {S : List (Int × Int)}
theorem tbox_turn {a : Nat} (h : CBox w q 35 #[.int .i64 room, .int .i64 M, .int .i64 L, v, u]) (hB : B ≤ q) (hv : ∃ o n c, v = .slice o n c) (hu : ∃ o n c, u = .slice o n c) (ha : a = 3 ∨ a = 4) (x : Value) : RTurn B w (w.setCell ⟨q, a, none⟩ x) := by
 obtain ⟨o1, n1, c1, rfl⟩ := hv
 obtain ⟨o2, n2, c2, rfl⟩ := hu
 refine RTurn.store (show w.heap[q]? = some _ from h) hB (.inr (.inr rfl)) (fun s => ?_) (fun o s n ho hs => ?_) x
 · rcases ha with rfl | rfl <;> simp
 · rcases ha with rfl | rfl <;> simp
theorem Kt.stored (h1 : CBox w q 35 #[.int .i64 room, .int .i64 M, .int .i64 L, v, u]) (hB : B ≤ q) (hrows : w.ownsRow B 73 6 v Q.length (Q.flatMap rcell)) (hS : w.ownsRow B 98 2 u S.length (S.flatMap scell)) (hN : NoStr w u)
 (hb : Below w.heap.size w w2) (hown : w2.ownsRow w.heap.size 73 6 v2 Q2.length (Q2.flatMap rcell)) (hq : ∀ x ∈ Q2, okQ w2 x) :
 Kt (w2.setCell ⟨q, 3, none⟩ v2) B q room M L Q2 S ∧ RTurn B w (w2.setCell ⟨q, 3, none⟩ v2) := by
 have hp := h1.lt
 have hBw : B ≤ w.heap.size := by omega
 have h2 := h1.below hb hp
 obtain ⟨o1, c1, e1⟩ := own_slice hrows
 obtain ⟨o2, c2, e2⟩ := own_slice hS
 have ht : RTurn B w2 (w2.setCell ⟨q, 3, none⟩ v2) := tbox_turn h2 hB ⟨_, _, _, e1⟩ ⟨_, _, _, e2⟩ (.inl rfl) v2
 have hk : ∀ g, u.ownBlock = some g → (w2.setCell ⟨q, 3, none⟩ v2).heap[g]? = w.heap[g]? := fun g hg => by
  obtain ⟨_, cur, e, _⟩ := own_type hS hg
  have hgq : g ≠ q := fun k => by
   subst k
   have h' : w.heap[g]? = some _ := h1
   rw [h'] at e
   injection e with e
   injection e with _ e _
   cases e
  rw [Below.heap_setCell _ _ _ g hgq, hb.block g (Array.getElem?_eq_some_iff.1 e).1]
 exact ⟨⟨v2, u, by simpa using h2.set 3 v2, hB, own_base (ownsRow_setCell_below hown (by show q < w.heap.size; exact hp) v2) hBw, fun x hx => (hq x hx).rturn ht, own_keep hS hk, hN.same hk⟩, (RTurn.of_below hb hBw).trans ht⟩
end

theorem erase_flat18 (Q : List QRow18) (i : Nat) : (Q.take i).flatMap rcell ++ (Q.drop (i + 1)).flatMap rcell = (Q.eraseIdx i).flatMap rcell := by rw [List.eraseIdx_eq_take_drop_succ, List.flatMap_append]
theorem erase_len18 (Q : List QRow18) (i : Nat) (hi : i < Q.length) : i + (Q.length - (i + 1)) = (Q.eraseIdx i).length := by rw [List.length_eraseIdx, if_pos hi]; omega

def RetTurn (w : World) (B q : Nat) (room M L : Int) (Q : List QRow18) (S : List (Int × Int)) (e : Ending) (w' : World) : Prop := e = .returned (.tuple #[]) ∧ Kt w' B q room M L Q S ∧ RTurn B w w'

set_option maxHeartbeats 4000000 in
theorem rcut_any (B q i : Nat) (room M L : Int) (Q : List QRow18) (S : List (Int × Int)) (w : World) (h : Kt w B q room M L Q S) (hi : i < Q.length) (hQ : Q.length ≤ 1000000) :
 Calls Tryz.prog 40 #[.pointer (some ⟨q, 0, none⟩), .int .i64 (i : Int)] w (RetTurn w B q room M L (Q.eraseIdx i) S) := by
 obtain ⟨i0, hi0, hz0, hz1, hz2⟩ := info_parts infoRow18
 obtain ⟨v, u, hbox, hB, hrows, hok, hS, hNS⟩ := h
 have hT := Tryz.underlying32
 have hz : ∀ w : World, (Go.sizeOf 73).run Tryz.prog w = .ok 6 w := fun w => by kernel_rfl
 obtain ⟨u1, _, s1, _, sl1, _⟩ := gcuts hT hz rcell_len hrows (fun x hx => (hok x hx).one) i (by omega)
 obtain ⟨_, u2, _, s2, _, sl2⟩ := gcuts hT hz rcell_len hrows (fun x hx => (hok x hx).one) (i + 1) (by omega)
 have s2' : ∀ w', (Instr.slice 32 v (some (.int .i64 ((i : Int) + 1))) none none).run Tryz.prog w' = .ok u2 w' := fun w' => by have := s2 w'; rwa [Int.natCast_succ] at this
 obtain ⟨x3, xf3⟩ := hbox.at_ 3 _ rfl
 have HBX := Lib.hid hbox; have HR := Lib.hid hrows; have HOK := Lib.hid hok; have HSS := Lib.hid hS; have HNS := Lib.hid hNS; have HBq := Lib.hid hB
 have HS1 := Lib.hid (sl1 w (Below.refl _ _)); have HS2 := Lib.hid sl2
 have HN := Lib.hid (show i ≤ 1000000 ∧ Q.length - (i + 1) ≤ 1000000 from by omega)
 have hp := hbox.lt
 clear hbox hrows hok hS hNS hB s2 sl1 sl2 hz hT
 go_enter Tryz.func40, Tryz.ntmps40
 go_wp2_with (first
  | (at_builtin; refine wpList_append_vals _ rfl _ _ 32 rfl w.heap.size 73 i0 _ 6 72 Tryz.underlying32 hi0 hz0 hz1 hz2 rfl (by decide) (.slice none 0 0) 0 [] rfl (World.ownsRow_nil _ _ _ _) u1 i ((Q.take i).flatMap rcell) rfl HS1.out (by have := HN.out; unfold maxLen; omega) (by have := HN.out; omega) (Nat.le_refl _) ?_; intro v1 w1 hown1 hg1 _; have hb1 : Below w.heap.size w w1 := (Below.refl _ _).grown hg1 (Nat.le_refl _) (fun b e => by simp [Value.ownBlock] at e); have x31 := (hb1.cell (p := ⟨q, 3, none⟩) hp).trans x3; rw [Nat.zero_add, List.nil_append] at hown1; have H1 := Lib.hid (And.intro hown1 hb1); clear hown1 hg1 hb1)
  | (at_builtin; refine wpList_append_vals _ rfl _ _ 32 rfl w.heap.size 73 i0 _ 6 72 Tryz.underlying32 hi0 hz0 hz1 hz2 rfl (by decide) v1 i ((Q.take i).flatMap rcell) rfl H1.out.1 u2 (Q.length - (i + 1)) ((Q.drop (i + 1)).flatMap rcell) rfl (HS2.out _ H1.out.2) (by have := HN.out; unfold maxLen; omega) (by have := HN.out; omega) H1.out.2.size ?_; intro v2 w2 hown2 hg2 _; have hb2 : Below w.heap.size w w2 := H1.out.2.grown hg2 H1.out.2.size (fun b e => (H1.out.1.lt b e).1); have x32 := (hb2.cell (p := ⟨q, 3, none⟩) hp).trans x3; have xf32 := (hb2.frozen (p := ⟨q, 3, none⟩) hp).trans xf3; obtain ⟨o2, c2, rfl⟩ := own_form hown2; have H2 := Lib.hid (And.intro hown2 hb2); clear hown2 hg2 hb2))
 go_end0
 have hown : w2.ownsRow w.heap.size 73 6 (.slice o2 (i + (Q.length - (i + 1))) c2) (Q.eraseIdx i).length ((Q.eraseIdx i).flatMap rcell) := by
  rw [← erase_len18 Q i hi, ← erase_flat18]
  exact H2.out.1
 obtain ⟨k1, k2⟩ := Kt.stored HBX.out HBq.out HR.out HSS.out HNS.out H2.out.2 hown (fun x hx => (HOK.out x ((List.eraseIdx_sublist Q i).subset hx)).keep (CKeep.of_below H2.out.2))
 exact ⟨rfl, k1, k2⟩

def putQ (Q : List QRow18) (x : QRow18) (k : Nat) : List QRow18 := Q.take k ++ x :: Q.drop k
theorem put_flat (Q : List QRow18) (x : QRow18) (k : Nat) : ((Q.take k).flatMap rcell ++ rcell x) ++ (Q.drop k).flatMap rcell = (putQ Q x k).flatMap rcell := by
 unfold putQ
 rw [List.flatMap_append, List.flatMap_cons, List.append_assoc]
theorem put_len (Q : List QRow18) (x : QRow18) (k : Nat) (hk : k ≤ Q.length) : k + 1 + (Q.length - k) = (putQ Q x k).length := by
 unfold putQ
 rw [List.length_append, List.length_cons, List.length_take, List.length_drop, Nat.min_eq_left hk]
 omega

set_option maxHeartbeats 16000000 in
theorem rput_any (B q : Nat) (room M L : Int) (Q : List QRow18) (S : List (Int × Int)) (xv xp : Int) (xg : Str) (xe : Bool) (xa : Int) (xl : List Tmd) (uo : Option Addr) (un uc : Nat) (w : World) (h : Kt w B q room M L Q S) (hx : okQ w (((xv, xg, xp), xe, xa, xl), .slice uo un uc)) (hQ : Q.length ≤ 1000000) :
 Calls Tryz.prog 41 #[.pointer (some ⟨q, 0, none⟩), .agg #[.int .i64 xv, .string (bstr xg), .int .i64 xp, .bool xe, .int .i64 xa, .slice uo un uc]] w (RetTurn w B q room M L (putQ Q (((xv, xg, xp), xe, xa, xl), .slice uo un uc) (cntT (Q.map Prod.fst) (xv, xg, xp))) S) := by
 obtain ⟨i0, hi0, hz0, hz1, hz2⟩ := info_parts infoRow18
 obtain ⟨W0, hW0⟩ : ∃ W0, w.alloc (.cells #[.int .i64 xv, .string (bstr xg), .int .i64 xp, .bool xe, .int .i64 xa, .slice uo un uc] 73) = W0 := ⟨_, rfl⟩
 obtain ⟨rb, hrb⟩ : ∃ rb, w.heap.size = rb := ⟨_, rfl⟩
 have hb0 : Below w.heap.size w W0 := by rw [← hW0]; exact (Below.refl _ _).alloc (Nat.le_refl _) _
 have HX := Lib.hid (show CBox W0 rb 73 #[.int .i64 xv, .string (bstr xg), .int .i64 xp, .bool xe, .int .i64 xa, .slice uo un uc] from by rw [← hW0]; exact CBox.new _ hrb.symm)
 have HW0 := Lib.hid hW0; have HRB := Lib.hid hrb; have HB0 := Lib.hid hb0
 have HOX := Lib.hid (hx.keep (CKeep.of_below hb0))
 obtain ⟨v, u, hboxw, hB, hrowsw, hokw, hSw, hNw⟩ := h
 have HBXW := Lib.hid hboxw; have HRW := Lib.hid hrowsw; have HSW := Lib.hid hSw; have HNW := Lib.hid hNw; have HBq := Lib.hid hB
 have HBX := Lib.hid (hboxw.below hb0 hboxw.lt)
 have hrows := own_keep hrowsw (w' := W0) fun g hg => by obtain ⟨_, cur, e, _⟩ := own_type hrowsw hg; exact hb0.block g (Array.getElem?_eq_some_iff.1 e).1
 have HOK := Lib.hid (fun y (hy : y ∈ Q) => (hokw y hy).keep (CKeep.of_below hb0))
 obtain ⟨gb, hlen, hidx, hc, hg⟩ := rfacts hrows
 have HR := Lib.hid hrows; have HC := Lib.hid hc; have HIX := Lib.hid hidx; have HG := Lib.hid hg
 have HCUT := Lib.hid (fun j (hj : j ≤ Q.length) => gcuts Tryz.underlying32 (fun w => by kernel_rfl) rcell_len hrows (fun y hy => (HOK.out y hy).one) j hj)
 have HQ := Lib.hid hQ
 clear hx hboxw hB hrowsw hokw hSw hNw hrows hidx hc hg hb0 hW0 hrb hQ
 go_enter Tryz.func41, Tryz.ntmps41
 go_upto_region 1 with fail
 rw [HRB.out, HW0.out]
 go_wp2_with fail
 go_loopw [4] (fun k wr => ∃ j : Nat, j ≤ Q.length ∧ k = .int .i64 j ∧ Below W0.heap.size W0 wr ∧ ∀ m, (hm : m < Q.length) → m < j → tlt Q[m].1.1 (xv, xg, xp) = true) (fun k _ => Q.length - (intOf k).toNat)
 case atStart => exact ⟨0, Nat.zero_le _, rfl, Below.refl _ _, fun m hm hj => absurd hj (by omega)⟩
 case round =>
  obtain ⟨j, hj, rfl, hbr, hno⟩ := hrel
  have HNO := Lib.hid hno; have HBR := Lib.hid hbr
  clear hno hbr
  by_cases hlt : j < Q.length
  · have d1 : decide ((j : Int) < (Q.length : Int)) = true := decide_eq_true (by omega)
    have d1' : decide (j < Q.length) = true := decide_eq_true hlt
    obtain ⟨⟨⟨⟨rv, rg, rp⟩, re, ra, rl⟩, ru⟩, hst⟩ : ∃ y : QRow18, y = Q[j] := ⟨_, rfl⟩
    have hp := HIX.out j hlt
    have HF := Lib.hid (fun wq (hq : Below W0.heap.size W0 wq) => by
     obtain ⟨c0, c1, c2, c3, c4, c5⟩ := HC.out j hlt
     rw [← hst] at c0 c1 c2 c3 c4 c5
     have hgl := (HG.out j hlt).2.1
     have hx := HX.out.below hq HX.out.lt
     exact And.intro ((HBX.out.below hq HBX.out.lt).at_ 3 _ rfl).1 (And.intro ((hq.cell (p := ⟨gb, j * 6, none⟩) hgl).trans c0) (And.intro ((hq.cell (p := ⟨gb, j * 6 + 1, none⟩) hgl).trans c1) (And.intro ((hq.cell (p := ⟨gb, j * 6 + 2, none⟩) hgl).trans c2) (And.intro ((hq.cell (p := ⟨gb, j * 6 + 3, none⟩) hgl).trans c3) (And.intro ((hq.cell (p := ⟨gb, j * 6 + 4, none⟩) hgl).trans c4) (And.intro ((hq.cell (p := ⟨gb, j * 6 + 5, none⟩) hgl).trans c5)
      (And.intro (hx.at_ 0 _ rfl).1 (And.intro (hx.at_ 1 _ rfl).1 (And.intro (hx.at_ 2 _ rfl).1 (And.intro (hx.at_ 3 _ rfl).1 (And.intro (hx.at_ 4 _ rfl).1 (hx.at_ 5 _ rfl).1))))))))))))
    have HAH := Lib.hid (fun W => show Calls Tryz.prog 67 #[.agg #[.int .i64 rv, .string (bstr rg), .int .i64 rp, .bool re, .int .i64 ra, ru], .agg #[.int .i64 xv, .string (bstr xg), .int .i64 xp, .bool xe, .int .i64 xa, .slice uo un uc]] W _ from ahead_any (((rv, rg, rp), re, ra, rl), ru) (((xv, xg, xp), xe, xa, xl), .slice uo un uc) W)
    have HST := Lib.hid (show Q[j].1.1 = (rv, rg, rp) from by rw [← hst])
    clear hst
    obtain ⟨t, ht⟩ : ∃ t, tlt (rv, rg, rp) (xv, xg, xp) = t := ⟨_, rfl⟩
    dsimp only at HAH
    rw [ht] at HAH
    cases t
    · have HCN := Lib.hid (show cntT (Q.map Prod.fst) (xv, xg, xp) = j from cntT_eq (by simpa using hj) (fun i hi => by rw [List.getElem_map]; exact HNO.out i (by omega) hi) (.inr ⟨by simpa using hlt, by rw [List.getElem_map, HST.out]; exact ht⟩))
      clear ht HST HNO
      go_upto_region 2 with fail
      refine wp_region_held_drew (S := fun W' => Below W0.heap.size W0 W') (by kernel_rfl) (Below.drew HBR.out) (fun hHeld => ?_)
      refine tkL 0 (v := ?_) rfl (by kernel_rfl) (fun _ _ _ => id) (Or.inl ⟨by rfl, ?_⟩) (by assumption) ?_; rotate_left; (focus (intro wq hSq; have f := HF.out wq hSq; go_simp <;> with_reducible rfl)); simp only [Act.put, pA, pB, pC]
      refine tkL 1 (v := ?_) rfl (by kernel_rfl) (fun _ _ _ => id) (Or.inl ⟨by rfl, ?_⟩) (by assumption) ?_; rotate_left; (focus (intro wq hSq; have f := HF.out wq hSq; go_simp <;> with_reducible rfl)); simp only [Act.put, pA, pB, pC]
      refine tkL 2 (v := ?_) rfl (by kernel_rfl) (fun _ _ _ => id) (Or.inl ⟨by rfl, ?_⟩) (by assumption) ?_; rotate_left; (focus (intro wq hSq; have f := HF.out wq hSq; go_simp <;> with_reducible rfl)); simp only [Act.put, pA, pB, pC]
      refine tkL 3 (v := ?_) rfl (by kernel_rfl) (fun _ _ _ => id) (Or.inl ⟨by rfl, ?_⟩) (by assumption) ?_; rotate_left; (focus (intro wq hSq; have f := HF.out wq hSq; go_simp <;> with_reducible rfl)); simp only [Act.put, pA, pB, pC]
      refine tkL 4 (v := ?_) rfl (by kernel_rfl) (fun _ _ _ => id) (Or.inl ⟨by rfl, ?_⟩) (by assumption) ?_; rotate_left; (focus (intro wq hSq; have f := HF.out wq hSq; go_simp <;> with_reducible rfl)); simp only [Act.put, pA, pB, pC]
      refine tkL 5 (v := ?_) rfl (by kernel_rfl) (fun _ _ _ => id) (Or.inl ⟨by rfl, ?_⟩) (by assumption) ?_; rotate_left; (focus (intro wq hSq; have f := HF.out wq hSq; go_simp <;> with_reducible rfl)); simp only [Act.put, pA, pB, pC]
      refine tkL 6 (v := ?_) rfl (by kernel_rfl) (fun _ _ _ => id) (Or.inl ⟨by rfl, ?_⟩) (by assumption) ?_; rotate_left; (focus (intro wq hSq; have f := HF.out wq hSq; go_simp <;> with_reducible rfl)); simp only [Act.put, pA, pB, pC]
      refine tkL 7 (v := ?_) rfl (by kernel_rfl) (fun _ _ _ => id) (Or.inl ⟨by rfl, ?_⟩) (by assumption) ?_; rotate_left; (focus (intro wq hSq; have f := HF.out wq hSq; go_simp <;> with_reducible rfl)); simp only [Act.put, pA, pB, pC]
      refine tkL 8 (v := ?_) rfl (by kernel_rfl) (fun _ _ _ => id) (Or.inl ⟨by rfl, ?_⟩) (by assumption) ?_; rotate_left; (focus (intro wq hSq; have f := HF.out wq hSq; go_simp <;> with_reducible rfl)); simp only [Act.put, pA, pB, pC]
      refine tkL 9 (v := ?_) rfl (by kernel_rfl) (fun _ _ _ => id) (Or.inl ⟨by rfl, ?_⟩) (by assumption) ?_; rotate_left; (focus (intro wq hSq; have f := HF.out wq hSq; go_simp <;> with_reducible rfl)); simp only [Act.put, pA, pB, pC]
      refine tkL 10 (v := ?_) rfl (by kernel_rfl) (fun _ _ _ => id) (Or.inl ⟨by rfl, ?_⟩) (by assumption) ?_; rotate_left; (focus (intro wq hSq; have f := HF.out wq hSq; go_simp <;> with_reducible rfl)); simp only [Act.put, pA, pB, pC]
      refine tkL 11 (v := ?_) rfl (by kernel_rfl) (fun _ _ _ => id) (Or.inl ⟨by rfl, ?_⟩) (by assumption) ?_; rotate_left; (focus (intro wq hSq; have f := HF.out wq hSq; go_simp <;> with_reducible rfl)); simp only [Act.put, pA, pB, pC]
      refine tkL 12 (v := ?_) rfl (by kernel_rfl) (fun _ _ _ => id) (Or.inl ⟨by rfl, ?_⟩) (by assumption) ?_; rotate_left; (focus (intro wq hSq; have f := HF.out wq hSq; go_simp <;> with_reducible rfl)); simp only [Act.put, pA, pB, pC]
      refine tkL 13 (v := ?_) rfl (by kernel_rfl) (fun _ _ _ => id) (Or.inl ⟨by rfl, ?_⟩) (by assumption) ?_; rotate_left; (focus (intro wq hSq; have f := HF.out wq hSq; go_simp <;> with_reducible rfl)); simp only [Act.put, pA, pB, pC]
      refine tkL 14 (v := ?_) rfl (by kernel_rfl) (fun _ _ _ => id) (Or.inl ⟨by rfl, ?_⟩) (by assumption) ?_; rotate_left; (focus (intro wq hSq; have f := HF.out wq hSq; go_simp <;> with_reducible rfl)); simp only [Act.put, pA, pB, pC]
      refine tkL 15 (v := ?_) rfl (by kernel_rfl) (fun _ _ _ => id) (Or.inl ⟨by rfl, ?_⟩) (by assumption) ?_; rotate_left; (focus (intro wq hSq; have f := HF.out wq hSq; go_simp <;> with_reducible rfl)); simp only [Act.put, pA, pB, pC]
      refine wpAnyH_ready (rs := [16]) (by kernel_rfl) (by simp) (nextL 16 rfl (fun Kr hKr => ?_) AllReadyH.nil)
      rw [if_pos (by rfl)]
      go_simp
      refine (HAH.out _).mono ?_
      rintro e w2 ⟨rfl, hb2⟩
      refine hKr.out _ _ (hHeld.trans (hb2.mono hHeld.size)) (fun hHeld2 => ?_)
      clear hKr
      refine tkL 17 (v := ?_) rfl (by kernel_rfl) (fun _ _ _ => id) (Or.inl ⟨by rfl, ?_⟩) (by assumption) ?_; rotate_left; (focus (intro wq hSq; go_simp <;> with_reducible rfl)); simp only [Act.put, pA, pB, pC]
      refine wpAnyH_done (by kernel_rfl) ?_ _
      have HB2 := Lib.hid hHeld2
      clear hHeld hHeld2 hb2 hp HF
      clear d1 d1'
      have HBR := HB2
      have HBr := Lib.hid (HB0.out.trans (HBR.out.mono HB0.out.size))
      have hbx := HBX.out.below HBR.out HBX.out.lt
      have hrw := own_keep HR.out (w' := w2) fun g hg => by obtain ⟨_, cur, e, _⟩ := own_type HR.out hg; exact HBR.out.block g (Array.getElem?_eq_some_iff.1 e).1
      have HBX2 := Lib.hid hbx; have HRW2 := Lib.hid hrw
      have HN2 := Lib.hid (HNW.out.same (w' := w2) fun g hg => by obtain ⟨_, cur, e, _⟩ := own_type HSW.out hg; exact HBr.out.block g (Array.getElem?_eq_some_iff.1 e).1)
      have HS2 := Lib.hid (own_keep HSW.out (w' := w2) fun g hg => by obtain ⟨_, cur, e, _⟩ := own_type HSW.out hg; exact HBr.out.block g (Array.getElem?_eq_some_iff.1 e).1)
      obtain ⟨u1, u2, s1, s2, sl1, sl2⟩ := HCUT.out j hj
      have HC1 := Lib.hid (sl1 w2 HBR.out); have HC2 := Lib.hid sl2
      have hp10 := hbx.lt
      have x10 := (hbx.at_ 3 _ rfl).1; have xf10 := (hbx.at_ 3 _ rfl).2
      have hxr := HX.out.below HBR.out HX.out.lt
      have HXR := Lib.hid hxr
      obtain ⟨z0, zf0⟩ := hxr.at_ 0 _ rfl; obtain ⟨z1, zf1⟩ := hxr.at_ 1 _ rfl; obtain ⟨z2, zf2⟩ := hxr.at_ 2 _ rfl; obtain ⟨z3, zf3⟩ := hxr.at_ 3 _ rfl; obtain ⟨z4, zf4⟩ := hxr.at_ 4 _ rfl; obtain ⟨z5, zf5⟩ := hxr.at_ 5 _ rfl
      have HN := Lib.hid (show j ≤ 1000000 ∧ Q.length - j ≤ 1000000 from by have := HQ.out; omega)
      clear hbx hrw sl1 sl2 hxr hlen
      go_wp2_with (first
       | (at_builtin; refine wpList_append_vals _ rfl _ _ 32 rfl w2.heap.size 73 i0 _ 6 72 Tryz.underlying32 hi0 hz0 hz1 hz2 rfl (by decide) (.slice none 0 0) 0 [] rfl (World.ownsRow_nil _ _ _ _) u1 j ((Q.take j).flatMap rcell) rfl HC1.out (by have := HN.out; unfold maxLen; omega) (by have := HN.out; omega) (Nat.le_refl _) ?_; intro v1 w11 hown1 hg1 _; have hb1 : Below w2.heap.size w2 w11 := (Below.refl _ _).grown hg1 (Nat.le_refl _) (fun b e => by simp [Value.ownBlock] at e); rw [Nat.zero_add, List.nil_append] at hown1; clear z0 zf0 z1 zf1 z2 zf2 z3 zf3 z4 zf4 z5 zf5; have X11 := Lib.hid (HXR.out.below hb1 HXR.out.lt); obtain ⟨z0, zf0⟩ := X11.out.at_ 0 _ rfl; obtain ⟨z1, zf1⟩ := X11.out.at_ 1 _ rfl; obtain ⟨z2, zf2⟩ := X11.out.at_ 2 _ rfl; obtain ⟨z3, zf3⟩ := X11.out.at_ 3 _ rfl; obtain ⟨z4, zf4⟩ := X11.out.at_ 4 _ rfl; obtain ⟨z5, zf5⟩ := X11.out.at_ 5 _ rfl; have T1 := Lib.hid (hown1.alloc (.cells #[.int .i64 xv, .string (bstr xg), .int .i64 xp, .bool xe, .int .i64 xa, .slice uo un uc] 73)); have T2 := Lib.hid (sliceOf_block (size := 6) (m := 1) (c := 1) (heap_new w11 (.cells #[.int .i64 xv, .string (bstr xg), .int .i64 xp, .bool xe, .int .i64 xa, .slice uo un uc] 73) _ rfl) rfl (by simp [Value.oneCell'])); have T3 := Lib.hid (show w2.heap.size ≤ (w11.alloc (.cells #[.int .i64 xv, .string (bstr xg), .int .i64 xp, .bool xe, .int .i64 xa, .slice uo un uc] 73)).heap.size from by have := hb1.size; rw [World.size_alloc]; omega); have H1 := Lib.hid hb1; clear hown1 hg1 hb1)
       | (at_builtin; refine wpList_append_vals _ rfl _ _ 32 rfl w2.heap.size 73 i0 _ 6 72 Tryz.underlying32 hi0 hz0 hz1 hz2 rfl (by decide) v1 j ((Q.take j).flatMap rcell) rfl T1.out (.slice (some ⟨w11.heap.size, 0, none⟩) 1 1) 1 [.int .i64 xv, .string (bstr xg), .int .i64 xp, .bool xe, .int .i64 xa, .slice uo un uc] rfl T2.out (by have := HN.out; unfold maxLen; omega) (by have := HN.out; omega) T3.out ?_; intro v2 w12 hown2 hg2 _; have hb2 : Below w2.heap.size w2 w12 := (H1.out.alloc H1.out.size _).grown hg2 T3.out (fun b e => (T1.out.lt b e).1); have x12 := (hb2.cell (p := ⟨q, 3, none⟩) hp10).trans x10; have H2 := Lib.hid (And.intro hown2 hb2); clear hown2 hg2 hb2 z0 zf0 z1 zf1 z2 zf2 z3 zf3 z4 zf4 z5 zf5)
       | (at_builtin; refine wpList_append_vals _ rfl _ _ 32 rfl w2.heap.size 73 i0 _ 6 72 Tryz.underlying32 hi0 hz0 hz1 hz2 rfl (by decide) v2 (j + 1) ((Q.take j).flatMap rcell ++ [.int .i64 xv, .string (bstr xg), .int .i64 xp, .bool xe, .int .i64 xa, .slice uo un uc]) rfl H2.out.1 u2 (Q.length - j) ((Q.drop j).flatMap rcell) rfl (HC2.out _ (HBR.out.trans (H2.out.2.mono HBR.out.size))) (by have := HN.out; unfold maxLen; omega) (by have := HN.out; omega) H2.out.2.size ?_; intro v3 w13 hown3 hg3 _; have hb3 : Below w2.heap.size w2 w13 := H2.out.2.grown hg3 H2.out.2.size (fun b e => (H2.out.1.lt b e).1); have x13 := (hb3.cell (p := ⟨q, 3, none⟩) hp10).trans x10; have xf13 := (hb3.frozen (p := ⟨q, 3, none⟩) hp10).trans xf10; obtain ⟨o3, c3, rfl⟩ := own_form hown3; have H3 := Lib.hid (And.intro hown3 hb3); clear hown3 hg3 hb3))
      go_end0
      have hown : w13.ownsRow w2.heap.size 73 6 (.slice o3 (j + 1 + (Q.length - j)) c3) (putQ Q (((xv, xg, xp), xe, xa, xl), .slice uo un uc) j).length ((putQ Q (((xv, xg, xp), xe, xa, xl), .slice uo un uc) j).flatMap rcell) := by
       rw [← put_len Q _ j hj, ← put_flat]
       exact H3.out.1
      have hkb := CKeep.of_below (HBR.out.trans (H3.out.2.mono HBR.out.size))
      obtain ⟨k1, k2⟩ := Kt.stored HBX2.out HBq.out HRW2.out HS2.out HN2.out H3.out.2 hown (fun y hy => by
       unfold putQ at hy
       rcases List.mem_append.1 hy with hy | hy
       · exact (HOK.out y (List.mem_of_mem_take hy)).keep hkb
       · rcases List.mem_cons.1 hy with rfl | hy
         · exact HOX.out.keep hkb
         · exact (HOK.out y (List.mem_of_mem_drop hy)).keep hkb)
      rw [HCN.out]
      exact ⟨rfl, k1, (RTurn.of_below HBr.out (Nat.le_trans HBq.out (Nat.le_of_lt HBXW.out.lt))).trans k2⟩
    · have HNN := Lib.hid (show ∀ m, (hm : m < Q.length) → m < j + 1 → tlt Q[m].1.1 (xv, xg, xp) = true from fun m hm hmj => by
       rcases Nat.lt_or_ge m j with hh | hh
       · exact HNO.out m hm hh
       · obtain rfl : m = j := by omega
         rw [HST.out]; exact ht)
      clear ht HST HNO
      go_upto_region 2 with fail
      refine wp_region_held_drew (S := fun W' => Below W0.heap.size W0 W') (by kernel_rfl) (Below.drew HBR.out) (fun hHeld => ?_)
      refine tkL 0 (v := ?_) rfl (by kernel_rfl) (fun _ _ _ => id) (Or.inl ⟨by rfl, ?_⟩) (by assumption) ?_; rotate_left; (focus (intro wq hSq; have f := HF.out wq hSq; go_simp <;> with_reducible rfl)); simp only [Act.put, pA, pB, pC]
      refine tkL 1 (v := ?_) rfl (by kernel_rfl) (fun _ _ _ => id) (Or.inl ⟨by rfl, ?_⟩) (by assumption) ?_; rotate_left; (focus (intro wq hSq; have f := HF.out wq hSq; go_simp <;> with_reducible rfl)); simp only [Act.put, pA, pB, pC]
      refine tkL 2 (v := ?_) rfl (by kernel_rfl) (fun _ _ _ => id) (Or.inl ⟨by rfl, ?_⟩) (by assumption) ?_; rotate_left; (focus (intro wq hSq; have f := HF.out wq hSq; go_simp <;> with_reducible rfl)); simp only [Act.put, pA, pB, pC]
      refine tkL 3 (v := ?_) rfl (by kernel_rfl) (fun _ _ _ => id) (Or.inl ⟨by rfl, ?_⟩) (by assumption) ?_; rotate_left; (focus (intro wq hSq; have f := HF.out wq hSq; go_simp <;> with_reducible rfl)); simp only [Act.put, pA, pB, pC]
      refine tkL 4 (v := ?_) rfl (by kernel_rfl) (fun _ _ _ => id) (Or.inl ⟨by rfl, ?_⟩) (by assumption) ?_; rotate_left; (focus (intro wq hSq; have f := HF.out wq hSq; go_simp <;> with_reducible rfl)); simp only [Act.put, pA, pB, pC]
      refine tkL 5 (v := ?_) rfl (by kernel_rfl) (fun _ _ _ => id) (Or.inl ⟨by rfl, ?_⟩) (by assumption) ?_; rotate_left; (focus (intro wq hSq; have f := HF.out wq hSq; go_simp <;> with_reducible rfl)); simp only [Act.put, pA, pB, pC]
      refine tkL 6 (v := ?_) rfl (by kernel_rfl) (fun _ _ _ => id) (Or.inl ⟨by rfl, ?_⟩) (by assumption) ?_; rotate_left; (focus (intro wq hSq; have f := HF.out wq hSq; go_simp <;> with_reducible rfl)); simp only [Act.put, pA, pB, pC]
      refine tkL 7 (v := ?_) rfl (by kernel_rfl) (fun _ _ _ => id) (Or.inl ⟨by rfl, ?_⟩) (by assumption) ?_; rotate_left; (focus (intro wq hSq; have f := HF.out wq hSq; go_simp <;> with_reducible rfl)); simp only [Act.put, pA, pB, pC]
      refine tkL 8 (v := ?_) rfl (by kernel_rfl) (fun _ _ _ => id) (Or.inl ⟨by rfl, ?_⟩) (by assumption) ?_; rotate_left; (focus (intro wq hSq; have f := HF.out wq hSq; go_simp <;> with_reducible rfl)); simp only [Act.put, pA, pB, pC]
      refine tkL 9 (v := ?_) rfl (by kernel_rfl) (fun _ _ _ => id) (Or.inl ⟨by rfl, ?_⟩) (by assumption) ?_; rotate_left; (focus (intro wq hSq; have f := HF.out wq hSq; go_simp <;> with_reducible rfl)); simp only [Act.put, pA, pB, pC]
      refine tkL 10 (v := ?_) rfl (by kernel_rfl) (fun _ _ _ => id) (Or.inl ⟨by rfl, ?_⟩) (by assumption) ?_; rotate_left; (focus (intro wq hSq; have f := HF.out wq hSq; go_simp <;> with_reducible rfl)); simp only [Act.put, pA, pB, pC]
      refine tkL 11 (v := ?_) rfl (by kernel_rfl) (fun _ _ _ => id) (Or.inl ⟨by rfl, ?_⟩) (by assumption) ?_; rotate_left; (focus (intro wq hSq; have f := HF.out wq hSq; go_simp <;> with_reducible rfl)); simp only [Act.put, pA, pB, pC]
      refine tkL 12 (v := ?_) rfl (by kernel_rfl) (fun _ _ _ => id) (Or.inl ⟨by rfl, ?_⟩) (by assumption) ?_; rotate_left; (focus (intro wq hSq; have f := HF.out wq hSq; go_simp <;> with_reducible rfl)); simp only [Act.put, pA, pB, pC]
      refine tkL 13 (v := ?_) rfl (by kernel_rfl) (fun _ _ _ => id) (Or.inl ⟨by rfl, ?_⟩) (by assumption) ?_; rotate_left; (focus (intro wq hSq; have f := HF.out wq hSq; go_simp <;> with_reducible rfl)); simp only [Act.put, pA, pB, pC]
      refine tkL 14 (v := ?_) rfl (by kernel_rfl) (fun _ _ _ => id) (Or.inl ⟨by rfl, ?_⟩) (by assumption) ?_; rotate_left; (focus (intro wq hSq; have f := HF.out wq hSq; go_simp <;> with_reducible rfl)); simp only [Act.put, pA, pB, pC]
      refine tkL 15 (v := ?_) rfl (by kernel_rfl) (fun _ _ _ => id) (Or.inl ⟨by rfl, ?_⟩) (by assumption) ?_; rotate_left; (focus (intro wq hSq; have f := HF.out wq hSq; go_simp <;> with_reducible rfl)); simp only [Act.put, pA, pB, pC]
      refine wpAnyH_ready (rs := [16]) (by kernel_rfl) (by simp) (nextL 16 rfl (fun Kr hKr => ?_) AllReadyH.nil)
      rw [if_pos (by rfl)]
      go_simp
      refine (HAH.out _).mono ?_
      rintro e w2 ⟨rfl, hb2⟩
      refine hKr.out _ _ (hHeld.trans (hb2.mono hHeld.size)) (fun hHeld2 => ?_)
      clear hKr
      refine tkL 17 (v := ?_) rfl (by kernel_rfl) (fun _ _ _ => id) (Or.inl ⟨by rfl, ?_⟩) (by assumption) ?_; rotate_left; (focus (intro wq hSq; go_simp <;> with_reducible rfl)); simp only [Act.put, pA, pB, pC]
      refine wpAnyH_done (by kernel_rfl) ?_ _
      have HB2 := Lib.hid hHeld2
      clear hHeld hHeld2 hb2 hp HF
      have hQl := HQ.out
      go_wp2_with fail
      go_roundw
      case rel => exact ⟨j + 1, by omega, by go_num, HB2.out, HNN.out⟩
      case measure => simp [intOf]; omega
  · have hjQ : j = Q.length := by omega
    have HCN := Lib.hid (show cntT (Q.map Prod.fst) (xv, xg, xp) = j from cntT_eq (by simpa using hj) (fun i hi => by rw [List.getElem_map]; exact HNO.out i (by omega) hi) (.inl (by simpa using hjQ)))
    have HF := Lib.hid (fun wq (hq : Below W0.heap.size W0 wq) => ((HBX.out.below hq HBX.out.lt).at_ 3 _ rfl).1)
    have d1 : decide ((j : Int) < (Q.length : Int)) = false := decide_eq_false (by omega)
    have d1' : decide (j < Q.length) = false := decide_eq_false hlt
    clear hlt HNO hjQ
    go_upto_region 2 with fail
    refine wp_region_held_drew (S := fun W' => Below W0.heap.size W0 W') (by kernel_rfl) (Below.drew HBR.out) (fun hHeld => ?_)
    refine tkL 0 (v := ?_) rfl (by kernel_rfl) (fun _ _ _ => id) (Or.inl ⟨by rfl, ?_⟩) (by assumption) ?_; rotate_left; (focus (intro wq hSq; have f0 := HF.out wq hSq; go_simp <;> with_reducible rfl)); simp only [Act.put, pA, pB, pC]
    refine tkL 1 (v := ?_) rfl (by kernel_rfl) (fun _ _ _ => id) (Or.inl ⟨by rfl, ?_⟩) (by assumption) ?_; rotate_left; (focus (intro wq hSq; have f0 := HF.out wq hSq; go_simp <;> with_reducible rfl)); simp only [Act.put, pA, pB, pC]
    refine tkL 2 (v := ?_) rfl (by kernel_rfl) (fun _ _ _ => id) (Or.inl ⟨by rfl, ?_⟩) (by assumption) ?_; rotate_left; (focus (intro wq hSq; have f0 := HF.out wq hSq; go_simp <;> with_reducible rfl)); simp only [Act.put, pA, pB, pC]
    refine tkL 3 (v := ?_) rfl (by kernel_rfl) (fun _ _ _ => id) (Or.inl ⟨by rfl, ?_⟩) (by assumption) ?_; rotate_left; (focus (intro wq hSq; have f0 := HF.out wq hSq; go_simp <;> with_reducible rfl)); simp only [Act.put, pA, pB, pC]
    refine tkL 4 (v := ?_) rfl (by kernel_rfl) (fun _ _ _ => id) (Or.inl ⟨by rfl, ?_⟩) (by assumption) ?_; rotate_left; (focus (intro wq hSq; have f0 := HF.out wq hSq; go_simp <;> with_reducible rfl)); simp only [Act.put, pA, pB, pC]
    refine tkL 5 (v := ?_) rfl (by kernel_rfl) (fun _ _ _ => id) (Or.inl ⟨by rfl, ?_⟩) (by assumption) ?_; rotate_left; (focus (intro wq hSq; have f0 := HF.out wq hSq; go_simp <;> with_reducible rfl)); simp only [Act.put, pA, pB, pC]
    refine tkL 6 (v := ?_) rfl (by kernel_rfl) (fun _ _ _ => id) (Or.inl ⟨by rfl, ?_⟩) (by assumption) ?_; rotate_left; (focus (intro wq hSq; have f0 := HF.out wq hSq; go_simp <;> with_reducible rfl)); simp only [Act.put, pA, pB, pC]
    refine tkL 7 (v := ?_) rfl (by kernel_rfl) (fun _ _ _ => id) (Or.inl ⟨by rfl, ?_⟩) (by assumption) ?_; rotate_left; (focus (intro wq hSq; have f0 := HF.out wq hSq; go_simp <;> with_reducible rfl)); simp only [Act.put, pA, pB, pC]
    refine tkL 8 (v := undef) rfl (by kernel_rfl) (fun _ _ _ h => h) (Or.inr ⟨by rfl, rfl⟩) (by assumption) ?_; simp only [Act.put, pA, pB, pC]
    refine tkL 9 (v := undef) rfl (by kernel_rfl) (fun _ _ _ h => h) (Or.inr ⟨by rfl, rfl⟩) (by assumption) ?_; simp only [Act.put, pA, pB, pC]
    refine tkL 10 (v := undef) rfl (by kernel_rfl) (fun _ _ _ h => h) (Or.inr ⟨by rfl, rfl⟩) (by assumption) ?_; simp only [Act.put, pA, pB, pC]
    refine tkL 11 (v := undef) rfl (by kernel_rfl) (fun _ _ _ h => h) (Or.inr ⟨by rfl, rfl⟩) (by assumption) ?_; simp only [Act.put, pA, pB, pC]
    refine tkL 12 (v := undef) rfl (by kernel_rfl) (fun _ _ _ h => h) (Or.inr ⟨by rfl, rfl⟩) (by assumption) ?_; simp only [Act.put, pA, pB, pC]
    refine tkL 13 (v := undef) rfl (by kernel_rfl) (fun _ _ _ h => h) (Or.inr ⟨by rfl, rfl⟩) (by assumption) ?_; simp only [Act.put, pA, pB, pC]
    refine tkL 14 (v := undef) rfl (by kernel_rfl) (fun _ _ _ h => h) (Or.inr ⟨by rfl, rfl⟩) (by assumption) ?_; simp only [Act.put, pA, pB, pC]
    refine tkL 15 (v := undef) rfl (by kernel_rfl) (fun _ _ _ h => h) (Or.inr ⟨by rfl, rfl⟩) (by assumption) ?_; simp only [Act.put, pA, pB, pC]
    refine tkL 16 (v := undef) rfl (by kernel_rfl) (fun _ _ _ h => h) (Or.inr ⟨by rfl, rfl⟩) (by assumption) ?_; simp only [Act.put, pA, pB, pC]
    refine tkL 17 (v := ?_) rfl (by kernel_rfl) (fun _ _ _ => id) (Or.inl ⟨by rfl, ?_⟩) (by assumption) ?_; rotate_left; (focus (intro wq hSq; have f0 := HF.out wq hSq; go_simp <;> with_reducible rfl)); simp only [Act.put, pA, pB, pC]
    refine wpAnyH_done (by kernel_rfl) ?_ _
    clear HBR
    have HBR := Lib.hid hHeld; clear d1 d1'
    clear hHeld HF
    obtain ⟨w2, hw2⟩ : ∃ x, wr.drew = x := ⟨_, rfl⟩
    rw [hw2] at HBR ⊢
    clear hw2
    have HBr := Lib.hid (HB0.out.trans (HBR.out.mono HB0.out.size))
    have hbx := HBX.out.below HBR.out HBX.out.lt
    have hrw := own_keep HR.out (w' := w2) fun g hg => by obtain ⟨_, cur, e, _⟩ := own_type HR.out hg; exact HBR.out.block g (Array.getElem?_eq_some_iff.1 e).1
    have HBX2 := Lib.hid hbx; have HRW2 := Lib.hid hrw
    have HN2 := Lib.hid (HNW.out.same (w' := w2) fun g hg => by obtain ⟨_, cur, e, _⟩ := own_type HSW.out hg; exact HBr.out.block g (Array.getElem?_eq_some_iff.1 e).1)
    have HS2 := Lib.hid (own_keep HSW.out (w' := w2) fun g hg => by obtain ⟨_, cur, e, _⟩ := own_type HSW.out hg; exact HBr.out.block g (Array.getElem?_eq_some_iff.1 e).1)
    obtain ⟨u1, u2, s1, s2, sl1, sl2⟩ := HCUT.out j hj
    have HC1 := Lib.hid (sl1 w2 HBR.out); have HC2 := Lib.hid sl2
    have hp10 := hbx.lt
    have x10 := (hbx.at_ 3 _ rfl).1; have xf10 := (hbx.at_ 3 _ rfl).2
    have hxr := HX.out.below HBR.out HX.out.lt
    have HXR := Lib.hid hxr
    obtain ⟨z0, zf0⟩ := hxr.at_ 0 _ rfl; obtain ⟨z1, zf1⟩ := hxr.at_ 1 _ rfl; obtain ⟨z2, zf2⟩ := hxr.at_ 2 _ rfl; obtain ⟨z3, zf3⟩ := hxr.at_ 3 _ rfl; obtain ⟨z4, zf4⟩ := hxr.at_ 4 _ rfl; obtain ⟨z5, zf5⟩ := hxr.at_ 5 _ rfl
    have HN := Lib.hid (show j ≤ 1000000 ∧ Q.length - j ≤ 1000000 from by have := HQ.out; omega)
    clear hbx hrw sl1 sl2 hxr hlen
    go_wp2_with (first
     | (at_builtin; refine wpList_append_vals _ rfl _ _ 32 rfl w2.heap.size 73 i0 _ 6 72 Tryz.underlying32 hi0 hz0 hz1 hz2 rfl (by decide) (.slice none 0 0) 0 [] rfl (World.ownsRow_nil _ _ _ _) u1 j ((Q.take j).flatMap rcell) rfl HC1.out (by have := HN.out; unfold maxLen; omega) (by have := HN.out; omega) (Nat.le_refl _) ?_; intro v1 w11 hown1 hg1 _; have hb1 : Below w2.heap.size w2 w11 := (Below.refl _ _).grown hg1 (Nat.le_refl _) (fun b e => by simp [Value.ownBlock] at e); rw [Nat.zero_add, List.nil_append] at hown1; clear z0 zf0 z1 zf1 z2 zf2 z3 zf3 z4 zf4 z5 zf5; have X11 := Lib.hid (HXR.out.below hb1 HXR.out.lt); obtain ⟨z0, zf0⟩ := X11.out.at_ 0 _ rfl; obtain ⟨z1, zf1⟩ := X11.out.at_ 1 _ rfl; obtain ⟨z2, zf2⟩ := X11.out.at_ 2 _ rfl; obtain ⟨z3, zf3⟩ := X11.out.at_ 3 _ rfl; obtain ⟨z4, zf4⟩ := X11.out.at_ 4 _ rfl; obtain ⟨z5, zf5⟩ := X11.out.at_ 5 _ rfl; have T1 := Lib.hid (hown1.alloc (.cells #[.int .i64 xv, .string (bstr xg), .int .i64 xp, .bool xe, .int .i64 xa, .slice uo un uc] 73)); have T2 := Lib.hid (sliceOf_block (size := 6) (m := 1) (c := 1) (heap_new w11 (.cells #[.int .i64 xv, .string (bstr xg), .int .i64 xp, .bool xe, .int .i64 xa, .slice uo un uc] 73) _ rfl) rfl (by simp [Value.oneCell'])); have T3 := Lib.hid (show w2.heap.size ≤ (w11.alloc (.cells #[.int .i64 xv, .string (bstr xg), .int .i64 xp, .bool xe, .int .i64 xa, .slice uo un uc] 73)).heap.size from by have := hb1.size; rw [World.size_alloc]; omega); have H1 := Lib.hid hb1; clear hown1 hg1 hb1)
     | (at_builtin; refine wpList_append_vals _ rfl _ _ 32 rfl w2.heap.size 73 i0 _ 6 72 Tryz.underlying32 hi0 hz0 hz1 hz2 rfl (by decide) v1 j ((Q.take j).flatMap rcell) rfl T1.out (.slice (some ⟨w11.heap.size, 0, none⟩) 1 1) 1 [.int .i64 xv, .string (bstr xg), .int .i64 xp, .bool xe, .int .i64 xa, .slice uo un uc] rfl T2.out (by have := HN.out; unfold maxLen; omega) (by have := HN.out; omega) T3.out ?_; intro v2 w12 hown2 hg2 _; have hb2 : Below w2.heap.size w2 w12 := (H1.out.alloc H1.out.size _).grown hg2 T3.out (fun b e => (T1.out.lt b e).1); have x12 := (hb2.cell (p := ⟨q, 3, none⟩) hp10).trans x10; have H2 := Lib.hid (And.intro hown2 hb2); clear hown2 hg2 hb2 z0 zf0 z1 zf1 z2 zf2 z3 zf3 z4 zf4 z5 zf5)
     | (at_builtin; refine wpList_append_vals _ rfl _ _ 32 rfl w2.heap.size 73 i0 _ 6 72 Tryz.underlying32 hi0 hz0 hz1 hz2 rfl (by decide) v2 (j + 1) ((Q.take j).flatMap rcell ++ [.int .i64 xv, .string (bstr xg), .int .i64 xp, .bool xe, .int .i64 xa, .slice uo un uc]) rfl H2.out.1 u2 (Q.length - j) ((Q.drop j).flatMap rcell) rfl (HC2.out _ (HBR.out.trans (H2.out.2.mono HBR.out.size))) (by have := HN.out; unfold maxLen; omega) (by have := HN.out; omega) H2.out.2.size ?_; intro v3 w13 hown3 hg3 _; have hb3 : Below w2.heap.size w2 w13 := H2.out.2.grown hg3 H2.out.2.size (fun b e => (H2.out.1.lt b e).1); have x13 := (hb3.cell (p := ⟨q, 3, none⟩) hp10).trans x10; have xf13 := (hb3.frozen (p := ⟨q, 3, none⟩) hp10).trans xf10; obtain ⟨o3, c3, rfl⟩ := own_form hown3; have H3 := Lib.hid (And.intro hown3 hb3); clear hown3 hg3 hb3))
    go_end0
    have hown : w13.ownsRow w2.heap.size 73 6 (.slice o3 (j + 1 + (Q.length - j)) c3) (putQ Q (((xv, xg, xp), xe, xa, xl), .slice uo un uc) j).length ((putQ Q (((xv, xg, xp), xe, xa, xl), .slice uo un uc) j).flatMap rcell) := by
     rw [← put_len Q _ j hj, ← put_flat]
     exact H3.out.1
    have hkb := CKeep.of_below (HBR.out.trans (H3.out.2.mono HBR.out.size))
    obtain ⟨k1, k2⟩ := Kt.stored HBX2.out HBq.out HRW2.out HS2.out HN2.out H3.out.2 hown (fun y hy => by
     unfold putQ at hy
     rcases List.mem_append.1 hy with hy | hy
     · exact (HOK.out y (List.mem_of_mem_take hy)).keep hkb
     · rcases List.mem_cons.1 hy with rfl | hy
       · exact HOX.out.keep hkb
       · exact (HOK.out y (List.mem_of_mem_drop hy)).keep hkb)
    rw [HCN.out]
    exact ⟨rfl, k1, (RTurn.of_below HBr.out (Nat.le_trans HBq.out (Nat.le_of_lt HBXW.out.lt))).trans k2⟩

theorem zero_none {z : Array Value} (hz : ∀ x ∈ z.toList, ∀ s, x ≠ Value.string s) (n i : Nat) (s : ByteArray) : (Builtin.zeroCells z n)[i]? ≠ some (.string s) := by
 intro h
 unfold Builtin.zeroCells at h
 rw [Array.getElem?_map] at h
 cases hr : (Array.range (n * z.size))[i]? with
 | none => rw [hr] at h; cases h
 | some j =>
   rw [hr] at h
   have hj := (Array.getElem?_eq_some_iff.1 hr)
   obtain ⟨hi, hj⟩ := hj
   simp only [Array.size_range] at hi
   have h0 : 0 < z.size := by
    rcases Nat.eq_zero_or_pos z.size with q | q
    · rw [q, Nat.mul_zero] at hi; omega
    · exact q
   have hlt : j % z.size < z.size := Nat.mod_lt _ h0
   simp only [Option.map_some, Option.some.injEq] at h
   rw [getElem!_pos z (j % z.size) hlt] at h
   exact hz _ (by simp) s h
theorem run_append_ns {P : Program} (w : World) (base : Nat) (t ty e : TypeId) (i : TypeInfo) (z : Value) (size bytes : Nat) (ht : P.underlying t = some (.slice e)) (hi : P.info? e = some i) (hz : i.zero = some z)
 (hsize : i.size = size) (hby : i.bytes = bytes) (hzs : z.cells.size = size) (hsz : 0 < size) (v : Value) (n : Nat) (xs : List Value) (hown : w.ownsRow base e size v n xs)
 (u : Value) (m : Nat) (news : List Value) (hu : SliceOf w size u m news) (h63 : n + m ≤ maxLen) (hbytes : (n + m) * bytes ≤ 140737488355328) (hbase : base ≤ w.heap.size)
 (h0 : 0 < m) (hns : NoStr w v) (hx : ∀ x ∈ xs, ∀ s, x ≠ Value.string s) (hn : ∀ x ∈ news, ∀ s, x ≠ Value.string s) (hzn : ∀ x ∈ z.cells.toList, ∀ s, x ≠ Value.string s) :
 ∃ v' w', (Builtin.append_ #[t, t] ty #[v, u]).run P w = .ok v' w' ∧ w'.ownsRow base e size v' (n + m) (xs ++ news) ∧ w.grownBy w' v.ownBlock ∧ NoStr w' v' := by
 obtain ⟨v', w', hrun, h2, h3, _⟩ := run_append_vals (P := P) w base t ty e i z size bytes ht hi hz hsize hby hzs hsz v n xs hown u m news hu h63 hbytes hbase
 refine ⟨v', w', hrun, h2, h3, ?_⟩
 obtain ⟨A, c, rfl, hl, h1, hc⟩ := hu
 rcases hc with hc | ⟨ad, rfl, hc⟩
 · omega
 subst hsize
 subst hby
 have hmx : maxLen = 9223372036854775807 := rfl
 have key : ∀ (a : List Value) (k : Nat), (∀ x ∈ a, ∀ s, x ≠ Value.string s) → ∀ (j : Nat) s, (a.toArray ++ news.toArray ++ Builtin.zeroCells z.cells k)[j]? ≠ some (Value.string s) := fun a k ha j s h => by
  rw [Array.getElem?_append] at h
  split at h
  · rw [Array.getElem?_append] at h
    split at h
    · have := Array.mem_of_getElem? h
      exact ha _ (by simpa using this) s rfl
    · have := Array.mem_of_getElem? h
      exact hn _ (by simpa using this) s rfl
  · exact zero_none hzn k _ s h
 rcases hown.2 with ⟨rfl, rfl⟩ | ⟨g, cap, cur, rfl, hbg, hg, hnc, hcm, hcs, htake⟩
 · have hr := run_append_nil (P := P) w t ty e i z ht hi hz ad m c news hl hc h0 (by omega) (by have hb := hbytes; simp only [Nat.zero_add] at hb; omega)
   rw [hrun] at hr
   injection hr with e1 e2
   subst e1 e2
   intro g cs T fr hg hgc j s
   have hg : w.heap.size = g := by simpa [Value.ownBlock] using hg
   subst hg
   rw [show w.heap.size = w.drew.heap.size from rfl, heap_alloc_new w.drew _] at hgc
   injection hgc with hgc
   injection hgc with hgc _ _
   subst hgc
   have := key [] (grownCap w m 0 e - m) (by simp) j s
   simpa using this
 · by_cases hroom : n + m ≤ cap
   · have hfit : n * i.size + news.length ≤ cur.size := by rw [hl, hcs, ← Nat.add_mul]; exact Nat.mul_le_mul_right _ hroom
     have hr := run_append_room (P := P) w t ty e i ht hi g n cap cur hg ad m c news hl hc h1 hroom hfit
     rw [hrun] at hr
     injection hr with e1 e2
     subst e1 e2
     intro g' cs T fr hg' hgc j s hj
     have hg' : g = g' := by simpa [Value.ownBlock] using hg'
     subst hg'
     rw [setRow_heap w g cur _ e _ hg] at hgc
     injection hgc with hgc
     injection hgc with hgc _ _
     subst hgc
     have hm := Array.mem_of_getElem? hj
     simp only [List.mem_toArray, List.mem_append] at hm
     rcases hm with (hm | hm) | hm
     · exact hx _ (htake ▸ hm) s rfl
     · exact hn _ hm s rfl
     · obtain ⟨k, hk, e'⟩ := List.mem_iff_getElem.1 (List.mem_of_mem_drop hm)
       exact hns g cur e (0, 0) rfl hg k s (by rw [Array.getElem?_eq_getElem (by simpa using hk)]; simpa using e')
   · have holds : ∀ j u, xs[j]? = some u → w.cell? ((⟨g, 0, none⟩ : Addr).add j) = some u := hown.cells (g := g) rfl
     have hr := run_append_grow (P := P) w t ty e i z ht hi hz ⟨g, 0, none⟩ n cap xs hown.1 holds ad m c news hl hc (by omega) (by omega) (growslice_fits (by omega) hbytes)
     rw [hrun] at hr
     injection hr with e1 e2
     subst e1 e2
     intro g' cs T fr hg' hgc j s
     have hg' : w.heap.size = g' := by simpa [Value.ownBlock] using hg'
     subst hg'
     rw [show w.heap.size = w.drew.heap.size from rfl, heap_alloc_new w.drew _] at hgc
     injection hgc with hgc
     injection hgc with hgc _ _
     subst hgc
     exact key xs _ hx j s
theorem wpList_append_ns {P : Program} (w : World) {ops : Array Oper} {rest : List Oper} {o : Oper} {a : Act} {Q : Exit → Act → World → Prop} (hgd : o.guard = none) (s x : Operand) (t : TypeId)
 (ho : o.op = .call { callee := .builtin .append, args := #[s, x], argTypes := #[t, t] })
 (base : Nat) (e : TypeId) (i : TypeInfo) (z : Value) (size bytes : Nat) (ht : P.underlying t = some (.slice e)) (hi : P.info? e = some i) (hz : i.zero = some z)
 (hsize : i.size = size) (hby : i.bytes = bytes) (hzs : z.cells.size = size) (hsz : 0 < size) (v : Value) (n : Nat) (xs : List Value) (hs : a.eval s = v) (hown : w.ownsRow base e size v n xs)
 (u : Value) (m : Nat) (news : List Value) (hx : a.eval x = u) (hu : SliceOf w size u m news) (h63 : n + m ≤ maxLen) (hbytes : (n + m) * bytes ≤ 140737488355328) (hbase : base ≤ w.heap.size)
 (h0 : 0 < m) (hns : NoStr w v) (hxs : ∀ x ∈ xs, ∀ s, x ≠ Value.string s) (hn : ∀ x ∈ news, ∀ s, x ≠ Value.string s) (hzn : ∀ x ∈ z.cells.toList, ∀ s, x ≠ Value.string s)
 (h : ∀ v' w', w'.ownsRow base e size v' (n + m) (xs ++ news) → w.grownBy w' v.ownBlock → NoStr w' v' → wpList P ops Q rest (a.put o.dst v') w') : wpList P ops Q (o :: rest) a w := by
 refine wpList_plain hgd fun _ hK => ?_
 obtain ⟨v', w', hrun, h2, h3, h4⟩ := run_append_ns (P := P) w base t o.type e i z size bytes ht hi hz hsize hby hzs hsz v n xs hown u m news hu h63 hbytes hbase h0 hns hxs hn hzn
 unfold Oper.wp execOp
 simp only [ho, resolve, invoke, builtin, Sem.run_bind, Sem.run_pure, Result.andThen_ok, List.map_toArray, List.map_cons, List.map_nil, hs, hx, hrun]
 exact hK _ _ (h v' w' h2 h3 h4)
end Go.Proofs.YtpibmjkbebkilaaGreat
