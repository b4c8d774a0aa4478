/- Texts joined into one file: TPorts, TKnown, TKeys. -/
import Derived.Test.YtpibmjkbebkilaaGreatW22
import Derived.Test.YtpibmjkbebkilaaGreatW08
import Derived.Shelf.RegionOpen

namespace Go.Proofs.YtpibmjkbebkilaaGreat
open Go.RowKit Go.Lib Go.Maps Go.Sort Go.Shelf
set_option maxRecDepth 20000
attribute [local go_sem] Oper.semAt_some

theorem infoIn : (Tryz.prog.info? 3).map (fun i => (i.zero, i.size, i.bytes)) = some (some (.int .i64 0), 1, 8) := by kernel_rfl

def TRead (w : World) (t : Option Addr) (N : Nat) (F : Tst) (K : List TK) : Prop :=
 KeysS F K ∧ ((t = none ∧ K = [] ∧ N = 0) ∨ ∃ p b o m room M L O, t = some ⟨p, 0, none⟩ ∧ Tb w p b o N m room M L F O)
theorem TRead.mono {w w' : World} {t : Option Addr} {N : Nat} {F : Tst} {K : List TK} (h : TRead w t N F K) (hb : Below w.heap.size w w') : TRead w' t N F K := by
 refine ⟨h.1, ?_⟩
 rcases h.2 with h | ⟨p, b, o, m, room, M, L, O, e, h⟩
 · exact .inl h
 · exact .inr ⟨p, b, o, m, room, M, L, O, e, h.mono hb⟩
theorem TRead.stops {w : World} {t : Option Addr} {N : Nat} {F : Tst} {K : List TK} (h : TRead w t N F K) (hN : N ≤ 1000000) (n Ba B : Nat) (hBa : Ba < w.heap.size) (ha : w.cell? ⟨Ba, 0, none⟩ = some (.pointer t)) (hB : B ≤ w.heap.size) :
 SeqG Fence.wide n Tryz.prog 70 #[.pointer (some ⟨Ba, 0, none⟩)] (fun x : TKo => #[encT x.1]) B (fun ss => ss.map Subtype.val = K) (fun pre => pre.map Subtype.val <+: K) N w := by
 obtain ⟨hK, h⟩ := h
 rcases h with ⟨rfl, rfl, rfl⟩ | ⟨p, b, o, m, room, M, L, O, rfl, h⟩
 · exact tall_stops_nil n Ba 0 B w hBa ha
 · obtain ⟨V, hV, hH⟩ := h.states
   exact tall_stops n Ba p b N B _ _ _ _ V K w hBa ha h.box hV hN (hH.keys hK) hK.1 hB

def padmS (s : Stt) (src : Str) (now : Int) : Bool := padm s.1 s.2.1 s.2.2 now src
def portsS (F : Tst) (src : Str) (now : Int) (l : List TK) : List Int := (l.filter fun x => padmS (oldS F x) src now).map fun x => x.2.2
theorem portsS_yes {F : Tst} {src : Str} {now : Int} (l : List TK) {x : TK} (h : padmS (oldS F x) src now = true) : portsS F src now (l ++ [x]) = portsS F src now l ++ [x.2.2] := by simp [portsS, List.filter_append, h]
theorem portsS_no {F : Tst} {src : Str} {now : Int} (l : List TK) {x : TK} (h : padmS (oldS F x) src now = false) : portsS F src now (l ++ [x]) = portsS F src now l := by simp [portsS, List.filter_append, h]
theorem portsS_len (F : Tst) (src : Str) (now : Int) (l : List TK) : (portsS F src now l).length ≤ l.length := by unfold portsS; rw [List.length_map]; exact List.length_filter_le _ _

def PRow (F : Tst) (src : Str) (now : Int) (b0 B : Nat) (pre : List TKo) (W : World) : Prop := ∃ u, Boxed W B 54 u ∧ W.ownsRow b0 3 1 u (portsS F src now (pre.map Subtype.val)).length ((portsS F src now (pre.map Subtype.val)).map (Value.int .i64)) ∧ True
theorem PRow.own (F : Tst) (src : Str) (now : Int) (b0 B : Nat) : Own (PRow F src now b0 B) := holdsRow_own b0 B 54 3 1 (fun pre : List TKo => (portsS F src now (pre.map Subtype.val)).length) (fun pre : List TKo => (portsS F src now (pre.map Subtype.val)).map (Value.int .i64)) (fun _ _ => True)

def RetI (w : World) (l : List Int) (e : Ending) (w' : World) : Prop := ∃ u, e = .returned u ∧ w'.ownsRow w.heap.size 3 1 u l.length (l.map (Value.int .i64)) ∧ Below w.heap.size w w'

theorem town_base {w : World} {base base' size n : Nat} {e : TypeId} {v : Value} {xs : List Value} (h : w.ownsRow base e size v n xs) (hb : base' ≤ base) : w.ownsRow base' e size v n xs := by
 rcases h.2 with ⟨rfl, h0⟩ | ⟨g, cap, cur, rfl, hg, hr⟩
 · exact ⟨h.1, .inl ⟨rfl, h0⟩⟩
 · exact ⟨h.1, .inr ⟨g, cap, cur, rfl, Nat.le_trans hb hg, hr⟩⟩

set_option maxRecDepth 100000 in
set_option maxHeartbeats 4000000 in
theorem ports_any (t : Option Addr) (N : Nat) (v now : Int) (g src : Str) (F : Tst) (K : List TK) (w : World) (h : TRead w t N F K) (hN : N ≤ 1000000) (hs : src.length ≤ maxLen) :
 Calls Tryz.prog 11 #[.pointer t, .int .i64 v, .string (bstr g), .string (bstr src), .int .i64 now] w (RetI w (portsS F src now (K.filter (inOf v g)))) := by
 obtain ⟨i0, hi, hz0, hz1, hz2⟩ := info_parts infoIn
 have hz : ∀ w, (zeroValue 71).run Tryz.prog w = .ok noState w := fun w => Tryz.zeroValue71 w
 have hmm : maxLen = 9223372036854775807 := rfl
 have HT := Lib.hid h
 have HS := Lib.hid hs
 clear h hs
 refine (callsIn_wide (n := 6)).1 ?_
 refine callsIn_of_wp_marks Tryz.func11 rfl trivial ?_ rfl
 simp only [Tryz.ntmps11, List.size_toArray, List.length_cons, List.length_nil, Nat.reduceAdd, Nat.reduceSub, Array.replicate_succ, Array.replicate_zero, List.push_toArray, List.append_toArray, List.nil_append, List.cons_append]
 gi_wp2_with (refine ⟨trivial, ?_⟩; gi_at_call 32; refine (of_in _ _ _ _ _).mono ?_; rintro e w' ⟨rfl, rfl⟩)
 have hB0 : Below w.heap.size w (((((((w.alloc (.cells #[.pointer t] 25)).alloc (.cells #[.string (bstr src)] 36)).alloc (.cells #[.int .i64 now] 3)).alloc (.cells #[.slice none 0 0] 54)).alloc (.cells #[.pointer t] 25)).alloc (.cells #[.int .i64 v] 3)).alloc (.cells #[.string (bstr g)] 36)) := (((((((Below.refl _ w).alloc (Nat.le_refl _) _).alloc (by simp) _).alloc (by simp <;> omega) _).alloc (by simp <;> omega) _).alloc (by simp <;> omega) _).alloc (by simp <;> omega) _).alloc (by simp <;> omega) _
 have b0 := (((((((CBox.new (w := w) (T := 25) #[.pointer t] rfl).old (.cells #[.string (bstr src)] 36)).old (.cells #[.int .i64 now] 3)).old (.cells #[.slice none 0 0] 54)).old (.cells #[.pointer t] 25)).old (.cells #[.int .i64 v] 3)).old (.cells #[.string (bstr g)] 36))
 have b1 := (((((CBox.new (w := w.alloc (.cells #[.pointer t] 25)) (T := 36) #[.string (bstr src)] rfl).old (.cells #[.int .i64 now] 3)).old (.cells #[.slice none 0 0] 54)).old (.cells #[.pointer t] 25)).old (.cells #[.int .i64 v] 3)).old (.cells #[.string (bstr g)] 36)
 have b2 := ((((CBox.new (w := (w.alloc (.cells #[.pointer t] 25)).alloc (.cells #[.string (bstr src)] 36)) (T := 3) #[.int .i64 now] rfl).old (.cells #[.slice none 0 0] 54)).old (.cells #[.pointer t] 25)).old (.cells #[.int .i64 v] 3)).old (.cells #[.string (bstr g)] 36)
 have b3 := (((CBox.new (w := ((w.alloc (.cells #[.pointer t] 25)).alloc (.cells #[.string (bstr src)] 36)).alloc (.cells #[.int .i64 now] 3)) (T := 54) #[.slice none 0 0] rfl).old (.cells #[.pointer t] 25)).old (.cells #[.int .i64 v] 3)).old (.cells #[.string (bstr g)] 36)
 have b4 := ((CBox.new (w := (((w.alloc (.cells #[.pointer t] 25)).alloc (.cells #[.string (bstr src)] 36)).alloc (.cells #[.int .i64 now] 3)).alloc (.cells #[.slice none 0 0] 54)) (T := 25) #[.pointer t] rfl).old (.cells #[.int .i64 v] 3)).old (.cells #[.string (bstr g)] 36)
 have b5 := (CBox.new (w := ((((w.alloc (.cells #[.pointer t] 25)).alloc (.cells #[.string (bstr src)] 36)).alloc (.cells #[.int .i64 now] 3)).alloc (.cells #[.slice none 0 0] 54)).alloc (.cells #[.pointer t] 25)) (T := 3) #[.int .i64 v] rfl).old (.cells #[.string (bstr g)] 36)
 have b6 := CBox.new (w := (((((w.alloc (.cells #[.pointer t] 25)).alloc (.cells #[.string (bstr src)] 36)).alloc (.cells #[.int .i64 now] 3)).alloc (.cells #[.slice none 0 0] 54)).alloc (.cells #[.pointer t] 25)).alloc (.cells #[.int .i64 v] 3)) (T := 36) #[.string (bstr g)] rfl
 obtain ⟨W0, hW0⟩ : ∃ W0, (((((((w.alloc (.cells #[.pointer t] 25)).alloc (.cells #[.string (bstr src)] 36)).alloc (.cells #[.int .i64 now] 3)).alloc (.cells #[.slice none 0 0] 54)).alloc (.cells #[.pointer t] 25)).alloc (.cells #[.int .i64 v] 3)).alloc (.cells #[.string (bstr g)] 36)) = W0 := ⟨_, rfl⟩
 have hsz : W0.heap.size = w.heap.size + 7 := by rw [← hW0]; simp
 rw [hW0] at hB0 b0 b1 b2 b3 b4 b5 b6 ⊢
 clear hW0
 simp only [World.size_alloc] at b1 b2 b3 b4 b5 b6
 refine wpIn_rangeG (w.heap.size + 1 + 1 + 1 + 1) rfl (fun hd => by cases hd) (gf := 58) (lb := #[.pointer (some ⟨w.heap.size + 1 + 1 + 1 + 1, 0, none⟩), .pointer (some ⟨w.heap.size + 1 + 1 + 1 + 1 + 1, 0, none⟩), .pointer (some ⟨w.heap.size + 1 + 1 + 1 + 1 + 1 + 1, 0, none⟩)]) rfl trivial (enters_of Tryz.func58 (by kernel_rfl) rfl)
  (of_stops _ (w.heap.size + 1 + 1 + 1 + 1) N (w.heap.size + 1 + 1 + 1 + 1) t v g K W0 (by omega) (b4.at_ 0 _ rfl).1 (b5.at_ 0 _ rfl).1 (b6.at_ 0 _ rfl).1 (Nat.le_refl _) (fun n Ba W hb hBa ha => (HT.out.mono (hB0.trans (hb.mono (by omega)))).stops hN n Ba _ hBa ha (by have := hb.size; omega))) (fun _ => rfl)
  (fun H pre W => (PRow F src now H (w.heap.size + 1 + 1 + 1) pre W ∧ CBox W w.heap.size 25 #[.pointer t] ∧ CBox W (w.heap.size + 1) 36 #[.string (bstr src)] ∧ CBox W (w.heap.size + 1 + 1) 3 #[.int .i64 now]) ∧ Below w.heap.size w W)
  (fun _ _ _ _ => False)
  (fun H => OwnFrom.and (OwnFrom.and (Own.from (PRow.own F src now H _) _) (OwnFrom.and (Own.from (fun (_ : List TKo) => tcbox_own _ _ _ ()) _) (OwnFrom.and (Own.from (fun (_ : List TKo) => tcbox_own _ _ _ ()) _) (Own.from (fun (_ : List TKo) => tcbox_own _ _ _ ()) _)))) (ownFrom_below (Nat.le_refl _) (by omega)))
  (fun _ _ _ _ _ _ hs _ _ => hs)
  (fun H hH => ⟨⟨⟨_, b3, World.ownsRow_nil _ _ _ _, trivial⟩, b0, b1, b2⟩, hB0⟩)
  (fun x a' W => ∃ Bx, w.heap.size + 1 + 1 + 1 < Bx ∧ CBox W Bx 65 #[.int .i64 x.1.1, .string (bstr x.1.2.1), .int .i64 x.1.2.2] ∧ a' = { tmps := #[.pointer t, .int .i64 v, .string (bstr g), .string (bstr src), .int .i64 now, .pointer (some ⟨w.heap.size, 0, none⟩), undef, undef, .pointer (some ⟨w.heap.size + 1, 0, none⟩), .pointer (some ⟨w.heap.size + 1 + 1, 0, none⟩), .slice none 0 0, .pointer (some ⟨w.heap.size + 1 + 1 + 1, 0, none⟩), .pointer (some ⟨Bx, 0, none⟩), .pointer t, .int .i64 v, .string (bstr g), .func (.func 58) #[] #[.pointer (some ⟨w.heap.size + 1 + 1 + 1 + 1, 0, none⟩), .pointer (some ⟨w.heap.size + 1 + 1 + 1 + 1 + 1, 0, none⟩), .pointer (some ⟨w.heap.size + 1 + 1 + 1 + 1 + 1 + 1, 0, none⟩)], encT x.1, undef, undef, undef, undef, undef, undef, undef, undef, undef, undef, undef, undef, undef, undef, undef], defers := [] })
  (fun x a' _ X Y row hs hg hr => by obtain ⟨Bx, h1, h2, h3⟩ := hs; exact ⟨Bx, h1, tcbox_own Bx _ _ () X Y row h2 hg (fun r e => (hr r e).2), h3⟩)
  ?assign ?body ?done ?stop
 case assign =>
  rintro l H pre ⟨⟨xv, xg, xp⟩, hx⟩ W Kx hH1 hH2 ⟨⟨⟨u, hu, hrow, _⟩, hb0, hb1, hb2⟩, hW⟩ hK
  have hWs := hW.size
  have hul := hu.lt
  simp only [encT]
  gi_wp2
  exact hK _ _ ((KeepsOthers.alloc _ _).from _) (KeepsR.alloc _ _ _ _) ⟨⟨⟨u, hu.alloc _, hrow.alloc _, trivial⟩, hb0.old _, hb1.old _, hb2.old _⟩, hW.alloc hWs _⟩ ⟨W.heap.size, hul, CBox.new _ rfl, rfl⟩
 case body =>
  rintro l H pre ⟨⟨xv, xg, xp⟩, hx⟩ a' W hl hH1 hH2 hr ⟨⟨⟨u, hu, hrow, _⟩, hb0, hb1, hb2⟩, hW⟩ ⟨Bx, hBx, bX, rfl⟩ hlt
  obtain ⟨⟨p, b, o, m, room, M, L, O, rfl, hTb⟩⟩ : Nonempty (∃ p b o m room M L O, t = some (⟨p, 0, none⟩ : Addr) ∧ Tb W p b o N m room M L F O) := by
   rcases (HT.out.mono hW).2 with ⟨_, _, h0⟩ | h
   · omega
   · exact ⟨h⟩
  obtain ⟨V, hV, hH⟩ := hTb.states
  obtain ⟨sv, he, hT, _, hw⟩ := hH.at_ (xv, xg, xp)
  have hd : Below W.heap.size W W.drew := Below.drew (Below.refl _ _)
  have hlk := (hV.below hd hV.lt).get Tryz.underlying46 (hz W.drew) (xv, xg, xp) hx
  rw [he] at hlk
  obtain ⟨ao, cap, rfl⟩ := hT.shape
  have hbp := hTb.box
  obtain ⟨x3, _⟩ := hbp.at_ 3 _ rfl
  obtain ⟨t0, _⟩ := hb0.at_ 0 _ rfl
  obtain ⟨t1, _⟩ := hb1.at_ 0 _ rfl
  obtain ⟨t2, _⟩ := hb2.at_ 0 _ rfl
  obtain ⟨k0, _⟩ := bX.at_ 0 _ rfl
  obtain ⟨k1, _⟩ := bX.at_ 1 _ rfl
  obtain ⟨k2, _⟩ := bX.at_ 2 _ rfl
  have cu := hu.cell
  have HF := Lib.hid (show ∀ wq, Below W.heap.size W wq → wq.cell? ⟨w.heap.size, 0, none⟩ = some (.pointer (some ⟨p, 0, none⟩)) ∧ wq.cell? ⟨w.heap.size + 1, 0, none⟩ = some (.string (bstr src)) ∧ wq.cell? ⟨w.heap.size + 1 + 1, 0, none⟩ = some (.int .i64 now) ∧ wq.cell? ⟨Bx, 0, none⟩ = some (.int .i64 xv) ∧ wq.cell? ⟨Bx, 1, none⟩ = some (.string (bstr xg)) ∧ wq.cell? ⟨Bx, 2, none⟩ = some (.int .i64 xp) ∧ wq.cell? ⟨p, 3, none⟩ = some (.map (some b)) ∧
   (Instr.lookup 46 (.map (some b)) (.agg #[.int .i64 xv, .string (bstr xg), .int .i64 xp]) false).run Tryz.prog wq = .ok (.agg #[.bool (oldS F (xv, xg, xp)).1, .int .i64 (oldS F (xv, xg, xp)).2.1, .slice ao (oldS F (xv, xg, xp)).2.2.length cap]) wq from fun wq hb =>
   ⟨(hb.cell hb0.lt).trans t0, (hb.cell hb1.lt).trans t1, (hb.cell hb2.lt).trans t2, (hb.cell (p := ⟨Bx, 0, none⟩) bX.lt).trans k0, (hb.cell (p := ⟨Bx, 1, none⟩) bX.lt).trans k1, (hb.cell (p := ⟨Bx, 2, none⟩) bX.lt).trans k2, (hb.cell (p := ⟨p, 3, none⟩) hbp.lt).trans x3, by
     have := (hV.below hb hV.lt).get Tryz.underlying46 (hz wq) (xv, xg, xp) hx
     rw [he] at this
     exact this⟩)
  have HSZ := Lib.hid hsz
  have HU := Lib.hid (show PRow F src now H (w.heap.size + 1 + 1 + 1) pre W from ⟨u, hu, hrow, trivial⟩)
  have HBX := Lib.hid (show CBox W w.heap.size 25 #[.pointer (some ⟨p, 0, none⟩)] ∧ CBox W (w.heap.size + 1) 36 #[.string (bstr src)] ∧ CBox W (w.heap.size + 1 + 1) 3 #[.int .i64 now] from ⟨hb0, hb1, hb2⟩)
  have HW := Lib.hid hW; have HH := Lib.hid (And.intro hH1 (And.intro hH2 hlt)); have HBx := Lib.hid (And.intro hBx bX)
  have HAD := Lib.hid (fun (wq : World) (hb : Below W.heap.size W wq) => admits_any (oldS F (xv, xg, xp)).1 (oldS F (xv, xg, xp)).2.1 _ (oldS F (xv, xg, xp)).2.2 now src HS.out wq (hT.mono hb))
  obtain ⟨q, hq⟩ : ∃ q, padm (oldS F (xv, xg, xp)).1 (oldS F (xv, xg, xp)).2.1 (oldS F (xv, xg, xp)).2.2 now src = q := ⟨_, rfl⟩
  rw [hq] at HAD
  have HQ := Lib.hid (show padmS (oldS F (xv, xg, xp)) src now = q from hq)
  clear hq hlk HT hz he hTb hV hH hT hw hbp x3 t0 t1 t2 k0 k1 k2 cu hu hrow hb0 hb1 hb2 bX hW hl hH1 hH2 hr hBx hlt hsz hB0 b0 b1 b2 b3 b4 b5 b6
  gi_wp2
  refine region_round (fun W' => Below W.heap.size W W') (by kernel_rfl) (by kernel_rfl) (by rintro ⟨a, w, h⟩; exact h) hd (fun hHeld => ?_)
  refine tkL 0 (v := ?_) rfl (by kernel_rfl) (fun _ _ _ => id) (Or.inl ⟨by rfl, ?_⟩) (by assumption) ?_; rotate_left; (focus (intro wq hSq; have f := HF.out wq hSq; go_simp <;> with_reducible rfl)); simp only [Act.put, pA, pB, pC]
  refine tkL 1 (v := ?_) rfl (by kernel_rfl) (fun _ _ _ => id) (Or.inl ⟨by rfl, ?_⟩) (by assumption) ?_; rotate_left; (focus (intro wq hSq; have f := HF.out wq hSq; go_simp <;> with_reducible rfl)); simp only [Act.put, pA, pB, pC]
  refine tkL 2 (v := ?_) rfl (by kernel_rfl) (fun _ _ _ => id) (Or.inl ⟨by rfl, ?_⟩) (by assumption) ?_; rotate_left; (focus (intro wq hSq; have f := HF.out wq hSq; go_simp <;> with_reducible rfl)); simp only [Act.put, pA, pB, pC]
  refine tkL 3 (v := ?_) rfl (by kernel_rfl) (fun _ _ _ => id) (Or.inl ⟨by rfl, ?_⟩) (by assumption) ?_; rotate_left; (focus (intro wq hSq; have f := HF.out wq hSq; go_simp <;> with_reducible rfl)); simp only [Act.put, pA, pB, pC]
  refine tkL 4 (v := ?_) rfl (by kernel_rfl) (fun _ _ _ => id) (Or.inl ⟨by rfl, ?_⟩) (by assumption) ?_; rotate_left; (focus (intro wq hSq; have f := HF.out wq hSq; go_simp <;> with_reducible rfl)); simp only [Act.put, pA, pB, pC]
  refine tkL 5 (v := ?_) rfl (by kernel_rfl) (fun _ _ _ => id) (Or.inl ⟨by rfl, ?_⟩) (by assumption) ?_; rotate_left; (focus (intro wq hSq; have f := HF.out wq hSq; go_simp <;> with_reducible rfl)); simp only [Act.put, pA, pB, pC]
  refine tkL 6 (v := ?_) rfl (by kernel_rfl) (fun _ _ _ => id) (Or.inl ⟨by rfl, ?_⟩) (by assumption) ?_; rotate_left; (focus (intro wq hSq; have f := HF.out wq hSq; go_simp <;> with_reducible rfl)); simp only [Act.put, pA, pB, pC]
  refine tkL 7 (v := ?_) rfl (by kernel_rfl) (fun _ _ _ => id) (Or.inl ⟨by rfl, ?_⟩) (by assumption) ?_; rotate_left; (focus (intro wq hSq; have f := HF.out wq hSq; go_simp <;> with_reducible rfl)); simp only [Act.put, pA, pB, pC]
  refine wpAnyH_ready (rs := [8]) (by kernel_rfl) (by simp) (nextL 8 rfl (fun Kr hKr => ?_) AllReadyH.nil)
  go_simp
  refine (HAD.out _ hd).mono ?_
  rintro e w' ⟨rfl, hbw⟩
  refine hKr.out _ _ (hd.trans (hbw.mono hd.size)) (fun hHeld2 => ?_)
  clear hKr hHeld hbw HAD
  refine wpAnyH_done (by kernel_rfl) ?_ _
  have HB2 := Lib.hid hHeld2
  obtain ⟨f0, f1, f2, f3, f4, f5, f6, _⟩ := HF.out w' hHeld2
  clear HF hHeld2
  have HP := Lib.hid (show PRow F src now H (w.heap.size + 1 + 1 + 1) pre w' from by
   obtain ⟨u, hu, hrow, _⟩ := HU.out
   exact ⟨u, hu.kept (grown_none HB2.out) (fun e => by cases e), own_below hrow HB2.out, trivial⟩)
  have HX := Lib.hid (show CBox w' w.heap.size 25 #[.pointer (some ⟨p, 0, none⟩)] ∧ CBox w' (w.heap.size + 1) 36 #[.string (bstr src)] ∧ CBox w' (w.heap.size + 1 + 1) 3 #[.int .i64 now] from ⟨HBX.out.1.below HB2.out HBX.out.1.lt, HBX.out.2.1.below HB2.out HBX.out.2.1.lt, HBX.out.2.2.below HB2.out HBX.out.2.2.lt⟩)
  have HKF := Lib.hid (show KeepsFrom W0.heap.size W w' ∧ KeepsR (w.heap.size + 1 + 1 + 1 + 1) H W w' from ⟨KeepsFrom.of_grownBy (grown_none HB2.out) (fun j e => by cases e), KeepsR.grown (grown_none HB2.out) (fun r e => by cases e)⟩)
  have HW2 := Lib.hid (show Below w.heap.size w w' from HW.out.trans (HB2.out.mono HW.out.size))
  clear HU HBX HW
  cases q
  · gi_wp2
    exact ⟨HKF.out.1, HKF.out.2, ⟨by
     unfold PRow
     rw [List.map_append, List.map_cons, List.map_nil, portsS_no _ HQ.out]
     exact HP.out, HX.out⟩, HW2.out⟩
  · obtain ⟨u, hu, hrow, _⟩ := HP.out
    have cu := hu.cell
    have HSL := Lib.hid (show (portsS F src now (pre.map Subtype.val)).length + 1 ≤ 1000001 from by
     have h1 := portsS_len F src now (pre.map Subtype.val)
     have h2 := HH.out.2.2
     rw [List.length_map] at h1
     omega)
    have HWS := Lib.hid (show H ≤ w'.heap.size from Nat.le_trans HH.out.2.1 HB2.out.size)
    have HBl := Lib.hid (show w.heap.size ≤ H ∧ w.heap.size ≤ w'.heap.size from by have h1 := HWS.out; have h2 := HSZ.out; have h3 := HH.out.1; omega)
    have HRW := Lib.hid hrow
    gi_wp2_with (gi_at_builtin; refine wpListIn_append_own _ rfl _ _ 54 rfl H 3 i0 (.int .i64 0) 1 8 Tryz.underlying54 hi hz0 hz1 hz2 rfl (by decide) _ _ _ rfl (hrow.alloc _) ⟨w'.heap.size, 0, none⟩ 1 1 [.int .i64 xp] rfl rfl (cell_one_new _ _ _) (by simp [Value.oneCell']) (by have := HSL.out; omega) (by have := HSL.out; omega) (by have := HWS.out; simp; omega) ?_; intro v' w1 hown' hgrow _; obtain ⟨g', cap', rfl⟩ := ownsRow_succ hown'; obtain ⟨hv1, hv2, _, hk2, hb2⟩ := hu.appended (by decide) (town_base hrow HBl.out.1) HBl.out.2 (by omega) (town_base hown' HBl.out.1) hgrow; have hr2 := hown'.kept (grownBy_setCell' w1 (w.heap.size + 1 + 1 + 1) (.slice (some ⟨g', 0, none⟩) ((portsS F src now (pre.map Subtype.val)).length + 1) cap')) (.inr (hv1.not_row (by decide) hown').symm); have hc1 := hv1.cell; have hf1 := hv1.frozen)
    have hkr : KeepsR (w.heap.size + 1 + 1 + 1 + 1) H w' (w1.setCell ⟨w.heap.size + 1 + 1 + 1, 0, none⟩ (.slice (some ⟨g', 0, none⟩) ((portsS F src now (pre.map Subtype.val)).length + 1) cap')) :=
     ((KeepsR.alloc _ _ _ _).trans (KeepsR.grown hgrow fun r e => .inr (HRW.out.lt r e).1)).trans (KeepsR.grown (grownBy_setCell' _ _ _) fun r e => by injection e with e; subst e; exact .inl (Nat.lt_succ_self _))
    have hbx : ∀ {B : Nat} {T : TypeId} {cs : Array Value}, CBox w' B T cs → B < w.heap.size + 1 + 1 + 1 → CBox (w1.setCell ⟨w.heap.size + 1 + 1 + 1, 0, none⟩ (.slice (some ⟨g', 0, none⟩) ((portsS F src now (pre.map Subtype.val)).length + 1) cap')) B T cs := fun {B T cs} hb hlt =>
     (((hb.old _).grown hgrow fun e => by
       have h1 := (HRW.out.lt B e.symm).1
       have h2 := HSZ.out
       have h3 := HH.out.1
       omega).far (p := ⟨w.heap.size + 1 + 1 + 1, 0, none⟩) (by simp; omega) _)
    exact ⟨HKF.out.1.trans (hk2.from _), HKF.out.2.trans hkr, ⟨by
     unfold PRow
     rw [List.map_append, List.map_cons, List.map_nil, portsS_yes _ HQ.out]
     exact ⟨_, hv2, by simpa using hr2, trivial⟩, hbx HX.out.1 (by omega), hbx HX.out.2.1 (by omega), hbx HX.out.2.2 (by omega)⟩, HW2.out.trans hb2⟩
 case done =>
  rintro D H ys W hD hDH hys ⟨⟨⟨u, hu, hrow, _⟩, hb0, hb1, hb2⟩, hW⟩ hK
  have cu := hu.cell
  have HY := Lib.hid hys
  have HR := Lib.hid hrow
  have HW := Lib.hid hW
  clear hys hrow hW hu
  gi_wp2
  refine ⟨by simp, .inl ⟨_, _, rfl, run_takeDeferred hK, ?_⟩⟩
  exact ⟨_, results_tmp rfl _ _ _, u, rfl, by rw [← HY.out]; exact town_keep (town_base HR.out (by omega)) (tckeep_putObj _ hK rfl), HW.out.trans (belowK_b (w := w) (Nat.le_refl _) W D _ _ (by omega) hK rfl rfl)⟩
 case stop =>
  rintro D H c pre W _ _ _ h _
  exact h.elim

attribute [local go_sem] Oper.semAt_some

def liveS (s : Stt) (now : Int) : Bool := (pexp s now).2

set_option maxRecDepth 100000 in
set_option maxHeartbeats 4000000 in
theorem known_any (t : Option Addr) (N : Nat) (v now : Int) (g : Str) (F : Tst) (K : List TK) (w : World) (h : TRead w t N F K) (hN : N ≤ 1000000) :
 Calls Tryz.prog 14 #[.pointer t, .int .i64 v, .string (bstr g), .int .i64 now] w fun e w' => e = .returned (.bool ((K.filter (inOf v g)).any fun x => liveS (oldS F x) now)) ∧ Below w.heap.size w w' := by
 have hz : ∀ w, (zeroValue 71).run Tryz.prog w = .ok noState w := fun w => Tryz.zeroValue71 w
 have HT := Lib.hid h
 clear h
 refine (callsIn_wide (n := 6)).1 ?_
 refine callsIn_of_wp_marks Tryz.func14 rfl trivial ?_ rfl
 simp only [Tryz.ntmps14, List.size_toArray, List.length_cons, List.length_nil, Nat.reduceAdd, Nat.reduceSub, Array.replicate_succ, Array.replicate_zero, List.push_toArray, List.append_toArray, List.nil_append, List.cons_append]
 gi_wp2_with (refine ⟨trivial, ?_⟩; gi_at_call 32; refine (of_in _ _ _ _ _).mono ?_; rintro e w' ⟨rfl, rfl⟩)
 have hB0 : Below w.heap.size w ((((((w.alloc (.cells #[.pointer t] 25)).alloc (.cells #[.int .i64 now] 3)).alloc (.cells #[.bool false] 4)).alloc (.cells #[.pointer t] 25)).alloc (.cells #[.int .i64 v] 3)).alloc (.cells #[.string (bstr g)] 36)) := ((((((Below.refl _ w).alloc (Nat.le_refl _) _).alloc (by simp) _).alloc (by simp <;> omega) _).alloc (by simp <;> omega) _).alloc (by simp <;> omega) _).alloc (by simp <;> omega) _
 have b0 := (((((CBox.new (w := w) (T := 25) #[.pointer t] rfl).old (.cells #[.int .i64 now] 3)).old (.cells #[.bool false] 4)).old (.cells #[.pointer t] 25)).old (.cells #[.int .i64 v] 3)).old (.cells #[.string (bstr g)] 36)
 have b1 := ((((CBox.new (w := w.alloc (.cells #[.pointer t] 25)) (T := 3) #[.int .i64 now] rfl).old (.cells #[.bool false] 4)).old (.cells #[.pointer t] 25)).old (.cells #[.int .i64 v] 3)).old (.cells #[.string (bstr g)] 36)
 have b2 := (((CBox.new (w := (w.alloc (.cells #[.pointer t] 25)).alloc (.cells #[.int .i64 now] 3)) (T := 4) #[.bool false] rfl).old (.cells #[.pointer t] 25)).old (.cells #[.int .i64 v] 3)).old (.cells #[.string (bstr g)] 36)
 have b3 := ((CBox.new (w := ((w.alloc (.cells #[.pointer t] 25)).alloc (.cells #[.int .i64 now] 3)).alloc (.cells #[.bool false] 4)) (T := 25) #[.pointer t] rfl).old (.cells #[.int .i64 v] 3)).old (.cells #[.string (bstr g)] 36)
 have b4 := (CBox.new (w := (((w.alloc (.cells #[.pointer t] 25)).alloc (.cells #[.int .i64 now] 3)).alloc (.cells #[.bool false] 4)).alloc (.cells #[.pointer t] 25)) (T := 3) #[.int .i64 v] rfl).old (.cells #[.string (bstr g)] 36)
 have b5 := CBox.new (w := ((((w.alloc (.cells #[.pointer t] 25)).alloc (.cells #[.int .i64 now] 3)).alloc (.cells #[.bool false] 4)).alloc (.cells #[.pointer t] 25)).alloc (.cells #[.int .i64 v] 3)) (T := 36) #[.string (bstr g)] rfl
 obtain ⟨W0, hW0⟩ : ∃ W0, ((((((w.alloc (.cells #[.pointer t] 25)).alloc (.cells #[.int .i64 now] 3)).alloc (.cells #[.bool false] 4)).alloc (.cells #[.pointer t] 25)).alloc (.cells #[.int .i64 v] 3)).alloc (.cells #[.string (bstr g)] 36)) = W0 := ⟨_, rfl⟩
 have hsz : W0.heap.size = w.heap.size + 6 := by rw [← hW0]; simp
 rw [hW0] at hB0 b0 b1 b2 b3 b4 b5 ⊢
 clear hW0
 simp only [World.size_alloc] at b1 b2 b3 b4 b5
 refine wpIn_rangeG (w.heap.size + 1 + 1 + 1) rfl (fun hd => by cases hd) (gf := 58) (lb := #[.pointer (some ⟨w.heap.size + 1 + 1 + 1, 0, none⟩), .pointer (some ⟨w.heap.size + 1 + 1 + 1 + 1, 0, none⟩), .pointer (some ⟨w.heap.size + 1 + 1 + 1 + 1 + 1, 0, none⟩)]) rfl trivial (enters_of Tryz.func58 (by kernel_rfl) rfl)
  (of_stops _ (w.heap.size + 1 + 1 + 1) N (w.heap.size + 1 + 1 + 1) t v g K W0 (by omega) (b3.at_ 0 _ rfl).1 (b4.at_ 0 _ rfl).1 (b5.at_ 0 _ rfl).1 (Nat.le_refl _) (fun n Ba W hb hBa ha => (HT.out.mono (hB0.trans (hb.mono (by omega)))).stops hN n Ba _ hBa ha (by have := hb.size; omega))) (fun _ => rfl)
  (fun H pre W => (((pre.map Subtype.val).any (fun x => liveS (oldS F x) now) = false) ∧ CBox W w.heap.size 25 #[.pointer t] ∧ CBox W (w.heap.size + 1) 3 #[.int .i64 now] ∧ CBox W (w.heap.size + 1 + 1) 4 #[.bool false]) ∧ Below w.heap.size w W)
  (fun H c pre W => c = .ret ∧ (((pre.map Subtype.val).any (fun x => liveS (oldS F x) now) = true) ∧ CBox W (w.heap.size + 1 + 1) 4 #[.bool true]) ∧ Below w.heap.size w W)
  (fun H => OwnFrom.and (OwnFrom.and (ownFrom_pure _ (fun pre : List TKo => ((pre.map Subtype.val).any (fun x => liveS (oldS F x) now) = false))) (OwnFrom.and (Own.from (fun (_ : List TKo) => tcbox_own _ _ _ ()) _) (OwnFrom.and (Own.from (fun (_ : List TKo) => tcbox_own _ _ _ ()) _) (Own.from (fun (_ : List TKo) => tcbox_own _ _ _ ()) _)))) (ownFrom_below (Nat.le_refl _) (by omega)))
  (fun H c => OwnFrom.and (ownFrom_pure _ (fun _ : List TKo => c = .ret)) (OwnFrom.and (OwnFrom.and (ownFrom_pure _ (fun pre : List TKo => ((pre.map Subtype.val).any (fun x => liveS (oldS F x) now) = true))) (Own.from (fun (_ : List TKo) => tcbox_own _ _ _ ()) _)) (ownFrom_below (Nat.le_refl _) (by omega))))
  (fun H hH => ⟨⟨rfl, b0, b1, b2⟩, hB0⟩)
  (fun x a' W => ∃ Bx, w.heap.size + 1 + 1 < Bx ∧ CBox W Bx 65 #[.int .i64 x.1.1, .string (bstr x.1.2.1), .int .i64 x.1.2.2] ∧ a' = { tmps := #[.pointer t, .int .i64 v, .string (bstr g), .int .i64 now, .pointer (some ⟨w.heap.size, 0, none⟩), undef, undef, .pointer (some ⟨w.heap.size + 1, 0, none⟩), .pointer (some ⟨w.heap.size + 1 + 1, 0, none⟩), .pointer (some ⟨Bx, 0, none⟩), undef, undef, .pointer t, .int .i64 v, .string (bstr g), .func (.func 58) #[] #[.pointer (some ⟨w.heap.size + 1 + 1 + 1, 0, none⟩), .pointer (some ⟨w.heap.size + 1 + 1 + 1 + 1, 0, none⟩), .pointer (some ⟨w.heap.size + 1 + 1 + 1 + 1 + 1, 0, none⟩)], encT x.1, undef, undef, undef, undef, undef, undef, undef, undef, undef, undef, undef, undef], defers := [] })
  (fun x a' _ X Y row hs hg hr => by obtain ⟨Bx, h1, h2, h3⟩ := hs; exact ⟨Bx, h1, tcbox_own Bx _ _ () X Y row h2 hg (fun r e => (hr r e).2), h3⟩)
  ?assign ?body ?done ?stop
 case assign =>
  rintro l H pre ⟨⟨xv, xg, xp⟩, hx⟩ W Kx hH1 hH2 ⟨⟨hp, hb0, hb1, hb2⟩, hW⟩ hK
  have hWs := hW.size
  have hul := hb2.lt
  simp only [encT]
  gi_wp2
  exact hK _ _ ((KeepsOthers.alloc _ _).from _) (KeepsR.alloc _ _ _ _) ⟨⟨hp, hb0.old _, hb1.old _, hb2.old _⟩, hW.alloc hWs _⟩ ⟨W.heap.size, hul, CBox.new _ rfl, rfl⟩
 case body =>
  rintro l H pre ⟨⟨xv, xg, xp⟩, hx⟩ a' W hl hH1 hH2 hr ⟨⟨hpr, hb0, hb1, hb2⟩, hW⟩ ⟨Bx, hBx, bX, rfl⟩ hlt
  obtain ⟨⟨p, b, o, m, room, M, L, O, rfl, hTb⟩⟩ : Nonempty (∃ p b o m room M L O, t = some (⟨p, 0, none⟩ : Addr) ∧ Tb W p b o N m room M L F O) := by
   rcases (HT.out.mono hW).2 with ⟨_, _, h0⟩ | h
   · omega
   · exact ⟨h⟩
  obtain ⟨V, hV, hH⟩ := hTb.states
  obtain ⟨sv, he, hT, _, hw⟩ := hH.at_ (xv, xg, xp)
  have hd : Below W.heap.size W W.drew := Below.drew (Below.refl _ _)
  obtain ⟨ao, cap, rfl⟩ := hT.shape
  have hbp := hTb.box
  have HF := Lib.hid (show ∀ wq, Below W.heap.size W wq → wq.cell? ⟨w.heap.size, 0, none⟩ = some (.pointer (some ⟨p, 0, none⟩)) ∧ wq.cell? ⟨w.heap.size + 1, 0, none⟩ = some (.int .i64 now) ∧ wq.cell? ⟨Bx, 0, none⟩ = some (.int .i64 xv) ∧ wq.cell? ⟨Bx, 1, none⟩ = some (.string (bstr xg)) ∧ wq.cell? ⟨Bx, 2, none⟩ = some (.int .i64 xp) ∧ wq.cell? ⟨p, 3, none⟩ = some (.map (some b)) ∧
   (Instr.lookup 46 (.map (some b)) (.agg #[.int .i64 xv, .string (bstr xg), .int .i64 xp]) false).run Tryz.prog wq = .ok (.agg #[.bool (oldS F (xv, xg, xp)).1, .int .i64 (oldS F (xv, xg, xp)).2.1, .slice ao (oldS F (xv, xg, xp)).2.2.length cap]) wq from fun wq hb =>
   ⟨(hb.cell hb0.lt).trans (hb0.at_ 0 _ rfl).1, (hb.cell hb1.lt).trans (hb1.at_ 0 _ rfl).1, (hb.cell (p := ⟨Bx, 0, none⟩) bX.lt).trans (bX.at_ 0 _ rfl).1, (hb.cell (p := ⟨Bx, 1, none⟩) bX.lt).trans (bX.at_ 1 _ rfl).1, (hb.cell (p := ⟨Bx, 2, none⟩) bX.lt).trans (bX.at_ 2 _ rfl).1, (hb.cell (p := ⟨p, 3, none⟩) hbp.lt).trans (hbp.at_ 3 _ rfl).1, by
     have := (hV.below hb hV.lt).get Tryz.underlying46 (hz wq) (xv, xg, xp) hx
     rw [he] at this
     exact this⟩)
  obtain ⟨⟨⟨ya, yt, yl⟩, yb⟩, hy⟩ : ∃ y, pexp (oldS F (xv, xg, xp)) now = y := ⟨_, rfl⟩
  have HEX := Lib.hid (fun (wq : World) (hb : Below W.heap.size W wq) => expire_st (oldS F (xv, xg, xp)) _ now wq (hT.mono hb))
  rw [hy] at HEX
  have HY := Lib.hid (show liveS (oldS F (xv, xg, xp)) now = yb from by unfold liveS; rw [hy])
  have HPR := Lib.hid hpr
  have HBX := Lib.hid (show CBox W w.heap.size 25 #[.pointer (some ⟨p, 0, none⟩)] ∧ CBox W (w.heap.size + 1) 3 #[.int .i64 now] ∧ CBox W (w.heap.size + 1 + 1) 4 #[.bool false] from ⟨hb0, hb1, hb2⟩)
  have HW := Lib.hid hW; have HH := Lib.hid (And.intro hH1 (And.intro hH2 hlt)); have HSZ := Lib.hid hsz
  clear hy hpr HT hz he hTb hV hH hT hw hbp hb0 hb1 hb2 bX hW hl hH1 hH2 hr hBx hlt hsz hB0 b0 b1 b2 b3 b4 b5
  gi_wp2
  refine region_round (fun W' => Below W.heap.size W W') (by kernel_rfl) (by kernel_rfl) (by rintro ⟨a, w, h⟩; exact h) hd (fun hHeld => ?_)
  refine tkL 0 (v := ?_) rfl (by kernel_rfl) (fun _ _ _ => id) (Or.inl ⟨by rfl, ?_⟩) (by assumption) ?_; rotate_left; (focus (intro wq hSq; have f := HF.out wq hSq; go_simp <;> with_reducible rfl)); simp only [Act.put, pA, pB, pC]
  refine tkL 1 (v := ?_) rfl (by kernel_rfl) (fun _ _ _ => id) (Or.inl ⟨by rfl, ?_⟩) (by assumption) ?_; rotate_left; (focus (intro wq hSq; have f := HF.out wq hSq; go_simp <;> with_reducible rfl)); simp only [Act.put, pA, pB, pC]
  refine tkL 2 (v := ?_) rfl (by kernel_rfl) (fun _ _ _ => id) (Or.inl ⟨by rfl, ?_⟩) (by assumption) ?_; rotate_left; (focus (intro wq hSq; have f := HF.out wq hSq; go_simp <;> with_reducible rfl)); simp only [Act.put, pA, pB, pC]
  refine tkL 3 (v := ?_) rfl (by kernel_rfl) (fun _ _ _ => id) (Or.inl ⟨by rfl, ?_⟩) (by assumption) ?_; rotate_left; (focus (intro wq hSq; have f := HF.out wq hSq; go_simp <;> with_reducible rfl)); simp only [Act.put, pA, pB, pC]
  refine tkL 4 (v := ?_) rfl (by kernel_rfl) (fun _ _ _ => id) (Or.inl ⟨by rfl, ?_⟩) (by assumption) ?_; rotate_left; (focus (intro wq hSq; have f := HF.out wq hSq; go_simp <;> with_reducible rfl)); simp only [Act.put, pA, pB, pC]
  refine tkL 5 (v := ?_) rfl (by kernel_rfl) (fun _ _ _ => id) (Or.inl ⟨by rfl, ?_⟩) (by assumption) ?_; rotate_left; (focus (intro wq hSq; have f := HF.out wq hSq; go_simp <;> with_reducible rfl)); simp only [Act.put, pA, pB, pC]
  refine tkL 6 (v := ?_) rfl (by kernel_rfl) (fun _ _ _ => id) (Or.inl ⟨by rfl, ?_⟩) (by assumption) ?_; rotate_left; (focus (intro wq hSq; have f := HF.out wq hSq; go_simp <;> with_reducible rfl)); simp only [Act.put, pA, pB, pC]
  refine wpAnyH_ready (rs := [7, 11]) (by kernel_rfl) (by simp) (nextL 7 rfl (fun Kr hKr => ?_) (nextL 11 rfl (fun Kr hKr => ?_) AllReadyH.nil))
  · go_simp
    refine (HEX.out _ hd).mono ?_
    rintro e w1 ⟨sv, rfl, hT1, hbw⟩
    obtain ⟨so, sc, rfl⟩ := hT1.shape
    unfold encS
    dsimp only
    refine hKr.out _ _ (hd.trans (hbw.mono hd.size)) (fun hHeld2 => ?_)
    clear hKr hHeld hbw hT1 HEX
    refine tkL 8 (v := ?_) rfl (by kernel_rfl) (fun _ _ _ => id) (Or.inl ⟨by rfl, ?_⟩) (by assumption) ?_; rotate_left; (focus (intro wq hSq; have f := HF.out wq hSq; go_simp <;> with_reducible rfl)); simp only [Act.put, pA, pB, pC]
    refine tkL 9 (v := ?_) rfl (by kernel_rfl) (fun _ _ _ => id) (Or.inl ⟨by rfl, ?_⟩) (by assumption) ?_; rotate_left; (focus (intro wq hSq; have f := HF.out wq hSq; go_simp <;> with_reducible rfl)); simp only [Act.put, pA, pB, pC]
    refine tkL 10 (v := ?_) rfl (by kernel_rfl) (fun _ _ _ => id) (Or.inl ⟨by rfl, ?_⟩) (by assumption) ?_; rotate_left; (focus (intro wq hSq; have f := HF.out wq hSq; go_simp <;> with_reducible rfl)); simp only [Act.put, pA, pB, pC]
    refine wpAnyH_ready (rs := [11]) (by kernel_rfl) (by simp) (nextL 11 rfl (fun Kr hKr => ?_) AllReadyH.nil)
    go_simp
    refine hKr.out _ _ (Below.alloc hHeld2 (Below.size hHeld2) _) (fun hHeld3 => ?_)
    clear hKr hHeld3
    refine wpAnyH_ready (rs := [12]) (by kernel_rfl) (by simp) (nextL 12 rfl (fun Kr hKr => ?_) AllReadyH.nil)
    go_simp
    refine hKr.out _ _ (Below.alloc hHeld2 (Below.size hHeld2) _) (fun hEnd => ?_)
    clear hKr hHeld2
    refine tkL 13 (v := ?_) rfl (by kernel_rfl) (fun _ _ _ => id) (Or.inl ⟨by rfl, ?_⟩) (by assumption) ?_; rotate_left; (focus (intro wq hSq; have f := HF.out wq hSq; go_simp <;> with_reducible rfl)); simp only [Act.put, pA, pB, pC]
    refine wpAnyH_done (by kernel_rfl) ?_ _
    generalize w1.alloc (.cells #[.bool ya, .int .i64 yt, .slice so yl.length sc] 71) = wz at hEnd ⊢
    have HB2 := Lib.hid hEnd
    obtain ⟨f0, f1, f2, f3, f4, f5, _⟩ := HF.out wz hEnd
    have HX := Lib.hid (show CBox wz w.heap.size 25 #[.pointer (some ⟨p, 0, none⟩)] ∧ CBox wz (w.heap.size + 1) 3 #[.int .i64 now] ∧ CBox wz (w.heap.size + 1 + 1) 4 #[.bool false] from ⟨HBX.out.1.below hEnd HBX.out.1.lt, HBX.out.2.1.below hEnd HBX.out.2.1.lt, HBX.out.2.2.below hEnd HBX.out.2.2.lt⟩)
    have HKF := Lib.hid (show KeepsFrom W0.heap.size W wz ∧ KeepsR (w.heap.size + 1 + 1 + 1) H W wz from ⟨KeepsFrom.of_grownBy (grown_none hEnd) (fun j e => by cases e), KeepsR.grown (grown_none hEnd) (fun r e => by cases e)⟩)
    have HW2 := Lib.hid (show Below w.heap.size w wz from HW.out.trans (hEnd.mono HW.out.size))
    obtain ⟨f6, f7⟩ := HX.out.2.2.at_ 0 _ rfl
    clear hEnd HF HW HBX
    cases yb
    · gi_wp2
      exact ⟨HKF.out.1, HKF.out.2, ⟨by rw [List.map_append, List.any_append, HPR.out]; simp [HY.out], HX.out⟩, HW2.out⟩
    · gi_wp2
      refine ⟨HKF.out.1.trans ((KeepsOthers.setCell _ _ _).from _), rfl, ⟨by rw [List.map_append, List.any_append, HPR.out]; simp [HY.out], HX.out.2.2.set 0 _⟩, HW2.out.setCell (by simp; omega) _⟩
  · go_simp
    refine hKr.out _ _ (hd.alloc hd.size _) (fun hHeld2 => ?_)
    clear hKr hHeld
    refine wpAnyH_ready (rs := [7]) (by kernel_rfl) (by simp) (nextL 7 rfl (fun Kr hKr => ?_) AllReadyH.nil)
    go_simp
    refine (HEX.out _ hHeld2).mono ?_
    rintro e w1 ⟨sv, rfl, hT1, hbw⟩
    obtain ⟨so, sc, rfl⟩ := hT1.shape
    have q1 := (show CBox (W.drew.alloc (.cells #[.bool false, .int .i64 0, .slice none 0 0] 71)) W.heap.size 71 #[.bool false, .int .i64 0, .slice none 0 0] from CBox.new _ rfl).below hbw (by simp)
    unfold encS
    dsimp only
    refine hKr.out _ _ (hHeld2.trans (hbw.mono hHeld2.size)) (fun hHeld3 => ?_)
    clear hKr hHeld2 hbw hT1 HEX
    refine tkL 8 (v := ?_) rfl (by kernel_rfl) (fun _ _ _ => id) (Or.inl ⟨by rfl, ?_⟩) (by assumption) ?_; rotate_left; (focus (intro wq hSq; have f := HF.out wq hSq; go_simp <;> with_reducible rfl)); simp only [Act.put, pA, pB, pC]
    refine tkL 9 (v := ?_) rfl (by kernel_rfl) (fun _ _ _ => id) (Or.inl ⟨by rfl, ?_⟩) (by assumption) ?_; rotate_left; (focus (intro wq hSq; have f := HF.out wq hSq; go_simp <;> with_reducible rfl)); simp only [Act.put, pA, pB, pC]
    refine tkL 10 (v := ?_) rfl (by kernel_rfl) (fun _ _ _ => id) (Or.inl ⟨by rfl, ?_⟩) (by assumption) ?_; rotate_left; (focus (intro wq hSq; have f := HF.out wq hSq; go_simp <;> with_reducible rfl)); simp only [Act.put, pA, pB, pC]
    refine wpAnyH_ready (rs := [12]) (by kernel_rfl) (by simp) (nextL 12 rfl (fun Kr hKr => ?_) AllReadyH.nil)
    obtain ⟨q0, qf0⟩ := q1.at_ 0 _ rfl
    obtain ⟨q2, qf2⟩ := q1.at_ 1 _ rfl
    obtain ⟨q3, qf3⟩ := q1.at_ 2 _ rfl
    go_simp
    refine hKr.out _ _ (((Below.setCell hHeld3 (by simp) _).setCell (by simp) _).setCell (by simp) _) (fun hEnd => ?_)
    clear hKr hHeld3
    refine tkL 13 (v := ?_) rfl (by kernel_rfl) (fun _ _ _ => id) (Or.inl ⟨by rfl, ?_⟩) (by assumption) ?_; rotate_left; (focus (intro wq hSq; have f := HF.out wq hSq; go_simp <;> with_reducible rfl)); simp only [Act.put, pA, pB, pC]
    refine wpAnyH_done (by kernel_rfl) ?_ _
    generalize ((w1.setCell ⟨W.heap.size, 0, none⟩ (.bool ya)).setCell ⟨W.heap.size, 1, none⟩ (.int .i64 yt)).setCell ⟨W.heap.size, 2, none⟩ (.slice so yl.length sc) = wz at hEnd ⊢
    have HB2 := Lib.hid hEnd
    obtain ⟨f0, f1, f2, f3, f4, f5, _⟩ := HF.out wz hEnd
    have HX := Lib.hid (show CBox wz w.heap.size 25 #[.pointer (some ⟨p, 0, none⟩)] ∧ CBox wz (w.heap.size + 1) 3 #[.int .i64 now] ∧ CBox wz (w.heap.size + 1 + 1) 4 #[.bool false] from ⟨HBX.out.1.below hEnd HBX.out.1.lt, HBX.out.2.1.below hEnd HBX.out.2.1.lt, HBX.out.2.2.below hEnd HBX.out.2.2.lt⟩)
    have HKF := Lib.hid (show KeepsFrom W0.heap.size W wz ∧ KeepsR (w.heap.size + 1 + 1 + 1) H W wz from ⟨KeepsFrom.of_grownBy (grown_none hEnd) (fun j e => by cases e), KeepsR.grown (grown_none hEnd) (fun r e => by cases e)⟩)
    have HW2 := Lib.hid (show Below w.heap.size w wz from HW.out.trans (hEnd.mono HW.out.size))
    obtain ⟨f6, f7⟩ := HX.out.2.2.at_ 0 _ rfl
    clear hEnd HF HW HBX
    cases yb
    · gi_wp2
      exact ⟨HKF.out.1, HKF.out.2, ⟨by rw [List.map_append, List.any_append, HPR.out]; simp [HY.out], HX.out⟩, HW2.out⟩
    · gi_wp2
      refine ⟨HKF.out.1.trans ((KeepsOthers.setCell _ _ _).from _), rfl, ⟨by rw [List.map_append, List.any_append, HPR.out]; simp [HY.out], HX.out.2.2.set 0 _⟩, HW2.out.setCell (by simp; omega) _⟩
 case done =>
  rintro D H ys W hD hDH hys ⟨⟨hp, hb0, hb1, hb2⟩, hW⟩ hK
  have HY := Lib.hid (show ((K.filter (inOf v g)).any fun x => liveS (oldS F x) now) = false from by rw [← hys]; exact hp)
  have HW := Lib.hid hW
  obtain ⟨f0, f1⟩ := hb2.at_ 0 _ rfl
  have HB := Lib.hid hb2
  clear hys hp hW hb0 hb1 hb2
  gi_wp2
  have hK1 := (KeepsOthers.setCell W ⟨w.heap.size + 1 + 1, 0, none⟩ (.bool false)).same D _ hK rfl
  have hb := show CBox ((W.setCell ⟨w.heap.size + 1 + 1, 0, none⟩ (.bool false)).putObj D (.deferred none)) (w.heap.size + 1 + 1) 4 #[.bool false] from (World.putObj_heap_other (by omega)).trans (HB.out.set 0 _)
  have hc := (hb.at_ 0 _ rfl).1
  refine ⟨by simp, .inl ⟨_, _, rfl, run_takeDeferred hK1, ?_⟩⟩
  exact ⟨.bool false, by simp [results, Tryz.results14, go_sem, hc], by rw [HY.out], (HW.out.setCell (by simp; omega) _).trans (belowK_b (w := w) (Nat.le_refl _) _ D _ _ (by omega) hK1 rfl rfl)⟩
 case stop =>
  rintro D H c pre W hD hDH hSp ⟨rfl, ⟨hp, hb2⟩, hW⟩ hK
  have HY := Lib.hid (show ((K.filter (inOf v g)).any fun x => liveS (oldS F x) now) = true from by
   obtain ⟨r, hr⟩ := hSp
   rw [← hr, List.any_append, hp]
   rfl)
  have HW := Lib.hid hW
  obtain ⟨f0, f1⟩ := hb2.at_ 0 _ rfl
  have HB := Lib.hid hb2
  clear hSp hp hW hb2
  gi_wp2
  have hb := show CBox (W.putObj D (.deferred none)) (w.heap.size + 1 + 1) 4 #[.bool true] from (World.putObj_heap_other (by omega)).trans HB.out
  have hc := (hb.at_ 0 _ rfl).1
  refine ⟨by simp, .inl ⟨_, _, rfl, run_takeDeferred hK, ?_⟩⟩
  exact ⟨.bool true, by simp [results, Tryz.results14, go_sem, hc], by rw [HY.out], HW.out.trans (belowK_b (w := w) (Nat.le_refl _) W D _ _ (by omega) hK rfl rfl)⟩

attribute [local go_sem] Oper.semAt_some

theorem Kts.own {w : World} {base : Nat} {v : Value} {K : List TK} (h : w.ownsRow base 65 3 v K.length (K.flatMap ktcells)) : Kts w v K := by
 rcases h.2 with ⟨rfl, h0⟩ | ⟨g, cap, cur, rfl, hb, hg, hn, hm, hs, ht⟩
 · rw [List.length_eq_zero_iff] at h0
   subst h0
   exact Kts.nil w
 · refine ⟨_, cap, g, 0, rfl, .inr rfl, fun k hk => ?_⟩
   have hc := h.cells (g := g) rfl
   have hx : ∀ j, j < 3 → (K.flatMap ktcells)[k * 3 + j]? = some ((ktcells (K.getD k default))[j]!) := fun j hj => by
    have := tkflat_get K (k * 3 + j) (by omega)
    rw [show (k * 3 + j) / 3 = k from by omega, show (k * 3 + j) % 3 = j from by omega] at this
    exact this
   have c0 := hc _ _ (hx 0 (by omega))
   have c1 := hc _ _ (hx 1 (by omega))
   have c2 := hc _ _ (hx 2 (by omega))
   rw [add_lit, Nat.zero_add] at c0 c1 c2
   refine ⟨(Array.getElem?_eq_some_iff.1 hg).1, ?_, ?_, ?_⟩
   · rw [Nat.zero_add]; exact c0
   · rw [Nat.zero_add]; exact c1
   · rw [Nat.zero_add]; exact c2

def TRowK (b0 B : Nat) (pre : List TKo) (W : World) : Prop := ∃ u, Boxed W B 67 u ∧ W.ownsRow b0 65 3 u pre.length ((pre.map Subtype.val).flatMap ktcells) ∧ True
theorem TRowK.own (b0 B : Nat) : Own (TRowK b0 B) := holdsRow_own b0 B 67 65 3 (fun pre : List TKo => pre.length) (fun pre : List TKo => (pre.map Subtype.val).flatMap ktcells) (fun _ _ => True)

def RetK (K : List TK) (w : World) (e : Ending) (w' : World) : Prop := ∃ u, e = .returned u ∧ w'.ownsRow w.heap.size 65 3 u K.length (K.flatMap ktcells) ∧ Below w.heap.size w w'

set_option maxRecDepth 100000 in
set_option maxHeartbeats 4000000 in
theorem aseq_any (t : Option Addr) (Ba N : Nat) (F : Tst) (K : List TK) (w : World) (h : TRead w t N F K) (hN : N ≤ 1000000) (hBa : Ba < w.heap.size) (ha : w.cell? ⟨Ba, 0, none⟩ = some (.pointer t)) :
 Calls Tryz.prog 74 #[.slice none 0 0, .func (.func 70) #[] #[.pointer (some ⟨Ba, 0, none⟩)]] w (RetK K w) := by
 obtain ⟨i0, hi, hz0, hz1, hz2⟩ := info_parts infoTk
 have HT := Lib.hid h
 have hmm : maxLen = 9223372036854775807 := rfl
 clear h
 refine (callsIn_wide (n := 6)).1 ?_
 refine callsIn_of_wp_marks Tryz.func74 rfl trivial ?_ rfl
 simp only [Tryz.ntmps74, List.size_toArray, List.length_cons, List.length_nil, Nat.reduceAdd, Nat.reduceSub, Array.replicate_succ, Array.replicate_zero, List.push_toArray, List.append_toArray, List.nil_append, List.cons_append]
 gi_wp2
 have bS := Boxed.new w 67 (.slice none 0 0)
 have hB0 : Below w.heap.size w (w.alloc (.cells #[.slice none 0 0] 67)) := (Below.refl _ w).alloc (Nat.le_refl _) _
 have hsz : (w.alloc (.cells #[.slice none 0 0] 67)).heap.size = w.heap.size + 1 := by rw [World.size_alloc]
 obtain ⟨W0, hW0⟩ : ∃ W0, w.alloc (.cells #[.slice none 0 0] 67) = W0 := ⟨_, rfl⟩
 rw [hW0] at bS hB0 hsz ⊢
 clear hW0
 have ha0 := (hB0.cell (p := ⟨Ba, 0, none⟩) hBa).trans ha
 refine wpIn_rangeG (w.heap.size + 1) rfl (fun hd => by cases hd) (gf := 70) (lb := #[.pointer (some ⟨Ba, 0, none⟩)]) rfl trivial (enters_of Tryz.func70 (by kernel_rfl) rfl)
  ((HT.out.mono hB0).stops hN _ Ba (w.heap.size + 1) (by omega) ha0 (by omega)) (fun _ => rfl)
  (fun H pre W => TRowK H w.heap.size pre W ∧ Below w.heap.size w W)
  (fun _ _ _ _ => False)
  (fun H => OwnFrom.and (Own.from (TRowK.own _ _) _) (ownFrom_below (Nat.le_refl _) (by omega)))
  (fun _ _ _ _ _ _ hs _ _ => hs)
  (fun H hH => ⟨⟨_, bS, World.ownsRow_nil _ _ _ _, trivial⟩, hB0⟩)
  (fun x a' W => ∃ Bx, w.heap.size < Bx ∧ CBox W Bx 65 #[.int .i64 x.1.1, .string (bstr x.1.2.1), .int .i64 x.1.2.2] ∧ a' = { tmps := #[.slice none 0 0, .func (.func 70) #[] #[.pointer (some ⟨Ba, 0, none⟩)], .pointer (some ⟨w.heap.size, 0, none⟩), undef, .slice none 0 0, .pointer (some ⟨Bx, 0, none⟩), .func (.func 70) #[] #[.pointer (some ⟨Ba, 0, none⟩)], encT x.1, undef, undef, undef, undef, undef], defers := [] })
  (fun x a' _ X Y row hs hg hr => by obtain ⟨Bx, h1, h2, h3⟩ := hs; exact ⟨Bx, h1, tcbox_own Bx _ _ () X Y row h2 hg (fun r e => (hr r e).2), h3⟩)
  ?assign ?body ?done ?stop
 case assign =>
  rintro l H pre ⟨⟨xv, xg, xp⟩, hx⟩ W Kx hH1 hH2 ⟨⟨u, hu, hrow, _⟩, hW⟩ hK
  have hWs := hW.size
  have hul := hu.lt
  simp only [encT]
  gi_wp2
  exact hK _ _ ((KeepsOthers.alloc _ _).from _) (KeepsR.alloc _ _ _ _) ⟨⟨u, hu.alloc _, hrow.alloc _, trivial⟩, hW.alloc hWs _⟩ ⟨W.heap.size, hul, CBox.new _ rfl, rfl⟩
 case body =>
  rintro l H pre ⟨⟨xv, xg, xp⟩, hx⟩ a' W hl hH1 hH2 hr ⟨⟨u, hu, hrow, _⟩, hW⟩ ⟨Bx, hBx, bX, rfl⟩ hlt
  have cu := hu.cell
  obtain ⟨k0, _⟩ := bX.at_ 0 _ rfl
  obtain ⟨k1, _⟩ := bX.at_ 1 _ rfl
  obtain ⟨k2, _⟩ := bX.at_ 2 _ rfl
  have HSL := Lib.hid (show pre.length + 1 ≤ 1000001 from by omega)
  have HWS := Lib.hid (show w.heap.size ≤ H ∧ w.heap.size ≤ W.heap.size ∧ H ≤ W.heap.size from by omega)
  have HRW := Lib.hid hrow
  clear hlt hr
  gi_wp2_with (gi_at_builtin; refine wpListIn_append_own _ rfl _ _ 67 rfl H 65 i0 (.agg #[.int .i64 0, .string ⟨#[]⟩, .int .i64 0]) 3 32 Tryz.underlying67 hi hz0 hz1 hz2 rfl (by decide) _ _ _ rfl (hrow.alloc _) ⟨W.heap.size, 0, none⟩ 1 1 (ktcells (xv, xg, xp)) rfl rfl (ktcells_new _ (xv, xg, xp) _) (ktcells_one _) (by have := HSL.out; omega) (by have := HSL.out; omega) (by have := HWS.out; simp; omega) ?_; intro v' w1 hown' hgrow _; obtain ⟨g', cap', rfl⟩ := ownsRow_succ hown'; obtain ⟨hv1, hv2, _, hk2, hb2⟩ := hu.appended (by decide) (town_base hrow HWS.out.1) HWS.out.2.1 (by omega) (town_base hown' HWS.out.1) hgrow; have hr2 := hown'.kept (grownBy_setCell' w1 w.heap.size (.slice (some ⟨g', 0, none⟩) (pre.length + 1) cap')) (.inr (hv1.not_row (by decide) hown').symm); have hc1 := hv1.cell; have hf1 := hv1.frozen)
  have hkr : KeepsR (w.heap.size + 1) H W (w1.setCell ⟨w.heap.size, 0, none⟩ (.slice (some ⟨g', 0, none⟩) (pre.length + 1) cap')) :=
   ((KeepsR.alloc _ _ _ _).trans (KeepsR.grown hgrow fun r e => .inr (HRW.out.lt r e).1)).trans (KeepsR.grown (grownBy_setCell' _ _ _) fun r e => by injection e with e; subst e; exact .inl (Nat.lt_succ_self _))
  exact ⟨hk2.from _, hkr, ⟨by
   unfold TRowK
   rw [List.map_append, List.map_cons, List.map_nil]
   exact ⟨_, hv2, by simpa using hr2, trivial⟩, hW.trans hb2⟩⟩
 case done =>
  rintro D H ys W hD hDH hys ⟨⟨u, hu, hrow, _⟩, hW⟩ hK
  have cu := hu.cell
  have HY := Lib.hid hys
  have HR := Lib.hid hrow
  have HW := Lib.hid hW
  clear hys hrow hW hu
  gi_wp2
  refine ⟨by simp, .inl ⟨_, _, rfl, run_takeDeferred hK, ?_⟩⟩
  have hR2 := town_keep (town_base (base' := w.heap.size) HR.out (by omega)) (tckeep_putObj (.deferred none) hK rfl)
  exact ⟨_, results_tmp rfl _ _ _, u, rfl, by rw [← HY.out, List.length_map]; exact hR2, HW.out.trans (belowK_b (w := w) (Nat.le_refl _) W D _ _ (by omega) hK rfl rfl)⟩
 case stop =>
  rintro D H c pre W _ _ _ h _
  exact h.elim

theorem acollect_any (t : Option Addr) (Ba N : Nat) (F : Tst) (K : List TK) (w : World) (h : TRead w t N F K) (hN : N ≤ 1000000) (hBa : Ba < w.heap.size) (ha : w.cell? ⟨Ba, 0, none⟩ = some (.pointer t)) :
 Calls Tryz.prog 45 #[.func (.func 70) #[] #[.pointer (some ⟨Ba, 0, none⟩)]] w (RetK K w) := by
 have HS := Lib.hid (aseq_any t Ba N F K w h hN hBa ha)
 clear h ha
 go_enter Tryz.func45, Tryz.ntmps45
 go_wp2_with ((with_reducible refine HS.out.mono ?_); rintro e w' ⟨u, rfl, h1, h2⟩; have HR := Lib.hid (And.intro h1 h2); clear h1 h2 HS)
 go_ret
 exact ⟨_, rfl, HR.out⟩

theorem all_call (t : Option Addr) (w : World) : Calls Tryz.prog 44 #[.pointer t] w fun e w' => e = .returned (.func (.func 70) #[] #[.pointer (some ⟨w.heap.size, 0, none⟩)]) ∧ w' = w.alloc (.cells #[.pointer t] 25) := (callsIn_wide (n := 6)).1 (tall_in _ _ _)

def RetKts (K : List TK) (w : World) (e : Ending) (w' : World) : Prop := ∃ u, e = .returned u ∧ Kts w' u K ∧ Lies w.heap.size u ∧ Below w.heap.size w w'
theorem keys_fn (t : Option Addr) (N : Nat) (F : Tst) (K : List TK) (w : World) (h : TRead w t N F K) (hN : N ≤ 1000000) :
 Calls Tryz.prog 26 #[.pointer t] w (RetKts K w) := by
 have hb : Below w.heap.size w (w.alloc (.cells #[.pointer t] 25)) := (Below.refl _ _).alloc (Nat.le_refl _) _
 have HS := Lib.hid (acollect_any t w.heap.size N F K (w.alloc (.cells #[.pointer t] 25)) (h.mono hb) hN (by simp) ((show CBox (w.alloc (.cells #[.pointer t] 25)) w.heap.size 25 #[.pointer t] from CBox.new _ rfl).at_ 0 _ rfl).1)
 have HB := Lib.hid hb
 clear h hb
 go_enter Tryz.func26, Tryz.ntmps26
 go_wp2_with (first | ((with_reducible refine (all_call _ _).mono ?_); rintro e w' ⟨rfl, rfl⟩) | ((with_reducible refine HS.out.mono ?_); rintro e w' ⟨u, rfl, h1, h2⟩; have HR := Lib.hid (And.intro h1 h2); clear h1 h2 HS))
 go_ret
 exact ⟨_, rfl, Kts.own HR.out.1, (Lies.own HR.out.1).mono HB.out.size, HB.out.trans (HR.out.2.mono HB.out.size)⟩
end Go.Proofs.YtpibmjkbebkilaaGreat
