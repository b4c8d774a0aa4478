/- Texts joined into one file: TKeys, TDrop, TTight, TExpire. -/
import Derived.Test.YthcdppppppgckaaGreatDoorC24
import Derived.Test.YthcdppppppgckaaGreatDoorC20

namespace Go.Proofs.YthcdppppppgckaaGreatDoor
open Go.RowKit Go.Lib Go.Maps Go.Sort Go.Shelf
set_option maxRecDepth 20000
attribute [local go_sem] Oper.semAt_some

theorem Kts.own {w : World} {base : Nat} {v : Value} {K : List TK} (h : w.ownsRow base 177 3 v K.length (K.flatMap ktcells)) : Kts w v K := by
 rcases h.2 with ⟨rfl, h0⟩ | ⟨g, cap, cur, rfl, hb, hg, hn, hm, hs, ht⟩
 · rw [List.length_eq_zero_iff] at h0
   subst h0
   exact Kts.nil w
 · refine ⟨_, cap, g, 0, rfl, .inr rfl, fun k hk => ?_⟩
   have hc := h.cells (g := g) rfl
   have hx : ∀ j, j < 3 → (K.flatMap ktcells)[k * 3 + j]? = some ((ktcells (K.getD k default))[j]!) := fun j hj => by
    have := tkflat_get K (k * 3 + j) (by omega)
    rw [show (k * 3 + j) / 3 = k from by omega, show (k * 3 + j) % 3 = j from by omega] at this
    exact this
   have c0 := hc _ _ (hx 0 (by omega))
   have c1 := hc _ _ (hx 1 (by omega))
   have c2 := hc _ _ (hx 2 (by omega))
   rw [add_lit, Nat.zero_add] at c0 c1 c2
   refine ⟨(Array.getElem?_eq_some_iff.1 hg).1, ?_, ?_, ?_⟩
   · rw [Nat.zero_add]; exact c0
   · rw [Nat.zero_add]; exact c1
   · rw [Nat.zero_add]; exact c2

def TRowK (b0 B : Nat) (pre : List TKo) (W : World) : Prop := ∃ u, Boxed W B 270 u ∧ W.ownsRow b0 177 3 u pre.length ((pre.map Subtype.val).flatMap ktcells) ∧ True
theorem TRowK.own (b0 B : Nat) : Own (TRowK b0 B) := holdsRow_own b0 B 270 177 3 (fun pre : List TKo => pre.length) (fun pre : List TKo => (pre.map Subtype.val).flatMap ktcells) (fun _ _ => True)


attribute [local go_sem] Oper.semAt_some

theorem CKeep.of_far {X Y : World} {row : Option Nat} (hg : X.grownBy Y row) (hr : ∀ r, row = some r → ∃ o : Obj, X.heap[r]? = some o ∧ o.isCells = false) : CKeep X Y :=
 ⟨hg.size, fun j cs T fr e => (hg.block j (Array.getElem?_eq_some_iff.1 e).1 (fun q => by
  obtain ⟨o, ho, hc⟩ := hr j q.symm
  rw [e] at ho
  injection ho with ho
  subst ho
  cases hc)).trans e⟩
theorem Tb.far {X Y : World} {p b o n m : Nat} {room M L : Int} {F : Tst} {O : Int → Option Int} {row : Option Nat} {B : Nat} (h : Tb X p b o n m room M L F O) (hg : X.grownBy Y row) (hr : ∀ r, row = some r → B ≤ r ∧ ∃ o : Obj, X.heap[r]? = some o ∧ o.isCells = false) (hb : b < B) (ho : o < B) : Tb Y p b o n m room M L F O := by
 obtain ⟨V, hV, hH⟩ := h.states
 obtain ⟨U, hU, hO⟩ := h.overs
 have hc := CKeep.of_far hg (fun r e => (hr r e).2)
 exact ⟨hc.box h.box, ⟨V, hV.kept hg (fun e => by have := (hr b e.symm).1; omega), hH.keep hc⟩, ⟨U, hU.kept hg (fun e => by have := (hr o e.symm).1; omega), hO⟩, h.ne⟩
theorem MTurn.far {X Y w : World} {b o : Nat} {row : Option Nat} {B : Nat} (h : MTurn b o w X) (hg : X.grownBy Y row) (hr : ∀ r, row = some r → B ≤ r) (hB : w.heap.size ≤ B) : MTurn b o w Y :=
 ⟨hg.os.trans h.os, hg.tape.trans h.tape, hg.output.trans h.output, Nat.le_trans h.size hg.size, fun k hk h1 h2 => (hg.block k (Nat.lt_of_lt_of_le hk h.size) (fun e => by have := hr k e.symm; omega)).trans (h.block k hk h1 h2)⟩
theorem Tb.setBox {W : World} {p b o n m B : Nat} {room M L z : Int} {F : Tst} {O : Int → Option Int} {T : TypeId} (h : Tb W p b o n m room M L F O) (hB : CBox W B T #[.int .i64 z]) (hp : B ≠ p) (u : Value) : Tb (W.setCell ⟨B, 0, none⟩ u) p b o n m room M L F O := by
 obtain ⟨V, hV, hH⟩ := h.states
 obtain ⟨U, hU, hO⟩ := h.overs
 have hb' : W.heap[B]? = some _ := hB
 have hs : ∀ (i : Nat) (s : ByteArray), (#[.int .i64 z] : Array Value)[i]? ≠ some (Value.string s) := fun i s => by
  match i with
  | 0 => simp
  | i + 1 => simp
 refine ⟨h.box.far (p := ⟨B, 0, none⟩) (Ne.symm hp) u, ⟨V, hV.set (p := ⟨B, 0, none⟩) (fun e => ?_) u, fun k => ?_⟩, ⟨U, hU.set (p := ⟨B, 0, none⟩) (fun e => ?_) u, hO⟩, h.ne⟩
 · obtain ⟨es, c, e'⟩ := hV.map_is
   rw [show b = B from e, hb'] at e'
   cases e'
 · have := hH k
   cases hF : F k
   · rw [hF] at this; exact this
   · rw [hF] at this
     obtain ⟨v, e, hT, hw⟩ := this
     exact ⟨v, e, hT.apart (p := ⟨B, 0, none⟩) (fun hL c hc => hT.ne_box hB hs hL c hc) u, hw⟩
 · obtain ⟨es, c, e'⟩ := hU.map_is
   rw [show o = B from e, hb'] at e'
   cases e'

end Go.Proofs.YthcdppppppgckaaGreatDoor

namespace Go.Proofs.YthcdppppppgckaaGreatDoor
open Go.RowKit Go.Lib Go.Maps Go.Sort
set_option maxRecDepth 20000
section
variable {P : Program} {T : TypeId} {κ : Type} {K : KeyEnc P T κ} {w : World} {b n : Nat} {F : κ → Option Value}
theorem KeysV.len {L M : List κ} (h : KeysV F L) (h' : KeysV F M) : L.length = M.length := ((List.perm_ext_iff_of_nodup h.1 h'.1).2 fun k => (h.2 k).trans (h'.2 k).symm).length_eq
theorem World.ownsMap.tight {H : Type} {R : Value → Option (DataW H × List MemPlace)} {D : DataW H} (h : w.ownsMap P T R b n D) : w.ownsMap P T R b (Maps.size D) D := by
 obtain ⟨es, clock, hb, F, _, rfl⟩ := h
 exact ⟨es, clock, hb, F, by simp [Maps.size, length_sorted], rfl⟩
theorem VMap.tight {t e : TypeId} (h : VMap K w b n F) (ht : P.underlying t = some (.map T e)) {L : List κ} (hL : KeysV F L) : VMap K w b L.length F := by
 obtain ⟨L', h1, _, h2⟩ := h.count ht
 obtain ⟨h0, D, hd, e'⟩ := h
 have h3 := hd.len ht 0
 rw [h2 0] at h3
 injection h3 with h3
 injection h3 with _ h3
 have hl : L.length = Maps.size D := by rw [hL.len h1]; exact Int.ofNat.inj h3
 rw [hl]
 exact ⟨h0, D, World.ownsMap.tight hd, e'⟩
end
theorem Tb.tight {w : World} {p b o n m : Nat} {room M L : Int} {F : Tst} {O : Int → Option Int} {K : List TK} (h : Tb w p b o n m room M L F O) (hK : KeysS F K) : Tb w p b o K.length m room M L F O := by
 obtain ⟨V, hV, hH⟩ := h.states
 exact ⟨h.box, ⟨V, hV.tight Tryz.underlying152 (hH.keys hK), hH⟩, h.overs, h.ne⟩
theorem tbw_own' {β : Type} {w : World} {p b o m B : Nat} {room M L : Int} {O : Int → Option Int} (f : β → Tst) (g : β → Nat) (hb : b < B) (ho : o < B) (hB : w.heap.size ≤ B) : OwnFrom B (fun s W => Tb W p b o (g s) m room M L (f s) O ∧ MTurn b o w W) :=
 fun _ _ _ _ hs hg hr => ⟨hs.1.far hg hr hb ho, hs.2.far hg (fun r e => (hr r e).1) hB⟩
end Go.Proofs.YthcdppppppgckaaGreatDoor

namespace Go.Proofs.YthcdppppppgckaaGreatDoor
open Go.RowKit Go.Lib Go.Maps Go.Sort Go.Shelf
set_option maxRecDepth 20000
attribute [local go_sem] Oper.semAt_some

def expStep (now : Int) (F : Tst) (x : TK) : Tst := if (pexp (oldS F x) now).2 then updS F x (pexp (oldS F x) now).1 else delS F x
def expF (F : Tst) (now : Int) (l : List TK) : Tst := l.foldl (expStep now) F
def expN : Tst → Int → List TK → Nat
 | _, _, [] => 0
 | F, now, x :: l => (if (pexp (oldS F x) now).2 then 0 else 1) + expN (expStep now F x) now l
theorem expF_snoc (F : Tst) (now : Int) (l : List TK) (x : TK) : expF F now (l ++ [x]) = expStep now (expF F now l) x := by simp [expF]
theorem expN_snoc (now : Int) (x : TK) : ∀ (l : List TK) (F : Tst), expN F now (l ++ [x]) = expN F now l + if (pexp (oldS (expF F now l) x) now).2 then 0 else 1
 | [], F => by
   simp only [expN, expF, List.foldl_nil, List.nil_append, Nat.add_zero, Nat.zero_add]
   split <;> simp_all
 | y :: l, F => by
   have := expN_snoc now x l (expStep now F y)
   simp only [List.cons_append, expN, this]
   rw [show expF F now (y :: l) = expF (expStep now F y) now l from rfl]
   omega
theorem expN_le (now : Int) : ∀ (l : List TK) (F : Tst), expN F now l ≤ l.length
 | [], _ => Nat.le_refl _
 | x :: l, F => by
   have := expN_le now l (expStep now F x)
   simp only [expN, List.length_cons]
   split <;> omega
theorem del_upd (F : Tst) (x : TK) (s : Stt) : delS (updS F x s) x = delS F x := by
 funext y
 unfold delS updS
 split <;> rfl
def byNow (F : Tst) (now : Int) : Tst := fun x => match F x with | none => none | some s => if (pexp s now).2 then some (pexp s now).1 else none
theorem expStep_at (now : Int) (F : Tst) (x y : TK) : expStep now F x y = if y = x then (if (pexp (oldS F x) now).2 then some (pexp (oldS F x) now).1 else none) else F y := by
 unfold expStep
 split
 · rename_i h
   unfold updS
   split
   · simp
   · rfl
 · rename_i h
   unfold delS
   split
   · simp
   · rfl
theorem expF_at (now : Int) : ∀ (l : List TK) (F : Tst) (x : TK), l.Nodup → (∀ y ∈ l, F y ≠ none) → expF F now l x = if x ∈ l then byNow F now x else F x
 | [], F, x, _, _ => by simp [expF]
 | y :: l, F, x, hn, hF => by
   rw [List.nodup_cons] at hn
   have hy := hF y (List.mem_cons_self ..)
   have hb : ∀ z, z ≠ y → expStep now F y z = F z := fun z hz => by rw [expStep_at, if_neg hz]
   have h := expF_at now l (expStep now F y) x hn.2 (fun z hz => by
    rw [hb z (fun e => hn.1 (e ▸ hz))]
    exact hF z (List.mem_cons_of_mem _ hz))
   rw [show expF F now (y :: l) x = expF (expStep now F y) now l x from rfl, h]
   by_cases e : x = y
   · subst e
     rw [if_neg hn.1, if_pos (List.mem_cons_self ..), expStep_at, if_pos rfl]
     unfold byNow oldS
     cases hq : F x with
     | none => exact absurd hq hy
     | some s => rfl
   · by_cases hx : x ∈ l
     · rw [if_pos hx, if_pos (List.mem_cons_of_mem _ hx)]
       unfold byNow
       rw [hb x e]
     · have hq : ¬ x ∈ y :: l := fun h => hx ((List.mem_cons.1 h).resolve_left e)
       rw [if_neg hx, if_neg hq, hb x e]
theorem expF_all {F : Tst} {K : List TK} (h : KeysS F K) (now : Int) : expF F now K = byNow F now := by
 funext x
 rw [expF_at now K F x h.nodup (fun y hy => (h.2 y).1 hy)]
 split
 · rfl
 · rename_i hx
   have : F x = none := by
    cases hF : F x
    · rfl
    · exact absurd ((h.2 x).2 (by rw [hF]; simp)) hx
   unfold byNow
   rw [this]
theorem byNow_dom {F : Tst} {now : Int} {x : TK} (h : byNow F now x ≠ none) : F x ≠ none := fun e => h (by unfold byNow; rw [e])

set_option maxRecDepth 100000 in
set_option maxHeartbeats 8000000 in
theorem expireT_any (p b o N m : Nat) (room M L now : Int) (F : Tst) (O : Int → Option Int) (K : List TK) (w : World) (h : Tb w p b o N m room M L F O) (hK : KeysS F K) (hN : N ≤ 400000) (hn : 1 ≤ now ∧ now ≤ 1099511627776) :
 Calls Tryz.prog 68 #[.pointer (some ⟨p, 0, none⟩), .int .i64 now] w fun e w' => e = .returned (.int .i64 (expN F now K)) ∧ (∃ n', n' ≤ K.length ∧ Tb w' p b o n' m room M L (byNow F now) O) ∧ MTurn b o w w' := by
 have hz : ∀ w, (zeroValue 181).run Tryz.prog w = .ok noState w := fun w => Tryz.zeroValue181 w
 have hwi : (decide (1 ≤ now) && decide (now ≤ 1099511627776)) = true := by simp [hn]
 have HT := Lib.hid h
 have HR := Lib.hid (show TRead w (some ⟨p, 0, none⟩) N F K from ⟨hK, .inr ⟨p, b, o, m, room, M, L, O, rfl, h⟩⟩)
 have HK := Lib.hid hK
 have HL := Lib.hid h.lt
 have hkl : K.length ≤ N := by
  obtain ⟨K', hK', h', _⟩ := h.keys
  rw [hK.unique hK']; exact h'
 have HKL := Lib.hid hkl
 have HWI := Lib.hid (fun W => twithin_any now 1 1099511627776 W)
 rw [hwi] at HWI
 clear h hK hwi hn hkl
 refine (callsIn_wide (n := 6)).1 ?_
 refine callsIn_of_wp_marks Tryz.func68 rfl trivial ?_ rfl
 simp only [Tryz.ntmps68, List.size_toArray, List.length_cons, List.length_nil, Nat.reduceAdd, Nat.reduceSub, Array.replicate_succ, Array.replicate_zero, List.push_toArray, List.append_toArray, List.nil_append, List.cons_append]
 gi_wp2_with (first
  | (refine ⟨trivial, ?_⟩; gi_at_call 84; refine (callsIn_wide.2 (HWI.out _)).mono ?_; rintro e w' ⟨rfl, rfl⟩)
  | (refine ⟨trivial, ?_⟩; gi_at_call 99; refine (tall_in _ _ _).mono ?_; rintro e w' ⟨rfl, rfl⟩))
 have hB0 : Below w.heap.size w ((((w.alloc (.cells #[.pointer (some ⟨p, 0, none⟩)] 81)).alloc (.cells #[.int .i64 now] 3)).alloc (.cells #[.int .i64 0] 3)).alloc (.cells #[.pointer (some ⟨p, 0, none⟩)] 81)) := ((((Below.refl _ w).alloc (Nat.le_refl _) _).alloc (by simp) _).alloc (by simp <;> omega) _).alloc (by simp <;> omega) _
 have b0 := (((CBox.new (w := w) (T := 81) #[.pointer (some ⟨p, 0, none⟩)] rfl).old (.cells #[.int .i64 now] 3)).old (.cells #[.int .i64 0] 3)).old (.cells #[.pointer (some ⟨p, 0, none⟩)] 81)
 have b1 := ((CBox.new (w := w.alloc (.cells #[.pointer (some ⟨p, 0, none⟩)] 81)) (T := 3) #[.int .i64 now] rfl).old (.cells #[.int .i64 0] 3)).old (.cells #[.pointer (some ⟨p, 0, none⟩)] 81)
 have b2 := (CBox.new (w := (w.alloc (.cells #[.pointer (some ⟨p, 0, none⟩)] 81)).alloc (.cells #[.int .i64 now] 3)) (T := 3) #[.int .i64 0] rfl).old (.cells #[.pointer (some ⟨p, 0, none⟩)] 81)
 have b3 := CBox.new (w := ((w.alloc (.cells #[.pointer (some ⟨p, 0, none⟩)] 81)).alloc (.cells #[.int .i64 now] 3)).alloc (.cells #[.int .i64 0] 3)) (T := 81) #[.pointer (some ⟨p, 0, none⟩)] rfl
 obtain ⟨W0, hW0⟩ : ∃ W0, ((((w.alloc (.cells #[.pointer (some ⟨p, 0, none⟩)] 81)).alloc (.cells #[.int .i64 now] 3)).alloc (.cells #[.int .i64 0] 3)).alloc (.cells #[.pointer (some ⟨p, 0, none⟩)] 81)) = W0 := ⟨_, rfl⟩
 have hsz : W0.heap.size = w.heap.size + 4 := by rw [← hW0]; simp
 rw [hW0] at hB0 b0 b1 b2 b3 ⊢
 clear hW0
 simp only [World.size_alloc] at b1 b2 b3
 refine wpIn_rangeG (w.heap.size + 1 + 1 + 1) rfl (fun hd => by cases hd) (gf := 160) (lb := #[.pointer (some ⟨w.heap.size + 1 + 1 + 1, 0, none⟩)]) rfl trivial (enters_of Tryz.func160 (by kernel_rfl) rfl)
  ((HR.out.mono hB0).stops (by omega) _ (w.heap.size + 1 + 1 + 1) (w.heap.size + 1 + 1 + 1) (by omega) (b3.at_ 0 _ rfl).1 (by omega)) (fun _ => rfl)
  (fun H pre W => (CBox W w.heap.size 81 #[.pointer (some ⟨p, 0, none⟩)] ∧ CBox W (w.heap.size + 1) 3 #[.int .i64 now] ∧ (fun (l : List TKo) W => CBox W (w.heap.size + 1 + 1) 3 #[.int .i64 (expN F now (l.map Subtype.val))]) pre W) ∧ (Tb W p b o (N + pre.length) m room M L (expF F now (pre.map Subtype.val)) O ∧ MTurn b o w W))
  (fun _ _ _ _ => False)
  (fun H => OwnFrom.and (OwnFrom.and (Own.from (fun (_ : List TKo) => tcbox_own _ _ _ ()) _) (OwnFrom.and (Own.from (fun (_ : List TKo) => tcbox_own _ _ _ ()) _) (Own.from (fun (l : List TKo) => tcbox_own _ _ _ ()) _))) (tbw_own' (fun l : List TKo => expF F now (l.map Subtype.val)) (fun l : List TKo => N + l.length) (by have := HL.out; omega) (by have := HL.out; omega) (by omega)))
  (fun _ _ _ _ _ _ hs _ _ => hs)
  (fun H hH => ⟨⟨b0, b1, b2⟩, HT.out.mono hB0, MTurn.of_below hB0⟩)
  (fun x a' W => ∃ Bx, w.heap.size + 1 + 1 < Bx ∧ CBox W Bx 177 #[.int .i64 x.1.1, .string (bstr x.1.2.1), .int .i64 x.1.2.2] ∧ a' = { tmps := #[.pointer (some ⟨p, 0, none⟩), .int .i64 now, .pointer (some ⟨w.heap.size, 0, none⟩), .pointer (some ⟨w.heap.size + 1, 0, none⟩), .int .i64 0, .pointer (some ⟨w.heap.size + 1 + 1, 0, none⟩), .pointer (some ⟨Bx, 0, none⟩), undef, undef, .int .i64 now, .bool true, .bool false, .pointer (some ⟨p, 0, none⟩), .func (.func 160) #[] #[.pointer (some ⟨w.heap.size + 1 + 1 + 1, 0, none⟩)], encT x.1, undef, undef, undef, undef, undef, undef, undef, undef, undef, undef, undef, undef, undef, undef, undef, undef, undef, undef, undef, undef, undef, undef, undef, undef, undef, undef, undef], defers := [] })
  (fun x a' _ X Y row hs hg hr => by obtain ⟨Bx, h1, h2, h3⟩ := hs; exact ⟨Bx, h1, tcbox_own Bx _ _ () X Y row h2 hg (fun r e => (hr r e).2), h3⟩)
  ?assign ?body ?done ?stop
 case assign =>
  rintro l H pre ⟨⟨xv, xg, xp⟩, hx⟩ W Kx hH1 hH2 ⟨⟨hb0, hb1, hb2⟩, hT, hM⟩ hK
  have hul := hb2.lt
  have hal := World.grownBy_alloc W (.cells #[.int .i64 xv, .string (bstr xg), .int .i64 xp] 177) none
  simp only [encT]
  gi_wp2
  exact hK _ _ ((KeepsOthers.alloc _ _).from _) (KeepsR.alloc _ _ _ _) ⟨⟨hb0.old _, hb1.old _, hb2.old _⟩, hT.mono ((Below.refl _ _).alloc (Nat.le_refl _) _), hM.trans (MTurn.of_below ((Below.refl _ _).alloc (Nat.le_refl _) _))⟩ ⟨W.heap.size, hul, CBox.new _ rfl, rfl⟩
 case body =>
  rintro l H pre ⟨⟨xv, xg, xp⟩, hx⟩ a' W hl hH1 hH2 hr ⟨⟨hb0, hb1, hb2⟩, hT, hM⟩ ⟨Bx, hBx, bX, rfl⟩ hlt
  have HX := Lib.hid (And.intro hb0 (And.intro hb1 hb2))
  have HI := Lib.hid (And.intro hT hM)
  have HXB := Lib.hid bX
  have HSZ := Lib.hid hsz
  have HH := Lib.hid (And.intro hH1 (And.intro hH2 hlt))
  have HOK := Lib.hid hx
  obtain ⟨G, hG⟩ : ∃ G, G = expF F now (pre.map Subtype.val) := ⟨_, rfl⟩
  have HG := Lib.hid hG
  obtain ⟨c, hc⟩ : ∃ c, c = expN F now (pre.map Subtype.val) := ⟨_, rfl⟩
  have hcb : c ≤ 1000000 := by have := expN_le now (pre.map Subtype.val) F; rw [List.length_map] at this; omega
  have HC := Lib.hid hc
  rw [← hG] at hT
  obtain ⟨V, hV, hH⟩ := hT.states
  obtain ⟨sv, he, hTm, _, hw⟩ := hH.at_ (xv, xg, xp)
  have hd : Below W.heap.size W W.drew := Below.drew (Below.refl _ _)
  obtain ⟨ao, cap, rfl⟩ := hTm.shape
  have hbp := hT.box
  have HF := Lib.hid (show ∀ wq, Below W.heap.size W wq → wq.cell? ⟨w.heap.size, 0, none⟩ = some (.pointer (some ⟨p, 0, none⟩)) ∧ wq.cell? ⟨w.heap.size + 1, 0, none⟩ = some (.int .i64 now) ∧ wq.cell? ⟨Bx, 0, none⟩ = some (.int .i64 xv) ∧ wq.cell? ⟨Bx, 1, none⟩ = some (.string (bstr xg)) ∧ wq.cell? ⟨Bx, 2, none⟩ = some (.int .i64 xp) ∧ wq.cell? ⟨p, 3, none⟩ = some (.map (some b)) ∧
   (Instr.lookup 152 (.map (some b)) (.agg #[.int .i64 xv, .string (bstr xg), .int .i64 xp]) false).run Tryz.prog wq = .ok (.agg #[.bool (oldS G (xv, xg, xp)).1, .int .i64 (oldS G (xv, xg, xp)).2.1, .slice ao (oldS G (xv, xg, xp)).2.2.length cap]) wq from fun wq hb =>
   ⟨(hb.cell hb0.lt).trans (hb0.at_ 0 _ rfl).1, (hb.cell hb1.lt).trans (hb1.at_ 0 _ rfl).1, (hb.cell (p := ⟨Bx, 0, none⟩) bX.lt).trans (bX.at_ 0 _ rfl).1, (hb.cell (p := ⟨Bx, 1, none⟩) bX.lt).trans (bX.at_ 1 _ rfl).1, (hb.cell (p := ⟨Bx, 2, none⟩) bX.lt).trans (bX.at_ 2 _ rfl).1, (hb.cell (p := ⟨p, 3, none⟩) hbp.lt).trans (hbp.at_ 3 _ rfl).1, by
     have := (hV.below hb hV.lt).get Tryz.underlying152 (hz wq) (xv, xg, xp) hx
     rw [he] at this
     exact this⟩)
  have HWF := Lib.hid (pexp_wf (oldS G (xv, xg, xp)) now hw)
  obtain ⟨⟨⟨ya, yt, yl⟩, yb⟩, hy⟩ : ∃ y, pexp (oldS G (xv, xg, xp)) now = y := ⟨_, rfl⟩
  have HEX := Lib.hid (fun (wq : World) (hb : Below W.heap.size W wq) => expire_st (oldS G (xv, xg, xp)) _ now wq (hTm.mono hb))
  rw [hy] at HEX HWF
  have HY := Lib.hid hy
  have HVH := Lib.hid (And.intro hV hH)
  clear hy hG hc hz he hT hV hH hTm hw hbp hb0 hb1 hb2 hM bX hl hH1 hH2 hr hBx hlt hB0 b0 b1 b2 b3
  dsimp only
  gi_wp2
  refine region_round (fun W' => Below W.heap.size W W') (by kernel_rfl) (by kernel_rfl) (by rintro ⟨a, w, h⟩; exact h) hd (fun hHeld => ?_)
  refine tkL 0 (v := ?_) rfl (by kernel_rfl) (fun _ _ _ => id) (Or.inl ⟨by rfl, ?_⟩) (by assumption) ?_; rotate_left; (focus (intro wq hSq; have f := HF.out wq hSq; go_simp <;> with_reducible rfl)); simp only [Act.put, pA, pB, pC]
  refine tkL 1 (v := ?_) rfl (by kernel_rfl) (fun _ _ _ => id) (Or.inl ⟨by rfl, ?_⟩) (by assumption) ?_; rotate_left; (focus (intro wq hSq; have f := HF.out wq hSq; go_simp <;> with_reducible rfl)); simp only [Act.put, pA, pB, pC]
  refine tkL 2 (v := ?_) rfl (by kernel_rfl) (fun _ _ _ => id) (Or.inl ⟨by rfl, ?_⟩) (by assumption) ?_; rotate_left; (focus (intro wq hSq; have f := HF.out wq hSq; go_simp <;> with_reducible rfl)); simp only [Act.put, pA, pB, pC]
  refine tkL 3 (v := ?_) rfl (by kernel_rfl) (fun _ _ _ => id) (Or.inl ⟨by rfl, ?_⟩) (by assumption) ?_; rotate_left; (focus (intro wq hSq; have f := HF.out wq hSq; go_simp <;> with_reducible rfl)); simp only [Act.put, pA, pB, pC]
  refine tkL 4 (v := ?_) rfl (by kernel_rfl) (fun _ _ _ => id) (Or.inl ⟨by rfl, ?_⟩) (by assumption) ?_; rotate_left; (focus (intro wq hSq; have f := HF.out wq hSq; go_simp <;> with_reducible rfl)); simp only [Act.put, pA, pB, pC]
  refine tkL 5 (v := ?_) rfl (by kernel_rfl) (fun _ _ _ => id) (Or.inl ⟨by rfl, ?_⟩) (by assumption) ?_; rotate_left; (focus (intro wq hSq; have f := HF.out wq hSq; go_simp <;> with_reducible rfl)); simp only [Act.put, pA, pB, pC]
  refine tkL 6 (v := ?_) rfl (by kernel_rfl) (fun _ _ _ => id) (Or.inl ⟨by rfl, ?_⟩) (by assumption) ?_; rotate_left; (focus (intro wq hSq; have f := HF.out wq hSq; go_simp <;> with_reducible rfl)); simp only [Act.put, pA, pB, pC]
  refine wpAnyH_ready (rs := [7, 11]) (by kernel_rfl) (by simp) (nextL 7 rfl (fun Kr hKr => ?_) (nextL 11 rfl (fun Kr hKr => ?_) AllReadyH.nil))
  · go_simp
    refine (HEX.out _ hd).mono ?_
    rintro e w1 ⟨sv, rfl, hT1, hbw⟩
    obtain ⟨so, sc, rfl⟩ := hT1.shape
    unfold encS
    dsimp only
    refine hKr.out _ _ (hd.trans (hbw.mono hd.size)) (fun hHeld2 => ?_)
    have HT1 := Lib.hid hT1
    clear hKr hHeld hbw hT1 HEX
    refine tkL 8 (v := ?_) rfl (by kernel_rfl) (fun _ _ _ => id) (Or.inl ⟨by rfl, ?_⟩) (by assumption) ?_; rotate_left; (focus (intro wq hSq; have f := HF.out wq hSq; go_simp <;> with_reducible rfl)); simp only [Act.put, pA, pB, pC]
    refine tkL 9 (v := ?_) rfl (by kernel_rfl) (fun _ _ _ => id) (Or.inl ⟨by rfl, ?_⟩) (by assumption) ?_; rotate_left; (focus (intro wq hSq; have f := HF.out wq hSq; go_simp <;> with_reducible rfl)); simp only [Act.put, pA, pB, pC]
    refine tkL 10 (v := ?_) rfl (by kernel_rfl) (fun _ _ _ => id) (Or.inl ⟨by rfl, ?_⟩) (by assumption) ?_; rotate_left; (focus (intro wq hSq; have f := HF.out wq hSq; go_simp <;> with_reducible rfl)); simp only [Act.put, pA, pB, pC]
    refine wpAnyH_ready (rs := [11]) (by kernel_rfl) (by simp) (nextL 11 rfl (fun Kr hKr => ?_) AllReadyH.nil)
    go_simp
    refine hKr.out _ _ (Below.alloc hHeld2 (Below.size hHeld2) _) (fun hHeld3 => ?_)
    clear hKr hHeld3
    refine wpAnyH_ready (rs := [12]) (by kernel_rfl) (by simp) (nextL 12 rfl (fun Kr hKr => ?_) AllReadyH.nil)
    go_simp
    refine hKr.out _ _ (Below.alloc hHeld2 (Below.size hHeld2) _) (fun hEnd => ?_)
    clear hKr
    refine tkL 13 (v := ?_) rfl (by kernel_rfl) (fun _ _ _ => id) (Or.inl ⟨by rfl, ?_⟩) (by assumption) ?_; rotate_left; (focus (intro wq hSq; have f := HF.out wq hSq; go_simp <;> with_reducible rfl)); simp only [Act.put, pA, pB, pC]
    refine wpAnyH_done (by kernel_rfl) ?_ _
    have HS := Lib.hid (show W.heap.size ≤ w1.heap.size ∧ CBox (w1.alloc (.cells #[.bool ya, .int .i64 yt, .slice so yl.length sc] 181)) w1.heap.size 181 #[.bool ya, .int .i64 yt, .slice so yl.length sc] ∧ Tms (w1.alloc (.cells #[.bool ya, .int .i64 yt, .slice so yl.length sc] 181)) (.slice so yl.length sc) yl from ⟨Below.size hHeld2, CBox.new _ rfl, HT1.out.mono ((Below.refl _ _).alloc (Nat.le_refl _) _)⟩)
    clear hHeld2 HT1
    generalize w1.alloc (.cells #[.bool ya, .int .i64 yt, .slice so yl.length sc] 181) = wz at hEnd HS ⊢
    generalize w1.heap.size = bs at HS ⊢
    have HEND := Lib.hid hEnd
    obtain ⟨f0, _, f2, f3, f4, f5, _⟩ := HF.out wz hEnd
    obtain ⟨g0, _⟩ := HS.out.2.1.at_ 0 _ rfl
    obtain ⟨g1, _⟩ := HS.out.2.1.at_ 1 _ rfl
    obtain ⟨g2, _⟩ := HS.out.2.1.at_ 2 _ rfl
    have hdz : CKeep wz wz.drew := CKeep.drew wz
    have hbz : Below wz.heap.size wz wz.drew := Below.drew (Below.refl _ _)
    have HF := Lib.hid (show ∀ wq, CKeep wz wq → wq.cell? ⟨w.heap.size, 0, none⟩ = some (.pointer (some ⟨p, 0, none⟩)) ∧ wq.cell? ⟨Bx, 0, none⟩ = some (.int .i64 xv) ∧ wq.cell? ⟨Bx, 1, none⟩ = some (.string (bstr xg)) ∧ wq.cell? ⟨Bx, 2, none⟩ = some (.int .i64 xp) ∧ wq.cell? ⟨p, 3, none⟩ = some (.map (some b)) ∧
     wq.cell? ⟨bs, 0, none⟩ = some (.bool ya) ∧ wq.cell? ⟨bs, 1, none⟩ = some (.int .i64 yt) ∧ wq.cell? ⟨bs, 2, none⟩ = some (.slice so yl.length sc) from fun wq hb =>
     ⟨hb.cell f0, hb.cell f2, hb.cell f3, hb.cell f4, hb.cell f5, hb.cell g0, hb.cell g1, hb.cell g2⟩)
    have hVz := (HVH.out.1.below hEnd HVH.out.1.lt).below hbz (HVH.out.1.below hEnd HVH.out.1.lt).lt
    obtain ⟨w2, hrun, hV2, hmt⟩ := hVz.put Tryz.underlying152 (xv, xg, xp) HOK.out (encS (ya, yt, yl) (.slice so yl.length sc)) (by have := HH.out.2.2; unfold maxLen; omega)
    have hrun' : (Instr.mapUpdate 152 (.map (some b)) (.agg #[.int .i64 xv, .string (bstr xg), .int .i64 xp]) (.agg #[.bool ya, .int .i64 yt, .slice so yl.length sc])).run Tryz.prog wz.drew = .ok () w2 := hrun
    have HMT := Lib.hid hmt; have HV2 := Lib.hid hV2
    have HCK := Lib.hid (CKeep.of_map hVz hmt.grown)
    clear hEnd f0 f2 f3 f4 f5 g0 g1 g2 hVz hrun hmt hV2
    gi_wp2
    refine region_round (fun W' => CKeep wz W') (by kernel_rfl) (by kernel_rfl) (by rintro ⟨a, w, h⟩; exact h) hdz (fun hHeld => ?_)
    refine tkL 0 (v := ?_) rfl (by kernel_rfl) (fun _ _ _ => id) (Or.inl ⟨by rfl, ?_⟩) (by assumption) ?_; rotate_left; (focus (intro wq hSq; have f := HF.out wq hSq; go_simp <;> with_reducible rfl)); simp only [Act.put, pA, pB, pC]
    refine tkL 1 (v := ?_) rfl (by kernel_rfl) (fun _ _ _ => id) (Or.inl ⟨by rfl, ?_⟩) (by assumption) ?_; rotate_left; (focus (intro wq hSq; have f := HF.out wq hSq; go_simp <;> with_reducible rfl)); simp only [Act.put, pA, pB, pC]
    refine tkL 2 (v := ?_) rfl (by kernel_rfl) (fun _ _ _ => id) (Or.inl ⟨by rfl, ?_⟩) (by assumption) ?_; rotate_left; (focus (intro wq hSq; have f := HF.out wq hSq; go_simp <;> with_reducible rfl)); simp only [Act.put, pA, pB, pC]
    refine tkL 3 (v := ?_) rfl (by kernel_rfl) (fun _ _ _ => id) (Or.inl ⟨by rfl, ?_⟩) (by assumption) ?_; rotate_left; (focus (intro wq hSq; have f := HF.out wq hSq; go_simp <;> with_reducible rfl)); simp only [Act.put, pA, pB, pC]
    refine tkL 4 (v := ?_) rfl (by kernel_rfl) (fun _ _ _ => id) (Or.inl ⟨by rfl, ?_⟩) (by assumption) ?_; rotate_left; (focus (intro wq hSq; have f := HF.out wq hSq; go_simp <;> with_reducible rfl)); simp only [Act.put, pA, pB, pC]
    refine tkL 5 (v := ?_) rfl (by kernel_rfl) (fun _ _ _ => id) (Or.inl ⟨by rfl, ?_⟩) (by assumption) ?_; rotate_left; (focus (intro wq hSq; have f := HF.out wq hSq; go_simp <;> with_reducible rfl)); simp only [Act.put, pA, pB, pC]
    refine wpAnyH_ready (rs := [6]) (by kernel_rfl) (by simp) (nextL 6 rfl (fun Kr hKr => ?_) AllReadyH.nil)
    go_simp
    refine hKr.out _ _ (hdz.trans HCK.out) (fun hEnd2 => ?_)
    clear hKr hHeld hrun'
    refine wpAnyH_done (by kernel_rfl) ?_ _
    have HT2 := Lib.hid (show Tb w2 p b o (N + pre.length + 1) m room M L (updS G (xv, xg, xp) (ya, yt, yl)) O from by
     have h0 : Tb W p b o (N + pre.length) m room M L G O := by rw [HG.out]; exact HI.out.1
     exact ((h0.mono HEND.out).mono hbz).turned HMT.out.grown HV2.out (((HVH.out.2.keep (CKeep.of_below HEND.out)).keep hdz).upd (xv, xg, xp) (ya, yt, yl) _ HS.out.2.2.drew HWF.out))
    have HM2 := Lib.hid (show MTurn b o w w2 from HI.out.2.trans ((MTurn.of_below HEND.out).trans ((MTurn.of_below hbz).trans (MTurn.of_grown HMT.out.grown fun r e => by injection e with e; exact .inl e.symm))))
    have HKF := Lib.hid (show KeepsFrom W0.heap.size W w2 from (KeepsFrom.of_grownBy (grown_none HEND.out) (fun j e => by cases e)).trans (((KeepsOthers.drew wz).from _).trans (KeepsFrom.of_grownBy HMT.out.grown fun j e => by injection e with e; have := HL.out; have := HSZ.out; omega)))
    have HKR := Lib.hid (show KeepsR (w.heap.size + 1 + 1 + 1) H W w2 from (KeepsR.grown (grown_none HEND.out) fun r e => by cases e).trans ((KeepsR.grown (grown_none hbz) fun r e => by cases e).trans (KeepsR.grown HMT.out.grown fun r e => by injection e with e; have := HL.out; exact .inl (by omega))))
    have hck2 : CKeep W w2 := (CKeep.of_below HEND.out).trans (hdz.trans HCK.out)
    have HX2 := Lib.hid (And.intro (hck2.box HX.out.1) (And.intro (hck2.box HX.out.2.1) (hck2.box HX.out.2.2)))
    have HXB2 := Lib.hid (hck2.box HXB.out)
    clear hEnd2 hck2 hdz hbz HF HCK HV2 HMT HEND HS HVH HWF
    cases yb
    · obtain ⟨t0, _⟩ := HX2.out.1.at_ 0 _ rfl
      obtain ⟨k0, _⟩ := HXB2.out.at_ 0 _ rfl
      obtain ⟨k1, _⟩ := HXB2.out.at_ 1 _ rfl
      obtain ⟨k2, _⟩ := HXB2.out.at_ 2 _ rfl
      obtain ⟨V3, hV3, hH3⟩ := HT2.out.states
      have hd : Below w2.heap.size w2 w2.drew := Below.drew (Below.refl _ _)
      have hdc : CKeep w2 w2.drew := CKeep.drew w2
      have hbp := HT2.out.box
      have HF := Lib.hid (show ∀ wq, CKeep w2 wq → wq.cell? ⟨w.heap.size, 0, none⟩ = some (.pointer (some ⟨p, 0, none⟩)) ∧ wq.cell? ⟨Bx, 0, none⟩ = some (.int .i64 xv) ∧ wq.cell? ⟨Bx, 1, none⟩ = some (.string (bstr xg)) ∧ wq.cell? ⟨Bx, 2, none⟩ = some (.int .i64 xp) ∧ wq.cell? ⟨p, 3, none⟩ = some (.map (some b)) from fun wq hb =>
       ⟨hb.cell t0, hb.cell k0, hb.cell k1, hb.cell k2, hb.cell (hbp.at_ 3 _ rfl).1⟩)
      obtain ⟨w3, hrun3, hV4, hmt3⟩ := (hV3.below hd hV3.lt).drop Tryz.underlying152 (xv, xg, xp) HOK.out 0
      have hrun' : (Builtin.delete_ #[152, 177] 0 #[.map (some b), .agg #[.int .i64 xv, .string (bstr xg), .int .i64 xp]]).run Tryz.prog w2.drew = .ok (.tuple #[]) w3 := hrun3
      have hck := CKeep.of_map (hV3.below hd hV3.lt) hmt3.grown
      have HT3 := Lib.hid ((HT2.out.mono hd).turned hmt3.grown hV4 ((hH3.keep hdc).del (xv, xg, xp)))
      have HM3 := Lib.hid (HM2.out.trans ((MTurn.of_below hd).trans (MTurn.of_grown hmt3.grown fun r e => by injection e with e; exact .inl e.symm)))
      have HKF3 := Lib.hid (show KeepsFrom W0.heap.size W w3 from HKF.out.trans (((KeepsOthers.drew w2).from _).trans (KeepsFrom.of_grownBy hmt3.grown fun j e => by injection e with e; have := HL.out; have := HSZ.out; omega)))
      have HKR3 := Lib.hid (show KeepsR (w.heap.size + 1 + 1 + 1) H W w3 from HKR.out.trans ((KeepsR.grown (grown_none hd) fun r e => by cases e).trans (KeepsR.grown hmt3.grown fun r e => by injection e with e; have := HL.out; exact .inl (by omega))))
      have HX3 := Lib.hid (And.intro (hck.box (hdc.box HX2.out.1)) (And.intro (hck.box (hdc.box HX2.out.2.1)) (hck.box (hdc.box HX2.out.2.2))))
      have HCK := Lib.hid hck
      have hb2 := HX3.out.2.2
      rw [← HC.out] at hb2
      obtain ⟨s0, sf0⟩ := hb2.at_ 0 _ rfl
      have HB2 := Lib.hid hb2
      clear t0 k0 k1 k2 hV3 hH3 hd hbp hrun3 hV4 hmt3 hck hb2 HT2 HM2 HKF HKR HX2 HXB2
      gi_wp2
      refine region_round (fun W' => CKeep w2 W') (by kernel_rfl) (by kernel_rfl) (by rintro ⟨a, w, h⟩; exact h) hdc (fun hHeld => ?_)
      refine tkL 0 (v := ?_) rfl (by kernel_rfl) (fun _ _ _ => id) (Or.inl ⟨by rfl, ?_⟩) (by assumption) ?_; rotate_left; (focus (intro wq hSq; have f := HF.out wq hSq; go_simp <;> with_reducible rfl)); simp only [Act.put, pA, pB, pC]
      refine tkL 1 (v := ?_) rfl (by kernel_rfl) (fun _ _ _ => id) (Or.inl ⟨by rfl, ?_⟩) (by assumption) ?_; rotate_left; (focus (intro wq hSq; have f := HF.out wq hSq; go_simp <;> with_reducible rfl)); simp only [Act.put, pA, pB, pC]
      refine tkL 2 (v := ?_) rfl (by kernel_rfl) (fun _ _ _ => id) (Or.inl ⟨by rfl, ?_⟩) (by assumption) ?_; rotate_left; (focus (intro wq hSq; have f := HF.out wq hSq; go_simp <;> with_reducible rfl)); simp only [Act.put, pA, pB, pC]
      refine tkL 3 (v := ?_) rfl (by kernel_rfl) (fun _ _ _ => id) (Or.inl ⟨by rfl, ?_⟩) (by assumption) ?_; rotate_left; (focus (intro wq hSq; have f := HF.out wq hSq; go_simp <;> with_reducible rfl)); simp only [Act.put, pA, pB, pC]
      refine tkL 4 (v := ?_) rfl (by kernel_rfl) (fun _ _ _ => id) (Or.inl ⟨by rfl, ?_⟩) (by assumption) ?_; rotate_left; (focus (intro wq hSq; have f := HF.out wq hSq; go_simp <;> with_reducible rfl)); simp only [Act.put, pA, pB, pC]
      refine wpAnyH_ready (rs := [5]) (by kernel_rfl) (by simp) (nextL 5 rfl (fun Kr hKr => ?_) AllReadyH.nil)
      go_simp
      refine hKr.out _ _ (hdc.trans HCK.out) (fun hEnd => ?_)
      clear hKr hHeld hrun' hEnd hdc HF HCK
      refine wpAnyH_done (by kernel_rfl) ?_ _
      gi_wp2
      have hkf := HKF3.out
      have hpl := HL.out
      refine ⟨hkf.trans ((KeepsOthers.setCell _ _ _).from _), HKR3.out.trans (KeepsR.grown (grownBy_setCell' _ _ _) fun r e => by injection e with e; subst e; exact .inl (Nat.lt_succ_self _)), ⟨HX3.out.1.far (p := ⟨w.heap.size + 1 + 1, 0, none⟩) (by simp; omega) _, HX3.out.2.1.far (p := ⟨w.heap.size + 1 + 1, 0, none⟩) (by simp) _, ?_⟩, ?_, ?_⟩
      · rw [List.map_append, List.map_cons, List.map_nil, expN_snoc, ← HG.out, HY.out, ← HC.out]
        exact HB2.out.set 0 _
      · rw [List.map_append, List.map_cons, List.map_nil, expF_snoc, ← HG.out, List.length_append]
        unfold expStep
        rw [HY.out, if_neg (by simp), ← del_upd G (xv, xg, xp) (ya, yt, yl)]
        exact HT3.out.setBox HB2.out (by omega) _
      · exact HM3.out.far (B := w.heap.size) (grownBy_setCell' _ _ _) (fun r e => by injection e with e; omega) (Nat.le_refl _)
    · gi_wp2
      have hkf := HKF.out
      refine ⟨hkf, HKR.out, ⟨HX2.out.1, HX2.out.2.1, ?_⟩, ?_, HM2.out⟩
      · rw [List.map_append, List.map_cons, List.map_nil, expN_snoc, ← HG.out, HY.out]
        exact HX2.out.2.2
      · rw [List.map_append, List.map_cons, List.map_nil, expF_snoc, ← HG.out, List.length_append]
        unfold expStep
        rw [HY.out, if_pos rfl]
        exact HT2.out
  · go_simp
    refine hKr.out _ _ (hd.alloc hd.size _) (fun hHeld2 => ?_)
    clear hKr hHeld
    refine wpAnyH_ready (rs := [7]) (by kernel_rfl) (by simp) (nextL 7 rfl (fun Kr hKr => ?_) AllReadyH.nil)
    go_simp
    refine (HEX.out _ hHeld2).mono ?_
    rintro e w1 ⟨sv, rfl, hT1, hbw⟩
    obtain ⟨so, sc, rfl⟩ := hT1.shape
    have q1 := (show CBox (W.drew.alloc (.cells #[.bool false, .int .i64 0, .slice none 0 0] 181)) W.heap.size 181 #[.bool false, .int .i64 0, .slice none 0 0] from CBox.new _ rfl).below hbw (by simp)
    unfold encS
    dsimp only
    refine hKr.out _ _ (hHeld2.trans (hbw.mono hHeld2.size)) (fun hHeld3 => ?_)
    have HT1 := Lib.hid hT1
    clear hKr hHeld2 hbw hT1 HEX
    refine tkL 8 (v := ?_) rfl (by kernel_rfl) (fun _ _ _ => id) (Or.inl ⟨by rfl, ?_⟩) (by assumption) ?_; rotate_left; (focus (intro wq hSq; have f := HF.out wq hSq; go_simp <;> with_reducible rfl)); simp only [Act.put, pA, pB, pC]
    refine tkL 9 (v := ?_) rfl (by kernel_rfl) (fun _ _ _ => id) (Or.inl ⟨by rfl, ?_⟩) (by assumption) ?_; rotate_left; (focus (intro wq hSq; have f := HF.out wq hSq; go_simp <;> with_reducible rfl)); simp only [Act.put, pA, pB, pC]
    refine tkL 10 (v := ?_) rfl (by kernel_rfl) (fun _ _ _ => id) (Or.inl ⟨by rfl, ?_⟩) (by assumption) ?_; rotate_left; (focus (intro wq hSq; have f := HF.out wq hSq; go_simp <;> with_reducible rfl)); simp only [Act.put, pA, pB, pC]
    refine wpAnyH_ready (rs := [12]) (by kernel_rfl) (by simp) (nextL 12 rfl (fun Kr hKr => ?_) AllReadyH.nil)
    obtain ⟨q0, qf0⟩ := q1.at_ 0 _ rfl
    obtain ⟨q2, qf2⟩ := q1.at_ 1 _ rfl
    obtain ⟨q3, qf3⟩ := q1.at_ 2 _ rfl
    go_simp
    refine hKr.out _ _ (((Below.setCell hHeld3 (by simp) _).setCell (by simp) _).setCell (by simp) _) (fun hEnd => ?_)
    clear hKr hHeld3
    refine tkL 13 (v := ?_) rfl (by kernel_rfl) (fun _ _ _ => id) (Or.inl ⟨by rfl, ?_⟩) (by assumption) ?_; rotate_left; (focus (intro wq hSq; have f := HF.out wq hSq; go_simp <;> with_reducible rfl)); simp only [Act.put, pA, pB, pC]
    refine wpAnyH_done (by kernel_rfl) ?_ _
    have hap : yl ≠ [] → ∀ c, (Value.slice so yl.length sc).ownBlock = some c → c ≠ W.heap.size := fun hL c hc => HT1.out.ne_box q1 (fun i s => ns3 false 0 none 0 0 i s) hL c hc
    have HS := Lib.hid (show W.heap.size ≤ W.heap.size ∧ CBox (((w1.setCell ⟨W.heap.size, 0, none⟩ (.bool ya)).setCell ⟨W.heap.size, 1, none⟩ (.int .i64 yt)).setCell ⟨W.heap.size, 2, none⟩ (.slice so yl.length sc)) W.heap.size 181 #[.bool ya, .int .i64 yt, .slice so yl.length sc] ∧ Tms (((w1.setCell ⟨W.heap.size, 0, none⟩ (.bool ya)).setCell ⟨W.heap.size, 1, none⟩ (.int .i64 yt)).setCell ⟨W.heap.size, 2, none⟩ (.slice so yl.length sc)) (.slice so yl.length sc) yl from
     ⟨Nat.le_refl _, ((q1.set 0 _).set 1 _).set 2 _, ((HT1.out.apart (p := ⟨W.heap.size, 0, none⟩) hap _).apart (p := ⟨W.heap.size, 1, none⟩) hap _).apart (p := ⟨W.heap.size, 2, none⟩) hap _⟩)
    clear HT1 hap q1 q0 qf0 q2 qf2 q3 qf3
    generalize ((w1.setCell ⟨W.heap.size, 0, none⟩ (.bool ya)).setCell ⟨W.heap.size, 1, none⟩ (.int .i64 yt)).setCell ⟨W.heap.size, 2, none⟩ (.slice so yl.length sc) = wz at hEnd HS ⊢
    obtain ⟨bs, hbs⟩ : ∃ bs, bs = W.heap.size := ⟨_, rfl⟩
    rw [← hbs]
    have HS := Lib.hid (show W.heap.size ≤ bs ∧ CBox wz bs 181 #[.bool ya, .int .i64 yt, .slice so yl.length sc] ∧ Tms wz (.slice so yl.length sc) yl from by rw [hbs]; exact HS.out)
    clear hbs
    have HEND := Lib.hid hEnd
    obtain ⟨f0, _, f2, f3, f4, f5, _⟩ := HF.out wz hEnd
    obtain ⟨g0, _⟩ := HS.out.2.1.at_ 0 _ rfl
    obtain ⟨g1, _⟩ := HS.out.2.1.at_ 1 _ rfl
    obtain ⟨g2, _⟩ := HS.out.2.1.at_ 2 _ rfl
    have hdz : CKeep wz wz.drew := CKeep.drew wz
    have hbz : Below wz.heap.size wz wz.drew := Below.drew (Below.refl _ _)
    have HF := Lib.hid (show ∀ wq, CKeep wz wq → wq.cell? ⟨w.heap.size, 0, none⟩ = some (.pointer (some ⟨p, 0, none⟩)) ∧ wq.cell? ⟨Bx, 0, none⟩ = some (.int .i64 xv) ∧ wq.cell? ⟨Bx, 1, none⟩ = some (.string (bstr xg)) ∧ wq.cell? ⟨Bx, 2, none⟩ = some (.int .i64 xp) ∧ wq.cell? ⟨p, 3, none⟩ = some (.map (some b)) ∧
     wq.cell? ⟨bs, 0, none⟩ = some (.bool ya) ∧ wq.cell? ⟨bs, 1, none⟩ = some (.int .i64 yt) ∧ wq.cell? ⟨bs, 2, none⟩ = some (.slice so yl.length sc) from fun wq hb =>
     ⟨hb.cell f0, hb.cell f2, hb.cell f3, hb.cell f4, hb.cell f5, hb.cell g0, hb.cell g1, hb.cell g2⟩)
    have hVz := (HVH.out.1.below hEnd HVH.out.1.lt).below hbz (HVH.out.1.below hEnd HVH.out.1.lt).lt
    obtain ⟨w2, hrun, hV2, hmt⟩ := hVz.put Tryz.underlying152 (xv, xg, xp) HOK.out (encS (ya, yt, yl) (.slice so yl.length sc)) (by have := HH.out.2.2; unfold maxLen; omega)
    have hrun' : (Instr.mapUpdate 152 (.map (some b)) (.agg #[.int .i64 xv, .string (bstr xg), .int .i64 xp]) (.agg #[.bool ya, .int .i64 yt, .slice so yl.length sc])).run Tryz.prog wz.drew = .ok () w2 := hrun
    have HMT := Lib.hid hmt; have HV2 := Lib.hid hV2
    have HCK := Lib.hid (CKeep.of_map hVz hmt.grown)
    clear hEnd f0 f2 f3 f4 f5 g0 g1 g2 hVz hrun hmt hV2
    gi_wp2
    refine region_round (fun W' => CKeep wz W') (by kernel_rfl) (by kernel_rfl) (by rintro ⟨a, w, h⟩; exact h) hdz (fun hHeld => ?_)
    refine tkL 0 (v := ?_) rfl (by kernel_rfl) (fun _ _ _ => id) (Or.inl ⟨by rfl, ?_⟩) (by assumption) ?_; rotate_left; (focus (intro wq hSq; have f := HF.out wq hSq; go_simp <;> with_reducible rfl)); simp only [Act.put, pA, pB, pC]
    refine tkL 1 (v := ?_) rfl (by kernel_rfl) (fun _ _ _ => id) (Or.inl ⟨by rfl, ?_⟩) (by assumption) ?_; rotate_left; (focus (intro wq hSq; have f := HF.out wq hSq; go_simp <;> with_reducible rfl)); simp only [Act.put, pA, pB, pC]
    refine tkL 2 (v := ?_) rfl (by kernel_rfl) (fun _ _ _ => id) (Or.inl ⟨by rfl, ?_⟩) (by assumption) ?_; rotate_left; (focus (intro wq hSq; have f := HF.out wq hSq; go_simp <;> with_reducible rfl)); simp only [Act.put, pA, pB, pC]
    refine tkL 3 (v := ?_) rfl (by kernel_rfl) (fun _ _ _ => id) (Or.inl ⟨by rfl, ?_⟩) (by assumption) ?_; rotate_left; (focus (intro wq hSq; have f := HF.out wq hSq; go_simp <;> with_reducible rfl)); simp only [Act.put, pA, pB, pC]
    refine tkL 4 (v := ?_) rfl (by kernel_rfl) (fun _ _ _ => id) (Or.inl ⟨by rfl, ?_⟩) (by assumption) ?_; rotate_left; (focus (intro wq hSq; have f := HF.out wq hSq; go_simp <;> with_reducible rfl)); simp only [Act.put, pA, pB, pC]
    refine tkL 5 (v := ?_) rfl (by kernel_rfl) (fun _ _ _ => id) (Or.inl ⟨by rfl, ?_⟩) (by assumption) ?_; rotate_left; (focus (intro wq hSq; have f := HF.out wq hSq; go_simp <;> with_reducible rfl)); simp only [Act.put, pA, pB, pC]
    refine wpAnyH_ready (rs := [6]) (by kernel_rfl) (by simp) (nextL 6 rfl (fun Kr hKr => ?_) AllReadyH.nil)
    go_simp
    refine hKr.out _ _ (hdz.trans HCK.out) (fun hEnd2 => ?_)
    clear hKr hHeld hrun'
    refine wpAnyH_done (by kernel_rfl) ?_ _
    have HT2 := Lib.hid (show Tb w2 p b o (N + pre.length + 1) m room M L (updS G (xv, xg, xp) (ya, yt, yl)) O from by
     have h0 : Tb W p b o (N + pre.length) m room M L G O := by rw [HG.out]; exact HI.out.1
     exact ((h0.mono HEND.out).mono hbz).turned HMT.out.grown HV2.out (((HVH.out.2.keep (CKeep.of_below HEND.out)).keep hdz).upd (xv, xg, xp) (ya, yt, yl) _ HS.out.2.2.drew HWF.out))
    have HM2 := Lib.hid (show MTurn b o w w2 from HI.out.2.trans ((MTurn.of_below HEND.out).trans ((MTurn.of_below hbz).trans (MTurn.of_grown HMT.out.grown fun r e => by injection e with e; exact .inl e.symm))))
    have HKF := Lib.hid (show KeepsFrom W0.heap.size W w2 from (KeepsFrom.of_grownBy (grown_none HEND.out) (fun j e => by cases e)).trans (((KeepsOthers.drew wz).from _).trans (KeepsFrom.of_grownBy HMT.out.grown fun j e => by injection e with e; have := HL.out; have := HSZ.out; omega)))
    have HKR := Lib.hid (show KeepsR (w.heap.size + 1 + 1 + 1) H W w2 from (KeepsR.grown (grown_none HEND.out) fun r e => by cases e).trans ((KeepsR.grown (grown_none hbz) fun r e => by cases e).trans (KeepsR.grown HMT.out.grown fun r e => by injection e with e; have := HL.out; exact .inl (by omega))))
    have hck2 : CKeep W w2 := (CKeep.of_below HEND.out).trans (hdz.trans HCK.out)
    have HX2 := Lib.hid (And.intro (hck2.box HX.out.1) (And.intro (hck2.box HX.out.2.1) (hck2.box HX.out.2.2)))
    have HXB2 := Lib.hid (hck2.box HXB.out)
    clear hEnd2 hck2 hdz hbz HF HCK HV2 HMT HEND HS HVH HWF
    cases yb
    · obtain ⟨t0, _⟩ := HX2.out.1.at_ 0 _ rfl
      obtain ⟨k0, _⟩ := HXB2.out.at_ 0 _ rfl
      obtain ⟨k1, _⟩ := HXB2.out.at_ 1 _ rfl
      obtain ⟨k2, _⟩ := HXB2.out.at_ 2 _ rfl
      obtain ⟨V3, hV3, hH3⟩ := HT2.out.states
      have hd : Below w2.heap.size w2 w2.drew := Below.drew (Below.refl _ _)
      have hdc : CKeep w2 w2.drew := CKeep.drew w2
      have hbp := HT2.out.box
      have HF := Lib.hid (show ∀ wq, CKeep w2 wq → wq.cell? ⟨w.heap.size, 0, none⟩ = some (.pointer (some ⟨p, 0, none⟩)) ∧ wq.cell? ⟨Bx, 0, none⟩ = some (.int .i64 xv) ∧ wq.cell? ⟨Bx, 1, none⟩ = some (.string (bstr xg)) ∧ wq.cell? ⟨Bx, 2, none⟩ = some (.int .i64 xp) ∧ wq.cell? ⟨p, 3, none⟩ = some (.map (some b)) from fun wq hb =>
       ⟨hb.cell t0, hb.cell k0, hb.cell k1, hb.cell k2, hb.cell (hbp.at_ 3 _ rfl).1⟩)
      obtain ⟨w3, hrun3, hV4, hmt3⟩ := (hV3.below hd hV3.lt).drop Tryz.underlying152 (xv, xg, xp) HOK.out 0
      have hrun' : (Builtin.delete_ #[152, 177] 0 #[.map (some b), .agg #[.int .i64 xv, .string (bstr xg), .int .i64 xp]]).run Tryz.prog w2.drew = .ok (.tuple #[]) w3 := hrun3
      have hck := CKeep.of_map (hV3.below hd hV3.lt) hmt3.grown
      have HT3 := Lib.hid ((HT2.out.mono hd).turned hmt3.grown hV4 ((hH3.keep hdc).del (xv, xg, xp)))
      have HM3 := Lib.hid (HM2.out.trans ((MTurn.of_below hd).trans (MTurn.of_grown hmt3.grown fun r e => by injection e with e; exact .inl e.symm)))
      have HKF3 := Lib.hid (show KeepsFrom W0.heap.size W w3 from HKF.out.trans (((KeepsOthers.drew w2).from _).trans (KeepsFrom.of_grownBy hmt3.grown fun j e => by injection e with e; have := HL.out; have := HSZ.out; omega)))
      have HKR3 := Lib.hid (show KeepsR (w.heap.size + 1 + 1 + 1) H W w3 from HKR.out.trans ((KeepsR.grown (grown_none hd) fun r e => by cases e).trans (KeepsR.grown hmt3.grown fun r e => by injection e with e; have := HL.out; exact .inl (by omega))))
      have HX3 := Lib.hid (And.intro (hck.box (hdc.box HX2.out.1)) (And.intro (hck.box (hdc.box HX2.out.2.1)) (hck.box (hdc.box HX2.out.2.2))))
      have HCK := Lib.hid hck
      have hb2 := HX3.out.2.2
      rw [← HC.out] at hb2
      obtain ⟨s0, sf0⟩ := hb2.at_ 0 _ rfl
      have HB2 := Lib.hid hb2
      clear t0 k0 k1 k2 hV3 hH3 hd hbp hrun3 hV4 hmt3 hck hb2 HT2 HM2 HKF HKR HX2 HXB2
      gi_wp2
      refine region_round (fun W' => CKeep w2 W') (by kernel_rfl) (by kernel_rfl) (by rintro ⟨a, w, h⟩; exact h) hdc (fun hHeld => ?_)
      refine tkL 0 (v := ?_) rfl (by kernel_rfl) (fun _ _ _ => id) (Or.inl ⟨by rfl, ?_⟩) (by assumption) ?_; rotate_left; (focus (intro wq hSq; have f := HF.out wq hSq; go_simp <;> with_reducible rfl)); simp only [Act.put, pA, pB, pC]
      refine tkL 1 (v := ?_) rfl (by kernel_rfl) (fun _ _ _ => id) (Or.inl ⟨by rfl, ?_⟩) (by assumption) ?_; rotate_left; (focus (intro wq hSq; have f := HF.out wq hSq; go_simp <;> with_reducible rfl)); simp only [Act.put, pA, pB, pC]
      refine tkL 2 (v := ?_) rfl (by kernel_rfl) (fun _ _ _ => id) (Or.inl ⟨by rfl, ?_⟩) (by assumption) ?_; rotate_left; (focus (intro wq hSq; have f := HF.out wq hSq; go_simp <;> with_reducible rfl)); simp only [Act.put, pA, pB, pC]
      refine tkL 3 (v := ?_) rfl (by kernel_rfl) (fun _ _ _ => id) (Or.inl ⟨by rfl, ?_⟩) (by assumption) ?_; rotate_left; (focus (intro wq hSq; have f := HF.out wq hSq; go_simp <;> with_reducible rfl)); simp only [Act.put, pA, pB, pC]
      refine tkL 4 (v := ?_) rfl (by kernel_rfl) (fun _ _ _ => id) (Or.inl ⟨by rfl, ?_⟩) (by assumption) ?_; rotate_left; (focus (intro wq hSq; have f := HF.out wq hSq; go_simp <;> with_reducible rfl)); simp only [Act.put, pA, pB, pC]
      refine wpAnyH_ready (rs := [5]) (by kernel_rfl) (by simp) (nextL 5 rfl (fun Kr hKr => ?_) AllReadyH.nil)
      go_simp
      refine hKr.out _ _ (hdc.trans HCK.out) (fun hEnd => ?_)
      clear hKr hHeld hrun' hEnd hdc HF HCK
      refine wpAnyH_done (by kernel_rfl) ?_ _
      gi_wp2
      have hkf := HKF3.out
      have hpl := HL.out
      refine ⟨hkf.trans ((KeepsOthers.setCell _ _ _).from _), HKR3.out.trans (KeepsR.grown (grownBy_setCell' _ _ _) fun r e => by injection e with e; subst e; exact .inl (Nat.lt_succ_self _)), ⟨HX3.out.1.far (p := ⟨w.heap.size + 1 + 1, 0, none⟩) (by simp; omega) _, HX3.out.2.1.far (p := ⟨w.heap.size + 1 + 1, 0, none⟩) (by simp) _, ?_⟩, ?_, ?_⟩
      · rw [List.map_append, List.map_cons, List.map_nil, expN_snoc, ← HG.out, HY.out, ← HC.out]
        exact HB2.out.set 0 _
      · rw [List.map_append, List.map_cons, List.map_nil, expF_snoc, ← HG.out, List.length_append]
        unfold expStep
        rw [HY.out, if_neg (by simp), ← del_upd G (xv, xg, xp) (ya, yt, yl)]
        exact HT3.out.setBox HB2.out (by omega) _
      · exact HM3.out.far (B := w.heap.size) (grownBy_setCell' _ _ _) (fun r e => by injection e with e; omega) (Nat.le_refl _)
    · gi_wp2
      have hkf := HKF.out
      refine ⟨hkf, HKR.out, ⟨HX2.out.1, HX2.out.2.1, ?_⟩, ?_, HM2.out⟩
      · rw [List.map_append, List.map_cons, List.map_nil, expN_snoc, ← HG.out, HY.out]
        exact HX2.out.2.2
      · rw [List.map_append, List.map_cons, List.map_nil, expF_snoc, ← HG.out, List.length_append]
        unfold expStep
        rw [HY.out, if_pos rfl]
        exact HT2.out
 case done =>
  rintro D H ys W hD hDH hys ⟨⟨hb0, hb1, hb2⟩, hT, hM⟩ hK
  have HY := Lib.hid hys
  have HI := Lib.hid (And.intro hT hM)
  have HB := Lib.hid hb2
  obtain ⟨f0, f1⟩ := hb2.at_ 0 _ rfl
  clear hb0 hb1 hb2 hT hM hys
  gi_wp2
  have hg := grownBy_putObj' W D (.deferred none)
  have hlt := HL.out
  refine ⟨by simp, .inl ⟨_, _, rfl, run_takeDeferred hK, ?_⟩⟩
  refine ⟨_, results_tmp rfl _ _ _, by rw [← HY.out]; rfl, ?_, HI.out.2.far (B := W0.heap.size) hg (fun r e => by injection e with e; omega) (by omega)⟩
  have h1 := HI.out.1.far (B := W0.heap.size) hg (fun r e => by injection e with e; subst e; exact ⟨hD, _, hK, rfl⟩) (by omega) (by omega)
  rw [HY.out, expF_all HK.out] at h1
  obtain ⟨K', hK', _, _⟩ := h1.keys
  refine ⟨K'.length, ?_, h1.tight hK'⟩
  have hp : K'.Perm (K.filter fun x => decide (x ∈ K')) := (List.perm_ext_iff_of_nodup hK'.nodup (HK.out.nodup.filter _)).2 fun x => by
   rw [List.mem_filter]
   refine ⟨fun hx => ⟨(HK.out.2 x).2 (byNow_dom ((hK'.2 x).1 hx)), by simpa using hx⟩, fun h => by simpa using h.2⟩
  rw [hp.length_eq]
  exact List.length_filter_le _ _
 case stop =>
  rintro D H c pre W _ _ _ h _
  exact h.elim
end Go.Proofs.YthcdppppppgckaaGreatDoor
