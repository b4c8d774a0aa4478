/- Texts joined into one file: TExp, TOf, TRound. -/
import Derived.Test.YtpibmjkbebkilaaGreatW21
import Derived.Test.YtpibmjkbebkilaaGreatW15
import Derived.Test.YtpibmjkbebkilaaGreatW16
import Derived.Test.YtpibmjkbebkilaaGreatW08
import Derived.OrdersHeld
import Derived.OrdersIn
import Derived.Deep.RegionHeld

namespace Go.Proofs.YtpibmjkbebkilaaGreat
open Go.RowKit Go.Lib Go.Maps Go.Sort
set_option maxRecDepth 20000

def pexp (s : Stt) (now : Int) : Stt × Bool :=
 if pcheck s.1 s.2.1 s.2.2 then ((s.1 && decide (now < s.2.1), if (s.1 && decide (now < s.2.1)) then s.2.1 else 0, exL (s.1 && decide (now < s.2.1)) now s.2.2), (s.1 && decide (now < s.2.1)) || !(exL (s.1 && decide (now < s.2.1)) now s.2.2).isEmpty) else (noS, false)

theorem pexp_none (s : Stt) (now : Int) (h : (pexp s now).2 = false) : (pexp s now).1 = noS := by
 unfold pexp at h ⊢
 split
 · rename_i hc
   rw [if_pos hc] at h
   dsimp only at h ⊢
   obtain ⟨h1, h2⟩ := Bool.or_eq_false_iff.1 h
   rw [h1] at h2 ⊢
   have : exL false now s.2.2 = [] := by
    cases he : exL false now s.2.2
    · rfl
    · rw [he] at h2; simp at h2
   rw [this]
   rfl
 · rfl
theorem pexp_noS (now : Int) : pexp noS now = (noS, false) := rfl
theorem pexp_wf (s : Stt) (now : Int) (h : (Lit.int .i64 s.2.1).wf = true) : (Lit.int .i64 (pexp s now).1.2.1).wf = true := by
 unfold pexp
 split
 · dsimp only
   split
   · exact h
   · decide
 · decide

def RetPexp (w : World) (t : Stt × Bool) (e : Ending) (w' : World) : Prop :=
 ∃ v, e = .returned (.tuple #[encS t.1 v, .bool t.2]) ∧ Tms w' v t.1.2.2 ∧ Below w.heap.size w w'
theorem RetExp.plain {w : World} {s : Stt} {now : Int} {e : Ending} {w' : World} (h : RetExp w s.1 s.2.1 s.2.2 now (s.1 && decide (now < s.2.1)) e w') : RetPexp w (pexp s now) e w' := by
 rcases h with ⟨hf, rfl, hb⟩ | ⟨hp, v, L', rfl, hT, hA, _, _, hb⟩
 · unfold pexp
   rw [if_neg (by rw [hf]; simp)]
   exact ⟨_, rfl, Tms.nil _, hb⟩
 · have : L' = exL (s.1 && decide (now < s.2.1)) now s.2.2 := asc_unique hA (asc_ex _ now (pcheck_asc hp))
   subst this
   unfold pexp
   rw [if_pos hp]
   exact ⟨v, rfl, hT, hb⟩
theorem expire_st (s : Stt) (v : Value) (now : Int) (w : World) (h : Tms w v s.2.2) : Calls Tryz.prog 30 #[encS s v, .int .i64 now] w (RetPexp w (pexp s now)) :=
 (expire_any s.1 s.2.1 v s.2.2 now w h).mono fun _ _ h => h.plain
theorem rexpire_st (s : Stt) (v : Value) (now : Int) (w : World) (h : Tms w v s.2.2) : Calls Tryz.prog 37 #[encS s v, .int .i64 now] w (RetPexp w (pexp s now)) :=
 (rexpire_any s.1 s.2.1 v s.2.2 now w h).mono fun _ _ h => h.plain

open Classical in
noncomputable def ascOf (F : Str → Option Int) : List Tmd := if h : ∃ L, Asc F L then h.choose else []
theorem ascOf_eq {F : Str → Option Int} {L : List Tmd} (h : Asc F L) : ascOf F = L := by
 have hx : ∃ L, Asc F L := ⟨L, h⟩
 unfold ascOf
 rw [dif_pos hx]
 exact asc_unique hx.choose_spec h
open Classical in
noncomputable def riseOf (q : Str → Bool) : List Str := if h : ∃ R, Rises q R then h.choose else []
theorem riseOf_eq {q : Str → Bool} {R : List Str} (h : Rises q R) : riseOf q = R := by
 have hx : ∃ R, Rises q R := ⟨R, h⟩
 unfold riseOf
 rw [dif_pos hx]
 exact rises_unique hx.choose_spec h

noncomputable def papp (s : Stt) (kind : Int) (S : List Str) (n : Nat) (now mem last : Int) : Int × Option Stt × (Bool × List Str) :=
 if verdict (pcheck s.1 s.2.1 s.2.2) kind n now mem last ≠ 0 then (verdict (pcheck s.1 s.2.1 s.2.2) kind n now mem last, none, (false, []))
 else if 60 < (ascOf (inF kind s.1 s.2.1 (rd s.2.2) S (now + mem))).length then (1, none, (false, []))
 else if inEx kind s.1 = false ∧ ascOf (inF kind s.1 s.2.1 (rd s.2.2) S (now + mem)) = [] then (0, none, (false, []))
 else (0, some (inEx kind s.1, if inG kind s.1 then min (inAt kind s.2.1 (now + mem)) (now + last) else inAt kind s.2.1 (now + mem),
  ascOf (soonF (inF kind s.1 s.2.1 (rd s.2.2) S (now + mem)) (riseOf (inQ kind s.1 s.2.1 (rd s.2.2) S (now + mem))) (now + last))),
  (inG kind s.1, riseOf (inQ kind s.1 s.2.1 (rd s.2.2) S (now + mem))))

def RetPapp (w : World) (t : Int × Option Stt × (Bool × List Str)) (e : Ending) (w' : World) : Prop :=
 ∃ v u, e = .returned (.tuple #[encS (t.2.1.getD noS) v, .bool t.2.1.isSome, .agg #[.bool t.2.2.1, u], .int .i64 t.1]) ∧ Tms w' v (t.2.1.getD noS).2.2 ∧ Strs w' u t.2.2.2 ∧ Below w.heap.size w w' ∧
   ∀ q, t.2.1 = some q → pcheck q.1 q.2.1 q.2.2 = true ∧ (Lit.int .i64 q.2.1).wf = true

theorem RetApp.plain {w : World} {s : Stt} {kind : Int} {S : List Str} {n : Nat} {now mem last : Int} {e : Ending} {w' : World} (hw : (Lit.int .i64 s.2.1).wf = true) (h : RetApp w s.1 s.2.1 s.2.2 kind S n now mem last e w') : RetPapp w (papp s kind S n now mem last) e w' := by
 obtain ⟨hb, h⟩ := h
 rcases h with ⟨hv, rfl⟩ | ⟨hv, K, hK, h⟩
 · unfold papp
   rw [if_pos hv]
   exact ⟨_, _, rfl, Tms.nil _, Strs.nil _, hb, fun q hq => by cases hq⟩
 · have ha := ascOf_eq (asc_with hK)
   have hl : (withF (inF kind s.1 s.2.1 (rd s.2.2) S (now + mem)) K).length = K.length := by unfold withF; rw [List.length_map]
   have hn : withF (inF kind s.1 s.2.1 (rd s.2.2) S (now + mem)) K = [] ↔ K = [] := by rw [← List.length_eq_zero_iff, hl, List.length_eq_zero_iff]
   unfold papp
   rw [if_neg (by rw [hv]; simp), ha, hl]
   rcases h with ⟨h1, rfl⟩ | ⟨h1, h2, rfl⟩ | ⟨h1, h2, v, L', u, R, rfl, hT, hU, hR, hA, _, _⟩
   · rw [if_pos h1]
     exact ⟨_, _, rfl, Tms.nil _, Strs.nil _, hb, fun q hq => by cases hq⟩
   · rw [if_neg (by omega), if_pos ⟨h2.1, hn.2 h2.2⟩]
     exact ⟨_, _, rfl, Tms.nil _, Strs.nil _, hb, fun q hq => by cases hq⟩
   · rw [if_neg (by omega), if_neg (fun h => h2 ⟨h.1, hn.1 h.2⟩), riseOf_eq hR, ascOf_eq hA]
     refine ⟨v, u, rfl, hT, hU, hb, fun q hq => ?_⟩
     injection hq with hq
     subst hq
     refine ⟨app_check hv hK h1 hA, ?_⟩
     obtain ⟨_, v1, v2, v3, v4, v5, v6, _⟩ := verdict_ok hv
     simp only [Lit.wf, IntKind.min, IntKind.max, IntKind.bits, IntKind.signed] at hw ⊢
     unfold inAt
     simp at hw ⊢
     split <;> split <;> omega

theorem apply_st (s : Stt) (v : Value) (is : Bool) (kind : Int) (g : ByteArray) (rv : Value) (C : List Str) (now mem last : Int) (w : World) (h : Tms w v s.2.2) (hr : Strs w rv C) (hw : (Lit.int .i64 s.2.1).wf = true) (hi : is = false → s = noS) :
 Calls Tryz.prog 31 #[encS s v, .bool is, .agg #[.int .i64 kind, .string g, rv], .int .i64 now, .agg #[.int .i64 mem, .int .i64 last]] w (RetPapp w (papp s kind (sasc C) C.length now mem last)) := by
 refine (apply_any s.1 s.2.1 v s.2.2 is kind g rv C now mem last w h hr hw).mono fun e w' hx => ?_
 refine RetApp.plain (s := s) hw ?_
 cases is
 · rw [hi rfl] at hx ⊢
   exact hx
 · simpa using hx

end Go.Proofs.YtpibmjkbebkilaaGreat

namespace Go.Proofs.YtpibmjkbebkilaaGreat
open Go.RowKit Go.Lib Go.Maps Go.Sort Go.Shelf
set_option maxRecDepth 20000
attribute [local go_sem] Oper.semAt_some

theorem of_in (n : Nat) (t : Option Addr) (v : Int) (g : ByteArray) (w : World) :
 CallsIn Fence.wide n Tryz.prog 32 #[.pointer t, .int .i64 v, .string g] w fun e w' => e = .returned (.func (.func 58) #[] #[.pointer (some ⟨w.heap.size, 0, none⟩), .pointer (some ⟨w.heap.size + 1, 0, none⟩), .pointer (some ⟨w.heap.size + 1 + 1, 0, none⟩)]) ∧
  w' = ((w.alloc (.cells #[.pointer t] 25)).alloc (.cells #[.int .i64 v] 3)).alloc (.cells #[.string g] 36) := by
 refine callsIn_of_wp Tryz.func32 rfl trivial ?_ rfl
 simp only [Tryz.ntmps32, List.size_toArray, List.length_cons, List.length_nil, Nat.reduceAdd, Nat.reduceSub, Array.replicate_succ, Array.replicate_zero, List.push_toArray, List.append_toArray, List.nil_append, List.cons_append]
 gi_wp2
 go_ret
 exact ⟨rfl, rfl⟩

def inOf (v : Int) (g : Str) (x : TK) : Bool := x.1 == v && x.2.1 == g
def selO (v : Int) (g : Str) (l : List TKo) : List TKo := l.filter fun x => inOf v g x.1
theorem selO_yes {v : Int} {g : Str} (l : List TKo) {x : TKo} (h : inOf v g x.1 = true) : selO v g (l ++ [x]) = selO v g l ++ [x] := by simp [selO, List.filter_append, h]
theorem selO_no {v : Int} {g : Str} (l : List TKo) {x : TKo} (h : inOf v g x.1 = false) : selO v g (l ++ [x]) = selO v g l := by simp [selO, List.filter_append, h]
theorem selO_len (v : Int) (g : Str) (l : List TKo) : (selO v g l).length ≤ l.length := List.length_filter_le _ _
theorem selO_map (v : Int) (g : Str) (l : List TKo) : (selO v g l).map Subtype.val = (l.map Subtype.val).filter (inOf v g) := by
 induction l with
 | nil => rfl
 | cons x l ih =>
   unfold selO at ih ⊢
   simp only [List.filter_cons, List.map_cons]
   cases inOf v g x.1 <;> simp [ih]

theorem RoundIn.any {m m' : Nat} {P : Program} {l : Nat} {f : FuncId} {tmps : Array Value} {assign body : Code} {w : World} {R : Ending → World → Prop}
 (h : RoundIn Fence.wide m P l f tmps assign body w R) : RoundIn Fence.wide m' P l f tmps assign body w R := ⟨h.1, fun c cs _ => h.2 c cs (fun d hd => by cases hd)⟩
theorem YieldAt.any {m : Nat} (m' : Nat) {P : Program} {l : Nat} {args : Array Value} {W : World} {R : Ending → World → Prop} (h : YieldAt Fence.wide m P l args W R) : YieldAt Fence.wide m' P l args W R := by
 obtain ⟨fn, tmps, assign, body, hy, hR⟩ := h
 exact ⟨fn, tmps, assign, body, hy, RoundIn.any hR⟩

set_option maxRecDepth 100000 in
set_option maxHeartbeats 4000000 in
theorem of_stops (n : Nat) (Bt N B : Nat) (t : Option Addr) (v : Int) (g : Str) (K : List TK) (w : World) (hs : Bt + 1 + 1 < w.heap.size) (ht : w.cell? ⟨Bt, 0, none⟩ = some (.pointer t)) (hv : w.cell? ⟨Bt + 1, 0, none⟩ = some (.int .i64 v)) (hg : w.cell? ⟨Bt + 1 + 1, 0, none⟩ = some (.string (bstr g))) (hB : B ≤ Bt)
 (hall : ∀ n Ba W, Below w.heap.size w W → Ba < W.heap.size → W.cell? ⟨Ba, 0, none⟩ = some (.pointer t) → SeqG Fence.wide n Tryz.prog 70 #[.pointer (some ⟨Ba, 0, none⟩)] (fun x : TKo => #[encT x.1]) B (fun ss => ss.map Subtype.val = K) (fun pre => pre.map Subtype.val <+: K) N W) :
 SeqG Fence.wide n Tryz.prog 58 #[.pointer (some ⟨Bt, 0, none⟩), .pointer (some ⟨Bt + 1, 0, none⟩), .pointer (some ⟨Bt + 1 + 1, 0, none⟩)] (fun x : TKo => #[encT x.1]) B (fun ss => ss.map Subtype.val = K.filter (inOf v g)) (fun pre => pre.map Subtype.val <+: K.filter (inOf v g)) N w := fun l J Jx W hW hJ hJx hY h0 => by
 have hsW : Bt + 1 + 1 < W.heap.size := Nat.lt_of_lt_of_le hs hW.size
 have ht' := (hW.cell (p := ⟨Bt, 0, none⟩) (by simp; omega)).trans ht
 have hv' := (hW.cell (p := ⟨Bt + 1, 0, none⟩) (by simp; omega)).trans hv
 have hg' := (hW.cell (p := ⟨Bt + 1 + 1, 0, none⟩) (by simp; omega)).trans hg
 have HA := Lib.hid (fun n Ba (W2 : World) (h1 : Below W.heap.size W W2) => hall n Ba W2 (hW.trans (h1.mono hW.size)))
 have HW := Lib.hid hW.size
 have HJ := Lib.hid hJ; have HJX := Lib.hid hJx; have HY := Lib.hid hY; have H0 := Lib.hid h0; have HB := Lib.hid hB; have HS := Lib.hid hsW
 have hBl : Bt < W.heap.size := by omega
 clear ht hv hg hW hs hall hJ hJx hY h0 hB hsW
 refine callsIn_of_wp_marks Tryz.func58 rfl trivial ?_ rfl
 simp only [Tryz.ntmps58, List.size_toArray, List.length_cons, List.length_nil, Nat.reduceAdd, Nat.reduceSub, Array.replicate_succ, Array.replicate_zero, List.push_toArray, List.append_toArray, List.nil_append, List.cons_append]
 gi_wp2_with (refine ⟨trivial, fun hd => (by cases hd), ?_⟩; gi_at_call 44; refine (tall_in _ _ _).mono ?_; rintro e w' ⟨rfl, rfl⟩)
 have bY := Boxed.new W 63 (.func (.yield l) #[] #[])
 have hb1 : Below W.heap.size W (W.alloc (.cells #[.func (.yield l) #[] #[]] 63)) := (Below.refl _ W).alloc (Nat.le_refl _) _
 have bT := Boxed.new (W.alloc (.cells #[.func (.yield l) #[] #[]] 63)) 25 (.pointer t)
 replace bY := bY.alloc (.cells #[.pointer t] 25)
 have hb0 : Below W.heap.size W ((W.alloc (.cells #[.func (.yield l) #[] #[]] 63)).alloc (.cells #[.pointer t] 25)) := hb1.alloc hb1.size _
 have hj0 : ∀ H, W.heap.size ≤ H → J H [] ((W.alloc (.cells #[.func (.yield l) #[] #[]] 63)).alloc (.cells #[.pointer t] 25)) := fun H hH => (HJ.out H).alloc _ ((HJ.out H).alloc _ (H0.out H hH))
 have hsz : ((W.alloc (.cells #[.func (.yield l) #[] #[]] 63)).alloc (.cells #[.pointer t] 25)).heap.size = W.heap.size + 2 := by rw [World.size_alloc, World.size_alloc]
 simp only [World.size_alloc] at bT
 obtain ⟨W0, hW0⟩ : ∃ W0, (W.alloc (.cells #[.func (.yield l) #[] #[]] 63)).alloc (.cells #[.pointer t] 25) = W0 := ⟨_, rfl⟩
 rw [hW0] at bY bT hb0 hsz hj0 ⊢
 clear hW0 hb1
 have hv0 := (hb0.cell (p := ⟨Bt + 1, 0, none⟩) (by have := HS.out; simp; omega)).trans hv'
 have hg0 := (hb0.cell (p := ⟨Bt + 1 + 1, 0, none⟩) (by have := HS.out; simp; omega)).trans hg'
 have hh : ∀ H, OwnFrom W0.heap.size (fun (pre : List TKo) W' => (J H (selO v g pre) W' ∧ W.heap.size ≤ W'.heap.size) ∧ Boxed W' W.heap.size 63 (.func (.yield l) #[] #[]) ∧ W'.cell? ⟨Bt + 1, 0, none⟩ = some (.int .i64 v) ∧ W'.cell? ⟨Bt + 1 + 1, 0, none⟩ = some (.string (bstr g))) := fun H s X Y row hx hgr hr => by
  have hne : ∀ {b : Nat} {c : Value}, X.cell? ⟨b, 0, none⟩ = some c → Y.cell? ⟨b, 0, none⟩ = some c := fun {b c} hc => hgr.cell hc (fun e => by
   obtain ⟨_, o, ho, hno⟩ := hr b e.symm
   unfold World.cell? at hc
   rw [show X.heap[b]? = some o from ho] at hc
   cases o <;> simp [Obj.isCells] at hc hno)
  exact ⟨⟨HJ.out H _ X Y row hx.1.1 hgr (fun r e => ⟨by have := (hr r e).1; omega, (hr r e).2⟩), Nat.le_trans hx.1.2 hgr.size⟩, boxed_own W.heap.size _ (fun _ : Unit => _) () X Y row hx.2.1 hgr (fun r e => (hr r e).2), hne hx.2.2.1, hne hx.2.2.2⟩
 refine wpIn_rangeG B rfl (fun hd => by cases hd) (gf := 70) (lb := #[.pointer (some ⟨W.heap.size + 1, 0, none⟩)]) rfl trivial (enters_of Tryz.func70 (by kernel_rfl) rfl)
  (HA.out _ _ W0 hb0 (by omega) bT.cell) (fun _ => rfl)
  (fun H pre W' => (J H (selO v g pre) W' ∧ W.heap.size ≤ W'.heap.size) ∧ Boxed W' W.heap.size 63 (.func (.yield l) #[] #[]) ∧ W'.cell? ⟨Bt + 1, 0, none⟩ = some (.int .i64 v) ∧ W'.cell? ⟨Bt + 1 + 1, 0, none⟩ = some (.string (bstr g)))
  (fun H c pre W' => c = .ret ∧ Jx H (selO v g pre) W')
  hh (fun H c s X Y row hx hgr hr => ⟨hx.1, HJX.out H _ X Y row hx.2 hgr (fun r e => ⟨by have := (hr r e).1; omega, (hr r e).2⟩)⟩)
  (fun H hH => ⟨⟨hj0 H (by omega), by omega⟩, bY, hv0, hg0⟩)
  (fun x a' W' => ∃ Bx, CBox W' Bx 65 #[.int .i64 x.1.1, .string (bstr x.1.2.1), .int .i64 x.1.2.2] ∧ a' = { tmps := #[.func (.yield l) #[] #[], .pointer (some ⟨Bt, 0, none⟩), .pointer (some ⟨Bt + 1, 0, none⟩), .pointer (some ⟨Bt + 1 + 1, 0, none⟩), .pointer (some ⟨W.heap.size, 0, none⟩), .pointer (some ⟨Bx, 0, none⟩), .pointer t, .func (.func 70) #[] #[.pointer (some ⟨W.heap.size + 1, 0, none⟩)], encT x.1, undef, undef, undef, undef, undef, undef, undef, undef, undef, undef, undef, undef, undef, undef, undef, undef], defers := [] })
  (fun x a' _ X Y row hs hg hr => by obtain ⟨Bx, h2, h3⟩ := hs; exact ⟨Bx, tcbox_own Bx _ _ () X Y row h2 hg (fun r e => (hr r e).2), h3⟩)
  ?assign ?body ?done ?stop
 case assign =>
  rintro l2 H pre ⟨⟨xv, xg, xp⟩, hx⟩ W2 Kx hH1 hH2 ⟨⟨hj, hjs⟩, hby, hcv, hcg⟩ hK
  have hbl := hby.lt
  simp only [encT]
  gi_wp2
  exact hK _ _ ((KeepsOthers.alloc _ _).from _) (KeepsR.alloc _ _ _ _) ⟨⟨(HJ.out H).alloc _ hj, by simp; omega⟩, hby.alloc _, ((Below.refl W2.heap.size W2).alloc (Nat.le_refl _) _).cell (p := ⟨Bt + 1, 0, none⟩) (World.block_lt_of_cell? W2 _ hcv) ▸ hcv, ((Below.refl W2.heap.size W2).alloc (Nat.le_refl _) _).cell (p := ⟨Bt + 1 + 1, 0, none⟩) (World.block_lt_of_cell? W2 _ hcg) ▸ hcg⟩ ⟨W2.heap.size, CBox.new _ rfl, rfl⟩
 case body =>
  rintro l2 H pre ⟨⟨xv, xg, xp⟩, hx⟩ a' W2 hl2 hH1 hH2 hr ⟨⟨hj, hjs⟩, hby, hcv, hcg⟩ ⟨Bx, bX, rfl⟩ hlt
  have cy := hby.cell
  obtain ⟨k0, _⟩ := bX.at_ 0 _ rfl
  obtain ⟨k1, _⟩ := bX.at_ 1 _ rfl
  obtain ⟨k2, _⟩ := bX.at_ 2 _ rfl
  have hbt := bstr_toList
  have HI := Lib.hid (show (J H (selO v g pre) W2 ∧ W.heap.size ≤ W2.heap.size) ∧ Boxed W2 W.heap.size 63 (.func (.yield l) #[] #[]) ∧ W2.cell? ⟨Bt + 1, 0, none⟩ = some (.int .i64 v) ∧ W2.cell? ⟨Bt + 1 + 1, 0, none⟩ = some (.string (bstr g)) from ⟨⟨hj, hjs⟩, hby, hcv, hcg⟩)
  have HW0 := Lib.hid hsz; have HH1 := Lib.hid hH1; have HH2 := Lib.hid hH2; have HLT := Lib.hid hlt
  clear hl2 hH1 hH2 hr hlt hjs hby hb0 hsz hj0 bY bT hv0 hg0 hh hv' hg' ht'
  cases hev : (xv == v)
  · have HN := Lib.hid (show inOf v g (xv, xg, xp) = false from by simp [inOf, hev])
    gi_wp2
    refine ⟨fun _ h => (by cases h), ?_⟩
    gi_wp2
    exact ⟨KeepsFrom.refl _ _, KeepsR.refl _ _ _, by dsimp only; rw [selO_no _ HN.out]; exact HI.out⟩
  · cases heg : (xg == g)
    · have HN := Lib.hid (show inOf v g (xv, xg, xp) = false from by simp [inOf, hev, heg])
      gi_wp2
      refine ⟨fun _ h => (by cases h), ?_⟩
      gi_wp2
      exact ⟨KeepsFrom.refl _ _, KeepsR.refl _ _ _, by dsimp only; rw [selO_no _ HN.out]; exact HI.out⟩
    · have HN := Lib.hid (show inOf v g (xv, xg, xp) = true from by simp [inOf, hev, heg])
      obtain ⟨fn, tmps, assign, body, hy, hR⟩ := YieldAt.any (n - 1 - 1 - 1) (HY.out H (selO v g pre) ⟨(xv, xg, xp), hx⟩ W2 (by have := HH1.out; have := HW0.out; omega) HH2.out hj (Nat.lt_of_le_of_lt (selO_len v g pre) HLT.out))
      dsimp only [encT] at hy
      clear hj
      gi_wp2
      refine ⟨fun hd => (by cases hd), (show RoundIn (Fence.wide.inRound l2) _ _ _ _ _ _ _ _ _ from hR).mono ?_⟩
      rintro e W3 (⟨rfl, hJ3, hk3, hf3⟩ | ⟨rfl, hJx3, hf3⟩)
      · have hkf : KeepsFrom W0.heap.size W2 W3 := ⟨hf3.size, fun j o hj hjo ho => hf3.same j o (by have := HW0.out; omega) hjo ho⟩
        obtain ⟨⟨_, hjs⟩, hby, hcv, hcg⟩ := HI.out
        have hHb : B ≤ W.heap.size ∧ W.heap.size < H ∧ Bt + 1 + 1 < H := by have h1 := HB.out; have h2 := HS.out; have h3 := HH1.out; have h4 := HW0.out; omega
        gi_wp2
        exact ⟨hkf, hk3, ⟨by rw [selO_yes _ HN.out]; exact hJ3, Nat.le_trans hjs hk3.1⟩, hk3.2 _ _ _ _ hHb.1 hHb.2.1 hby, hk3.cell (p := ⟨Bt + 1, 0, none⟩) (by have := HB.out; simp; omega) (by simp; omega) hcv, hk3.cell (p := ⟨Bt + 1 + 1, 0, none⟩) (by have := HB.out; simp; omega) (by simp; omega) hcg⟩
      · have hkf : KeepsFrom W0.heap.size W2 W3 := ⟨hf3.size, fun j o hj hjo ho => hf3.same j o (by have := HW0.out; omega) hjo ho⟩
        gi_wp2
        exact ⟨hkf, rfl, by rw [selO_yes _ HN.out]; exact hJx3⟩
 case done =>
  rintro D H xs W2 hD hDH hxs ⟨⟨hj, hjs⟩, hby, hcv, hcg⟩ hK
  gi_wp2
  refine ⟨by simp, .inl ⟨_, _, rfl, run_takeDeferred hK, ?_⟩⟩
  exact ⟨_, results_none rfl _ _ _, ⟨_, rfl⟩, .inl ⟨H, selO v g xs, by omega, by rw [selO_map, hxs], (HJ.out H).putObj _ hj (by omega) hK rfl⟩⟩
 case stop =>
  rintro D H c pre W2 hD hDH hSp ⟨rfl, hj⟩ hK
  gi_wp2
  refine ⟨by simp, .inl ⟨_, _, rfl, run_takeDeferred hK, ?_⟩⟩
  exact ⟨_, results_none rfl _ _ _, ⟨_, rfl⟩, .inr ⟨H, selO v g pre, by omega, by rw [selO_map]; exact List.IsPrefix.filter _ hSp, (HJX.out H).putObj _ hj (by omega) hK rfl⟩⟩
end Go.Proofs.YtpibmjkbebkilaaGreat

namespace Go.Proofs.YtpibmjkbebkilaaGreat
open Go.RowKit Go.Lib Go.Shelf
set_option maxRecDepth 20000

section
variable {P : Program} {ops : Array Oper} {Q : Exit → Act → World → Prop} {md : Region.Mode}
def noDefer (ops : Array Oper) : Bool := ops.all fun o => match o.op with | .defer _ => false | _ => true
theorem noDefer_spec (h : noDefer ops = true) {i : Nat} {o : Oper} (ho : ops[i]? = some o) (c : Call) : o.op ≠ .defer c := fun e => by
 obtain ⟨hi, hg⟩ := Array.getElem?_eq_some_iff.1 ho
 have := (Array.all_eq_true.1 h) i hi
 rw [hg, e] at this
 cases this

theorem Oper.wpIn_round {l n : Nat} {o : Oper} {a : Act} {w : World} {K : Act → World → Prop} (hd : ∀ c, o.op ≠ .defer c) (h : o.wp P a w K Q) : o.wpIn (Fence.wide.inRound l) n P a w K Q := by
 unfold Oper.wp at h
 unfold Oper.wpIn
 refine ⟨fun _ _ => trivial, ?_⟩
 rw [Oper.semAt_eq _ _ _ hd]
 generalize (execOp a.eval o).run P w = r at *
 cases r with
 | ok x w' =>
   cases x <;> simp only [Oper.upon, Oper.uponIn] at h ⊢ <;>
    first
     | exact h
     | exact ⟨fun hx => (by cases hx), (callsIn_wide (n := n - 1)).2 h⟩
     | exact ⟨fun hx => (by cases hx), fun c cs _ => by obtain ⟨v, w', hr, hs⟩ := h c cs; exact ⟨v, w', hr, stepsIn_wide.2 hs⟩⟩
 | halt x w' => cases x <;> simp only [Oper.upon, Oper.uponIn] at h ⊢ <;> exact h

theorem wpAnyIn_round {l n : Nat} (hno : ¬ LetsOut Q) (hd : noDefer ops = true) : ∀ (fuel : Nat) (listed : Array Bool) (a : Act) (w : World), wpAny P md ops Q fuel listed a w → wpAnyIn (Fence.wide.inRound l) n P md ops Q fuel listed a w
 | 0, _, _, _, h => h
 | fuel + 1, listed, a, w, h => ⟨h.1, fun i hi => by
    have h2 := h.2 i hi
    unfold wpOp at h2
    unfold wpOpIn
    split
    · rename_i ho
      rw [ho] at h2
      exact wpAnyIn_round hno hd fuel _ a w h2
    · rename_i o ho
      rw [ho] at h2
      dsimp only at h2
      split
      · rename_i hw
        rw [if_pos hw] at h2
        rcases h2 with h2 | ⟨_, h2⟩
        · exact Oper.wpIn_round (noDefer_spec hd ho) (Oper.wp_mono (fun a' w' h' => wpAnyIn_round hno hd fuel _ a' w' h') h2)
        · exact absurd h2 hno
      · rename_i hw
        rw [if_neg hw] at h2
        exact ⟨fun _ _ => trivial, wpAnyIn_round hno hd fuel _ _ w h2⟩⟩

theorem region_round {l n id : Nat} {a : Act} {w : World} (S : World → Prop) (hm : P.follows .mixedOrders = true) (hd : noDefer ops = true) (hno : ¬ LetsOut Q) (hS : S w.drew)
 (h : S w.drew → wpAnyH P .any ops Q S ops.size (Array.replicate ops.size false) a w.drew) : (Code.region id ops true).wpIn (Fence.wide.inRound l) n P Q a w :=
 wpIn_region_any hm (wpAnyIn_round hno hd _ _ _ _ (wpAny_of_held _ _ _ _ (h hS)))

theorem takeL {l : List Oper} {S : World → Prop} (i : Nat) {oi : Oper} {v : Value} {fuel : Nat} {listed : Array Bool} {a : Act} {w : World} (hi : l[i]? = some oi)
 (hs : Region.noSelect l.toArray = true) (hf : Region.free md l.toArray listed i = true) (hr : (Region.ready md l.toArray listed).contains i = true)
 (hQ : ∀ c a w, Q (.panic c) (a.put oi.dst v) w → Q (.panic c) a w) (hy : YieldsIf P l.toArray S oi v a) (hS : S w)
 (h : wpAnyH P md l.toArray Q S fuel (listed.setIfInBounds i true) (a.put oi.dst v) w) : wpAnyH P md l.toArray Q S (fuel + 1) listed a w :=
 wpAnyH_take (by simpa using hi) hs hf hr hQ hy hS h
theorem tkL {l : List Oper} {S : World → Prop} (i : Nat) {oi : Oper} {v : Value} {fuel : Nat} {listed : Array Bool} {a : Act} {w : World} (hi : l[i]? = some oi)
 (hb : (Region.noSelect l.toArray && Region.free md l.toArray listed i && (Region.ready md l.toArray listed).contains i) = true) (hQ : ∀ c a w, Q (.panic c) (a.put oi.dst v) w → Q (.panic c) a w) (hy : YieldsIf P l.toArray S oi v a) (hS : S w)
 (h : wpAnyH P md l.toArray Q S fuel (listed.setIfInBounds i true) (a.put oi.dst v) w) : wpAnyH P md l.toArray Q S (fuel + 1) listed a w := by
 simp only [Bool.and_eq_true] at hb
 exact takeL i hi hb.1.1 hb.1.2 hb.2 hQ hy hS h
theorem pA {α : Type} {l : List α} {i : Nat} {x : α} : l.toArray.setIfInBounds i x = (l.set i x).toArray := List.setIfInBounds_toArray ..
theorem pB {α : Type} {a : α} {l : List α} {x : α} : (a :: l).set 0 x = x :: l := List.set_cons_zero ..
theorem pC {α : Type} {a : α} {l : List α} {n : Nat} {x : α} : (a :: l).set (n + 1) x = a :: l.set n x := List.set_cons_succ ..
theorem nextL {l : List Oper} {S : World → Prop} {fuel : Nat} {listed : Array Bool} {a : Act} {w : World} (i : Nat) {o : Oper} {rs : List Nat} (ho : l[i]? = some o)
 (h : ∀ K' : Act → World → Prop, Shut (∀ a w, S w → (S w → wpAnyH P md l.toArray Q S fuel (listed.setIfInBounds i true) a w) → K' a w) → if Region.wanted o (yielded l.toArray a.tmps) = true then Oper.wp P o a w K' Q else K' (a.put o.dst undef) w)
 (hs : AllReadyH P md l.toArray Q S fuel listed a w rs) : AllReadyH P md l.toArray Q S fuel listed a w (i :: rs) :=
 AllReadyH.cons (by simpa using ho) h hs
end
end Go.Proofs.YtpibmjkbebkilaaGreat
