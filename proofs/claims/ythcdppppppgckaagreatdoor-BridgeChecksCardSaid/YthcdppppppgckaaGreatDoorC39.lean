/- Texts joined into one file: BMk, BNw, BNx, BNil. -/
import Derived.Test.YthcdppppppgckaaGreatDoorC31
import Derived.Test.YthcdppppppgckaaGreatDoorC38
import Derived.Test.YthcdppppppgckaaGreatDoorC36
import Derived.Test.YthcdppppppgckaaGreatDoorC26
import Derived.Deep.DeepCutAuto
import Derived.Test.YthcdppppppgckaaGreatDoorC35

namespace Go.Proofs.YthcdppppppgckaaGreatDoor
open Go.RowKit Go.Lib Go.Maps Go.Sort
set_option maxRecDepth 20000
set_option maxRecDepth 20000

def newS (c : Cfg) (vl : List Int) (now : Int) : BrS :=
 ⟨c, newTree c.id c.costs, fun _ => none, fun _ => none, fun _ => none, vl, fun k => ⟨if k.2 = 4 then c.self4 else c.self6, c.every, c.robust, 0, now, 0⟩, -1⟩
theorem rises_in : ∀ (l : List Int) (a : Int), 0 ≤ a → risesGo a l = true → ∀ x ∈ l, 1 ≤ x ∧ x ≤ 4094
 | [], _, _, _, x, hx => by cases hx
 | v :: l, a, ha, h, x, hx => by
   unfold risesGo at h
   simp only [Bool.and_eq_true, decide_eq_true_eq] at h
   rcases List.mem_cons.1 hx with rfl | hx
   · omega
   · exact rises_in l v (by omega) h.2 x hx
theorem allV_in {l : List Pt} (h : vCheck l = 0) : ∀ x ∈ allV l, 1 ≤ x ∧ x ≤ 4094 := fun x hx => by
 obtain ⟨p, hp, hx⟩ := List.mem_flatMap.1 (show x ∈ l.flatMap _ from hx)
 unfold vCheck at h
 split at h
 · rename_i q
   have hf := List.all_eq_true.1 q.2.2 p hp
   unfold Pt.fine risesV at hf
   simp only [Bool.and_eq_true] at hf
   rcases List.mem_append.1 hx with hx | hx
   · exact rises_in _ _ (Int.le_refl _) hf.1.1.1 x hx
   · exact rises_in _ _ (Int.le_refl _) hf.1.1.2 x hx
 · cases h
theorem between_is {n a b : Int} (h : inBetween n a b = true) : a ≤ n ∧ n ≤ b := by
 unfold inBetween at h
 simpa using h
theorem newS_ok {c : Cfg} {vl : List Int} {now : Int} (ok : CfgOk c) (hid : c.id < 18446744073709551616) (h1 : vl.Pairwise (· < ·)) (h2 : ∀ x, x ∈ vl ↔ x ∈ allV c.ports) : BrOk (newS c vl now) := by
 have he := between_is ok.every; have hr := between_is ok.robust; have ha := between_is ok.age; have ho := between_is ok.room
 refine ⟨newTree_ok ok.costs, newTree_w ⟨Int.natCast_nonneg _, by omega⟩, ⟨fun k e he => by cases he⟩, fun k _ => ⟨⟨he.1, ?_⟩, hr, ⟨Int.le_refl _, (by decide : (0 : Int) ≤ 1099512627776)⟩⟩, hid, ok.check, ?_, ho, ha, he, ⟨(by decide : (-1 : Int) ≤ -1), (by decide : (-1 : Int) ≤ 1099511627776)⟩, ok.vl vl h1 h2, fun v hv => allV_in ok.check v ((h2 v).1 hv)⟩
 · show c.every ≤ 100000
   omega
 · show c.ports.length = (newTree c.id c.costs).ports.length
   unfold newTree
   rw [List.length_map, ok.len]
def kindT (n8 e8 s1 s2 s3 s4 s5 s6 s7 qm j : Nat) : Nat :=
 if j < n8 then 0 else if j < e8 then (if j = qm then 7 else 8) else if j < s1 then 1 else if j < s2 then 2 else if j < s3 then 3 else if j < s4 then 4 else if j < s5 then 5 else if j < s6 then 6 else if j < s7 then 7 else 0
section
variable {n8 e8 s1 s2 s3 s4 s5 s6 s7 qm j : Nat}
theorem kindT_0 (h : kindT n8 e8 s1 s2 s3 s4 s5 s6 s7 qm j ≠ 0) (h1 : e8 ≤ s1) (h2 : s1 ≤ s2) (h3 : s2 ≤ s3) (h4 : s3 ≤ s4) (h5 : s4 ≤ s5) (h6 : s5 ≤ s6) (h7 : s6 ≤ s7) : n8 ≤ j ∧ j < s7 := by
 unfold kindT at h
 repeat' split at h
 all_goals first | omega | exact absurd rfl h
theorem kindT_8 (h1 : n8 ≤ j) (h2 : j < e8) (h3 : j ≠ qm) : kindT n8 e8 s1 s2 s3 s4 s5 s6 s7 qm j = 8 := by
 unfold kindT
 rw [if_neg (by omega), if_pos h2, if_neg h3]
theorem kindT_q (h1 : n8 ≤ qm) (h2 : qm < e8) : kindT n8 e8 s1 s2 s3 s4 s5 s6 s7 qm qm = 7 := by
 unfold kindT
 rw [if_neg (by omega), if_pos h2, if_pos rfl]
theorem kindT_1 (h0 : n8 ≤ e8) (h1 : e8 ≤ j) (h2 : j < s1) : kindT n8 e8 s1 s2 s3 s4 s5 s6 s7 qm j = 1 := by
 unfold kindT
 rw [if_neg (by omega), if_neg (by omega), if_pos h2]
theorem kindT_2 (h0 : n8 ≤ e8) (h1 : e8 ≤ s1) (k1 : s1 ≤ j) (k2 : j < s2) : kindT n8 e8 s1 s2 s3 s4 s5 s6 s7 qm j = 2 := by
 unfold kindT
 rw [if_neg (by omega), if_neg (by omega), if_neg (by omega), if_pos k2]
theorem kindT_3 (h0 : n8 ≤ e8) (h1 : e8 ≤ s1) (h2 : s1 ≤ s2) (k1 : s2 ≤ j) (k2 : j < s3) : kindT n8 e8 s1 s2 s3 s4 s5 s6 s7 qm j = 3 := by
 unfold kindT
 rw [if_neg (by omega), if_neg (by omega), if_neg (by omega), if_neg (by omega), if_pos k2]
theorem kindT_4 (h0 : n8 ≤ e8) (h1 : e8 ≤ s1) (h2 : s1 ≤ s2) (h3 : s2 ≤ s3) (k1 : s3 ≤ j) (k2 : j < s4) : kindT n8 e8 s1 s2 s3 s4 s5 s6 s7 qm j = 4 := by
 unfold kindT
 rw [if_neg (by omega), if_neg (by omega), if_neg (by omega), if_neg (by omega), if_neg (by omega), if_pos k2]
theorem kindT_5 (h0 : n8 ≤ e8) (h1 : e8 ≤ s1) (h2 : s1 ≤ s2) (h3 : s2 ≤ s3) (h4 : s3 ≤ s4) (k1 : s4 ≤ j) (k2 : j < s5) : kindT n8 e8 s1 s2 s3 s4 s5 s6 s7 qm j = 5 := by
 unfold kindT
 rw [if_neg (by omega), if_neg (by omega), if_neg (by omega), if_neg (by omega), if_neg (by omega), if_neg (by omega), if_pos k2]
theorem kindT_6 (h0 : n8 ≤ e8) (h1 : e8 ≤ s1) (h2 : s1 ≤ s2) (h3 : s2 ≤ s3) (h4 : s3 ≤ s4) (h5 : s4 ≤ s5) (k1 : s5 ≤ j) (k2 : j < s6) : kindT n8 e8 s1 s2 s3 s4 s5 s6 s7 qm j = 6 := by
 unfold kindT
 rw [if_neg (by omega), if_neg (by omega), if_neg (by omega), if_neg (by omega), if_neg (by omega), if_neg (by omega), if_neg (by omega), if_pos k2]
theorem kindT_7 (h0 : n8 ≤ e8) (h1 : e8 ≤ s1) (h2 : s1 ≤ s2) (h3 : s2 ≤ s3) (h4 : s3 ≤ s4) (h5 : s4 ≤ s5) (h6 : s5 ≤ s6) (k1 : s6 ≤ j) (k2 : j < s7) : kindT n8 e8 s1 s2 s3 s4 s5 s6 s7 qm j = 7 := by
 unfold kindT
 rw [if_neg (by omega), if_neg (by omega), if_neg (by omega), if_neg (by omega), if_neg (by omega), if_neg (by omega), if_neg (by omega), if_neg (by omega), if_pos k2]
end
def qfun (vl : List Int) (qb : Int × Int → Nat) : Int × Int → Option Value := fun k => if qdom vl k then some (.pointer (some ⟨qb k, 0, none⟩)) else none
def qadd (qb : Int × Int → Nat) (v : Int) (p1 p2 : Nat) : Int × Int → Nat := fun k => if k = (v, 4) then p1 else if k = (v, 16) then p2 else qb k
theorem qdom_snoc (l : List Int) (v : Int) (k : Int × Int) : qdom (l ++ [v]) k = (qdom l k || decide (k = (v, 4)) || decide (k = (v, 16))) := by
 obtain ⟨a, b⟩ := k
 unfold qdom
 have e : (l ++ [v]).contains a = (l.contains a || decide (a = v)) := by
  rw [Bool.eq_iff_iff]
  simp
 simp only [e, Prod.mk.injEq, Bool.decide_and]
 have e4 : (b == 4) = decide (b = 4) := rfl
 have e16 : (b == 16) = decide (b = 16) := rfl
 rw [e4, e16]
 cases l.contains a <;> cases decide (a = v) <;> cases decide (b = 4) <;> cases decide (b = 16) <;> rfl
theorem qdom_no {l : List Int} {v s : Int} (h : v ∉ l) : qdom l (v, s) = false := by
 unfold qdom
 have : l.contains v = false := by rw [Bool.eq_false_iff]; simpa using h
 rw [this]
 rfl
theorem qfun_nil (qb : Int × Int → Nat) : qfun [] qb = fun _ => none := by
 funext k
 unfold qfun qdom
 simp
theorem qfun_add (l : List Int) (v : Int) (qb : Int × Int → Nat) (p1 p2 : Nat) : updV (updV (qfun l qb) (v, 4) (.pointer (some ⟨p1, 0, none⟩))) (v, 16) (.pointer (some ⟨p2, 0, none⟩)) = qfun (l ++ [v]) (qadd qb v p1 p2) := by
 funext k
 unfold updV qfun qadd
 rw [qdom_snoc]
 by_cases h16 : k = (v, 16)
 · subst h16
   simp
 · by_cases h4 : k = (v, 4)
   · subst h4
     simp
   · simp [h16, h4]
def qOf (c : Cfg) (now : Int) (k : Int × Int) : Qr := ⟨if k.2 = 4 then c.self4 else c.self6, c.every, c.robust, 0, now, 0⟩
def QsAt (w : World) (s6 : Nat) (c : Cfg) (now : Int) (l : List Int) (qb : Int × Int → Nat) : Prop := ∀ x, qdom l x = true → QrAt w (qb x) (qOf c now x) ∧ s6 ≤ qb x ∧ qb x < w.heap.size
theorem QsAt.nil (w : World) (s6 : Nat) (c : Cfg) (now : Int) (qb : Int × Int → Nat) : QsAt w s6 c now [] qb := fun x hx => by simp [qdom] at hx
theorem QsAt.turn {w w' : World} {F : Nat → Prop} {s6 : Nat} {c : Cfg} {now : Int} {l : List Int} {qb : Int × Int → Nat} (h : QsAt w s6 c now l qb) (k : Turn F w w') (hF : ∀ j, F j → j < s6) : QsAt w' s6 c now l qb := fun x hx =>
 have q := h x hx
 ⟨QrAt.turn q.1 k fun hf => absurd (hF _ hf) (Nat.not_lt.2 q.2.1), q.2.1, Nat.lt_of_lt_of_le q.2.2 k.size⟩
theorem qdom_add {l : List Int} {v : Int} {x : Int × Int} (h : qdom (l ++ [v]) x = true) : qdom l x = true ∨ x = (v, 4) ∨ x = (v, 16) := by
 rw [qdom_snoc] at h
 simp only [Bool.or_eq_true, decide_eq_true_eq] at h
 rcases h with (h | h) | h
 · exact .inl h
 · exact .inr (.inl h)
 · exact .inr (.inr h)
theorem qadd_old {l : List Int} {v : Int} {x : Int × Int} {qb : Int × Int → Nat} {p1 p2 : Nat} (hv : v ∉ l) (hx : qdom l x = true) : qadd qb v p1 p2 x = qb x := by
 have h4 : x ≠ (v, 4) := fun e => by rw [e, qdom_no hv] at hx; cases hx
 have h16 : x ≠ (v, 16) := fun e => by rw [e, qdom_no hv] at hx; cases hx
 unfold qadd
 rw [if_neg h4, if_neg h16]
theorem qadd_4 (qb : Int × Int → Nat) (v : Int) (p1 p2 : Nat) : qadd qb v p1 p2 (v, 4) = p1 := by unfold qadd; rw [if_pos rfl]
theorem qadd_16 (qb : Int × Int → Nat) (v : Int) (p1 p2 : Nat) : qadd qb v p1 p2 (v, 16) = p2 := by unfold qadd; rw [if_neg (by simp), if_pos rfl]
theorem QsAt.add {w : World} {s6 : Nat} {c : Cfg} {now : Int} {l : List Int} {v : Int} {qb : Int × Int → Nat} {p1 p2 : Nat} (h : QsAt w s6 c now l qb) (hv : v ∉ l) (h1 : QrAt w p1 (qOf c now (v, 4))) (h2 : QrAt w p2 (qOf c now (v, 16))) (b1 : s6 ≤ p1) (b2 : s6 ≤ p2) : QsAt w s6 c now (l ++ [v]) (qadd qb v p1 p2) := fun x hx => by
 rcases qdom_add hx with hx | rfl | rfl
 · rw [qadd_old hv hx]; exact h x hx
 · rw [qadd_4]; exact ⟨h1, b1, CBox.lt h1⟩
 · rw [qadd_16]; exact ⟨h2, b2, CBox.lt h2⟩
def QInj (l : List Int) (qb : Int × Int → Nat) : Prop := ∀ k k', qdom l k = true → qdom l k' = true → qb k = qb k' → k = k'
theorem QInj.nil (qb : Int × Int → Nat) : QInj [] qb := fun k k' hk => by simp [qdom] at hk
theorem QInj.add {l : List Int} {v : Int} {qb : Int × Int → Nat} {p1 p2 : Nat} (h : QInj l qb) (hv : v ∉ l) (hp : p1 < p2) (hb : ∀ x, qdom l x = true → qb x < p1) : QInj (l ++ [v]) (qadd qb v p1 p2) := fun k k' hk hk' e => by
 rcases qdom_add hk with hk | rfl | rfl
 · rw [qadd_old hv hk] at e
   have := hb _ hk
   rcases qdom_add hk' with hk' | rfl | rfl
   · rw [qadd_old hv hk'] at e; exact h k k' hk hk' e
   · rw [qadd_4] at e; omega
   · rw [qadd_16] at e; omega
 · rw [qadd_4] at e
   rcases qdom_add hk' with hk' | rfl | rfl
   · rw [qadd_old hv hk'] at e; have := hb _ hk'; omega
   · rfl
   · rw [qadd_16] at e; omega
 · rw [qadd_16] at e
   rcases qdom_add hk' with hk' | rfl | rfl
   · rw [qadd_old hv hk'] at e; have := hb _ hk'; omega
   · rw [qadd_4] at e; omega
   · rfl
theorem selfB_len {s : Str} {n : Nat} (h : selfB s n = true) : s.length = 0 ∨ s.length = n := by
 unfold selfB at h
 cases s with
 | nil => exact .inl rfl
 | cons a l =>
   simp only [List.isEmpty_cons, Bool.false_or, Bool.and_eq_true, decide_eq_true_eq] at h
   exact .inr h.1
def bbcells (c : Cfg) (vc vp p1 p2 p3 p4 p5 vv : Value) (qm : Nat) : Array Value :=
 #[.int .u64 c.id, vc, vp, .string (bstr c.self4), .string (bstr c.self6), .int .i64 c.every, .int .i64 c.robust, .int .i64 c.member, .int .i64 c.last, .int .i64 c.age, .int .i64 c.room, .bool c.flood, .bool c.fast, p1, p2, p3, p4, p5, vv, .map (some qm), .int .i64 (-1)]
structure Made13 (w W : World) (n8 q0 bb qm : Nat) (c : Cfg) (vc vp vv : Value) (R : List Int) : Prop where
 conf : CBox W q0 32 (ccells c vc vp)
 box : CBox W bb 85 (bbcells c vc vp (.pointer none) (.pointer none) (.pointer none) (.pointer none) (.pointer none) vv qm)
 map : VMap KQ W qm 0 (fun _ => none)
 ports : Pts (fun j => n8 ≤ j ∧ j < bb ∧ j ≠ qm) W vp c.ports
 costs : Ints W vc c.costs
 vl : Ints W vv R
 vlR : ∀ j, vv.ownBlock = some j → n8 ≤ j ∧ j < bb ∧ j ≠ qm
 rise : R.Pairwise (· < ·)
 mem : ∀ x, x ∈ R ↔ x ∈ allV c.ports
 num : q0 < n8 ∧ n8 ≤ qm ∧ qm < bb ∧ bb < W.heap.size ∧ w.heap.size ≤ q0
 below : Below w.heap.size w W
theorem keysS_none : KeysS (fun _ => none : Tst) [] := ⟨List.Pairwise.nil, fun x => by simp⟩
theorem keysV_none : KeysV (encV (fun _ => none)) [] := ⟨List.nodup_nil, fun x => by simp [encV]⟩
theorem br_made {w : World} {c : Cfg} {vl : List Int} {now : Int} {A : Adr} {n8 e8 s1 s2 s3 s4 s5 s6 s7 : Nat} (hA : A.kind = kindT n8 e8 s1 s2 s3 s4 s5 s6 s7 A.qm)
 (h0 : n8 ≤ e8) (h1 : e8 ≤ s1) (h2 : s1 ≤ s2) (h3 : s2 ≤ s3) (h4 : s3 ≤ s4) (h5 : s4 ≤ s5) (h6 : s5 ≤ s6) (h7 : s6 ≤ s7) (hs : s7 ≤ w.heap.size)
 (box : CBox w A.b 85 (brcells A (newS c vl now)))
 (tree : TreeAt w A.tp A.tg A.tcap (newTree c.id c.costs)) (fdb : FdAt w A.fp A.fm 0 c.room c.age (fun _ => none)) (tab : Tb w A.gp A.gb A.go 0 0 c.room c.member c.last (fun _ => none) (fun _ => none))
 (rt : RtQ w A.rp A.rf A.rh c.age) (asks : AskQ w A.ap A.wp A.tm A.wm c.robust c.last)
 (ports : Pts (fun j => n8 ≤ j ∧ j < e8 ∧ j ≠ A.qm) w A.vports c.ports) (vlans : Ints w A.vvl vl) (vlansR : ∀ j, A.vvl.ownBlock = some j → n8 ≤ j ∧ j < e8 ∧ j ≠ A.qm)
 (qmap : ∃ n, VMap KQ w A.qm n (fun k => if qdom vl k then some (.pointer (some ⟨A.qb k, 0, none⟩)) else none))
 (qs : ∀ k, qdom vl k = true → QrAt w (A.qb k) ((newS c vl now).qs k) ∧ s6 ≤ A.qb k ∧ A.qb k < s7)
 (qinj : ∀ k k', qdom vl k = true → qdom vl k' = true → A.qb k = A.qb k' → k = k')
 (b1 : e8 ≤ A.b ∧ A.b < s1) (b2 : (s1 ≤ A.tp ∧ A.tp < s2) ∧ (s1 ≤ A.tg ∧ A.tg < s2)) (b3 : (s2 ≤ A.fp ∧ A.fp < s3) ∧ (s2 ≤ A.fm ∧ A.fm < s3))
 (b4 : (s3 ≤ A.gp ∧ A.gp < s4) ∧ (s3 ≤ A.gb ∧ A.gb < s4) ∧ (s3 ≤ A.go ∧ A.go < s4)) (b5 : (s4 ≤ A.rp ∧ A.rp < s5) ∧ (s4 ≤ A.rf ∧ A.rf < s5) ∧ (s4 ≤ A.rh ∧ A.rh < s5))
 (b6 : (s5 ≤ A.ap ∧ A.ap < s6) ∧ (s5 ≤ A.wp ∧ A.wp < s6) ∧ (s5 ≤ A.tm ∧ A.tm < s6) ∧ (s5 ≤ A.wm ∧ A.wm < s6)) (bq : n8 ≤ A.qm ∧ A.qm < e8) (ok : BrOk (newS c vl now)) : BrAt w A (newS c vl now) := by
 have k8 : ∀ j, n8 ≤ j ∧ j < e8 ∧ j ≠ A.qm → A.kind j = 8 := fun j hj => by rw [hA]; exact kindT_8 hj.1 hj.2.1 hj.2.2
 have room : 1 ≤ c.room := ok.room.1
 refine ⟨box, tree, ⟨[], keysV_none, ?_, fdb⟩, ⟨[], 0, keysS_none, ?_, by decide, tab⟩, rt, asks, ports.wide k8, vlans, fun j hj => k8 j (vlansR j hj), qmap, fun k hk => (qs k hk).1, ?_, ⟨?_, ?_⟩, ⟨?_, ?_⟩, ⟨?_, ?_, ?_⟩, ⟨?_, ?_, ?_⟩, ⟨?_, ?_, ?_, ?_⟩, ⟨?_, fun k hk => ?_⟩, qinj, fun j hj => ?_, ok⟩
 · show ((0 : Nat) : Int) ≤ c.room
   omega
 · show ((0 : Nat) : Int) ≤ c.room
   omega
 · rw [hA]; exact kindT_1 h0 b1.1 b1.2
 · rw [hA]; exact kindT_2 h0 h1 b2.1.1 b2.1.2
 · rw [hA]; exact kindT_2 h0 h1 b2.2.1 b2.2.2
 · rw [hA]; exact kindT_3 h0 h1 h2 b3.1.1 b3.1.2
 · rw [hA]; exact kindT_3 h0 h1 h2 b3.2.1 b3.2.2
 · rw [hA]; exact kindT_4 h0 h1 h2 h3 b4.1.1 b4.1.2
 · rw [hA]; exact kindT_4 h0 h1 h2 h3 b4.2.1.1 b4.2.1.2
 · rw [hA]; exact kindT_4 h0 h1 h2 h3 b4.2.2.1 b4.2.2.2
 · rw [hA]; exact kindT_5 h0 h1 h2 h3 h4 b5.1.1 b5.1.2
 · rw [hA]; exact kindT_5 h0 h1 h2 h3 h4 b5.2.1.1 b5.2.1.2
 · rw [hA]; exact kindT_5 h0 h1 h2 h3 h4 b5.2.2.1 b5.2.2.2
 · rw [hA]; exact kindT_6 h0 h1 h2 h3 h4 h5 b6.1.1 b6.1.2
 · rw [hA]; exact kindT_6 h0 h1 h2 h3 h4 h5 b6.2.1.1 b6.2.1.2
 · rw [hA]; exact kindT_6 h0 h1 h2 h3 h4 h5 b6.2.2.1.1 b6.2.2.1.2
 · rw [hA]; exact kindT_6 h0 h1 h2 h3 h4 h5 b6.2.2.2.1 b6.2.2.2.2
 · rw [hA]; exact kindT_q bq.1 bq.2
 · rw [hA]; exact kindT_7 h0 h1 h2 h3 h4 h5 h6 (qs k hk).2.1 (qs k hk).2.2
 · rw [hA] at hj
   have := kindT_0 hj h1 h2 h3 h4 h5 h6 h7
   omega

structure PtsMix (w : World) (R' : Nat → Prop) (L : List Pt) (T T' : List (Int × Value × Value)) (k : Nat) : Prop where
 len : T'.length = L.length
 new : ∀ j, (hj : j < L.length) → j < k → PtIs w R' L[j] (T'.getD j default)
 old : ∀ j, k ≤ j → T'.getD j default = T.getD j default
theorem PtIs.same {w w' : World} {R : Nat → Prop} {p : Pt} {t : Int × Value × Value} (h : PtIs w R p t) (hs : w.heap.size ≤ w'.heap.size) (hb : ∀ j, R j → j < w.heap.size → w'.heap[j]? = w.heap[j]?) : PtIs w' R p t :=
 ⟨h.d, h.wf, h.it.same hs fun j hj hl => hb j (h.rt j hj) hl, h.ip.same hs fun j hj hl => hb j (h.rp j hj) hl, h.rt, h.rp⟩
theorem PtIs.wide {w : World} {R R' : Nat → Prop} {p : Pt} {t : Int × Value × Value} (h : PtIs w R p t) (hr : ∀ j, R j → R' j) : PtIs w R' p t := ⟨h.d, h.wf, h.it, h.ip, fun j hj => hr _ (h.rt j hj), fun j hj => hr _ (h.rp j hj)⟩
theorem PtsMix.wide {w : World} {R R' : Nat → Prop} {L : List Pt} {T T' : List (Int × Value × Value)} {k : Nat} (h : PtsMix w R L T T' k) (hr : ∀ j, R j → R' j) : PtsMix w R' L T T' k := ⟨h.len, fun j hj hk => (h.new j hj hk).wide hr, h.old⟩
theorem PtsMix.next {w w' : World} {R' : Nat → Prop} {L : List Pt} {T T' : List (Int × Value × Value)} {k : Nat} {t : Int × Value × Value} (h : PtsMix w R' L T T' k) (hk : k < L.length) (hs : w.heap.size ≤ w'.heap.size) (hb : ∀ j, R' j → j < w.heap.size → w'.heap[j]? = w.heap[j]?) (ht : PtIs w' R' L[k] t) : PtsMix w' R' L T (T'.set k t) (k + 1) := by
 have hl := h.len
 refine ⟨by rw [List.length_set]; exact hl, fun j hj hjk => ?_, fun j hj => ?_⟩
 · by_cases e : j = k
   · subst e
     rw [show (T'.set j t).getD j default = t from by simp [List.getD_eq_getElem?_getD, show j < T'.length by omega]]
     exact ht
   · rw [show (T'.set k t).getD j default = T'.getD j default from by simp [List.getD_eq_getElem?_getD, Ne.symm e]]
     exact (h.new j hj (by omega)).same hs hb
 · rw [show (T'.set k t).getD j default = T'.getD j default from by simp [List.getD_eq_getElem?_getD, show ¬ k = j by omega]]
   exact h.old j (by omega)
theorem pts_of_row {w : World} {B : Nat} {v : Value} {R : Nat → Prop} {L : List Pt} {T : List (Int × Value × Value)} (h : w.ownsRow B 56 3 v T.length (T.flatMap tcell)) (hp : PtsIs w R L T) (hn : L.length ≤ 1000000) (hR : ∀ g, v.ownBlock = some g → R g) : Pts R w v L := by
 have hl := hp.1
 obtain ⟨g, _, hgi, hgc⟩ := gfacts (cell := tcell) Tryz.underlying24 (fun w => by kernel_rfl) tcell_len h
 have hf := h
 rcases h.2 with ⟨rfl, h0⟩ | ⟨g', cap, cur, rfl, hb, hg, h1, _⟩
 · rw [hl] at h0
   obtain rfl := List.length_eq_zero_iff.1 h0
   exact ⟨none, 0, 0, 0, rfl, .inl rfl, hn, fun k hk => by cases hk⟩
 · refine ⟨_, cap, g', 0, by rw [hl], .inr rfl, hn, fun k hk => ?_⟩
   have hk' : k < T.length := by omega
   obtain ⟨_, hlt, he, hc⟩ := hgc k hk'
   obtain rfl : g' = g := by injection he
   have q := hp.2 k hk
   have c0 := (hc 0 (by decide)).1
   have c1 := (hc 1 (by decide)).1
   have c2 := (hc 2 (by decide)).1
   rw [Nat.add_zero] at c0
   simp only [Nat.zero_add]
   exact ⟨hlt, hR _ rfl, q.wf, _, _, by rw [c0, ← q.d]; rfl, c1, c2, q.it, q.ip, q.rt, q.rp⟩
def RetNew (w : World) (c : Cfg) (now : Int) (e : Ending) (w' : World) : Prop :=
 ∃ A R, e = .returned (.tuple #[.pointer (some ⟨A.b, 0, none⟩), .int .i64 0]) ∧ BrAt w' A (newS c R now) ∧ R.Pairwise (· < ·) ∧ (∀ x, x ∈ R ↔ x ∈ allV c.ports) ∧ (∀ j, A.kind j ≠ 0 → w.heap.size ≤ j) ∧ Below w.heap.size w w'
set_option maxHeartbeats 16000000 in
theorem bnew_any (R : Nat → Prop) (c : Cfg) (vc vp : Value) (now : Int) (w : World) (h : CfgIn w R c vc vp) (ok : CfgOk c) (hid : c.id < 18446744073709551616) (hn : inBetween now 1 1099511627776 = true) :
 Calls Tryz.prog 12 #[encC c vc vp, .int .i64 now] w (RetNew w c now) := by
 obtain ⟨T, hT, hsl⟩ := h.ports.rows
 have hTl := hT.1
 have hpn : c.ports.length ≤ 16 := fine_len ok.check
 rw [← hTl] at hsl
 obtain ⟨W1, hW1⟩ : ∃ W, w.alloc (.cells (ccells c vc vp) 32) = W := ⟨_, rfl⟩
 obtain ⟨q0, hq0⟩ : ∃ q, w.heap.size = q := ⟨_, rfl⟩
 have hb1 : Below w.heap.size w W1 := by rw [← hW1]; exact (Below.refl _ _).alloc (Nat.le_refl _) _
 have hx1 : CBox W1 q0 32 (ccells c vc vp) := by rw [← hW1]; exact CBox.new _ hq0.symm
 have HCK := Lib.hid (check_good R c vc vp W1 (h.mono hb1) ok)
 have HWN := Lib.hid (fun W => bwithin_any now 1 1099511627776 W)
 rw [hn] at HWN
 have HCP := Lib.hid (fun W (hW : Below W1.heap.size W1 W) => clonep_any vp T W (sliceOf_bel hsl (hb1.trans (hW.mono hb1.size))) (by omega))
 have HIN := Lib.hid h; have HID := Lib.hid hid; have HNOW := Lib.hid (between_is hn)
 have HT := Lib.hid (hT.mono hb1)
 have HOK := Lib.hid ok
 have HPN := Lib.hid hpn
 obtain ⟨ao, an, ac, rfl⟩ := h.costs.shape
 obtain ⟨bo, bc, rfl⟩ := h.ports.shape
 obtain ⟨n, hnn⟩ : ∃ n, c.ports.length = n := ⟨_, rfl⟩
 have X1 := Lib.hid hx1; have B1 := Lib.hid hb1; have HW1 := Lib.hid hW1; have HQ0 := Lib.hid hq0
 unfold encC at HCK ⊢
 unfold ccells at HCK HW1 X1 ⊢
 rw [hnn] at HW1 X1 HCP HCK ⊢
 clear h ok hid hT hsl hTl hW1 hq0 hb1 hx1 hn hpn
 go_enter Tryz.func12, Tryz.ntmps12
 go_upto_region 1 with fail
 rw [HW1.out, HQ0.out]
 obtain ⟨c0, cf0⟩ := CBox.at_ X1.out 0 _ rfl
 obtain ⟨c1, cf1⟩ := CBox.at_ X1.out 1 _ rfl
 obtain ⟨c2, cf2⟩ := CBox.at_ X1.out 2 _ rfl
 obtain ⟨c3, cf3⟩ := CBox.at_ X1.out 3 _ rfl
 obtain ⟨c4, cf4⟩ := CBox.at_ X1.out 4 _ rfl
 obtain ⟨c5, cf5⟩ := CBox.at_ X1.out 5 _ rfl
 obtain ⟨c6, cf6⟩ := CBox.at_ X1.out 6 _ rfl
 obtain ⟨c7, cf7⟩ := CBox.at_ X1.out 7 _ rfl
 obtain ⟨c8, cf8⟩ := CBox.at_ X1.out 8 _ rfl
 obtain ⟨c9, cf9⟩ := CBox.at_ X1.out 9 _ rfl
 obtain ⟨c10, cf10⟩ := CBox.at_ X1.out 10 _ rfl
 obtain ⟨c11, cf11⟩ := CBox.at_ X1.out 11 _ rfl
 obtain ⟨c12, cf12⟩ := CBox.at_ X1.out 12 _ rfl
 go_upto_region 4 with ((with_reducible refine HCK.out.mono ?_); rintro e w2 ⟨rfl, hb2⟩; have B2 := Lib.hid hb2; have X2 := Lib.hid (X1.out.below hb2 X1.out.lt); clear hb2)
 clear c0 cf0 c1 cf1 c2 cf2 c3 cf3 c4 cf4 c5 cf5 c6 cf6 c7 cf7 c8 cf8 c9 cf9 c10 cf10 c11 cf11 c12 cf12
 obtain ⟨c0, cf0⟩ := CBox.at_ X2.out 0 _ rfl
 obtain ⟨c1, cf1⟩ := CBox.at_ X2.out 1 _ rfl
 obtain ⟨c2, cf2⟩ := CBox.at_ X2.out 2 _ rfl
 obtain ⟨c3, cf3⟩ := CBox.at_ X2.out 3 _ rfl
 obtain ⟨c4, cf4⟩ := CBox.at_ X2.out 4 _ rfl
 obtain ⟨c5, cf5⟩ := CBox.at_ X2.out 5 _ rfl
 obtain ⟨c6, cf6⟩ := CBox.at_ X2.out 6 _ rfl
 obtain ⟨c7, cf7⟩ := CBox.at_ X2.out 7 _ rfl
 obtain ⟨c8, cf8⟩ := CBox.at_ X2.out 8 _ rfl
 obtain ⟨c9, cf9⟩ := CBox.at_ X2.out 9 _ rfl
 obtain ⟨c10, cf10⟩ := CBox.at_ X2.out 10 _ rfl
 obtain ⟨c11, cf11⟩ := CBox.at_ X2.out 11 _ rfl
 obtain ⟨c12, cf12⟩ := CBox.at_ X2.out 12 _ rfl
 go_upto_region 7 with (first | ((with_reducible refine (HWN.out _).mono ?_); rintro e w3 ⟨rfl, hw3⟩; subst w3) | ((with_reducible refine (HCP.out w2 B2.out).mono ?_); rintro e w3 ⟨v1, rfl, hr3, hb3⟩; have R3 := Lib.hid hr3; have B3 := Lib.hid (B2.out.trans (hb3.mono B2.out.size)); have X3 := Lib.hid (X2.out.below hb3 X2.out.lt); have HLE3 := Lib.hid B2.out.size; have B3W := Lib.hid hb3; clear hb3 hr3))
 clear c0 cf0 c1 cf1 c2 cf2 c3 cf3 c4 cf4 c5 cf5 c6 cf6 c7 cf7 c8 cf8 c9 cf9 c10 cf10 c11 cf11 c12 cf12
 have HT3 := Lib.hid (show PtsMix w3 (fun j => w3.heap.size ≤ j ∧ j < w3.heap.size) c.ports T T 0 from ⟨HT.out.1, fun j _ hj => by omega, fun _ _ => rfl⟩)
 obtain ⟨g3, glen, _, _⟩ := gfacts (cell := tcell) Tryz.underlying24 (fun w => by kernel_rfl) tcell_len R3.out
 have hTn : T.length = n := by rw [HT.out.1, hnn]
 have hn16 : n ≤ 16 := by rw [← hnn]; exact HPN.out
 rw [hTn] at glen
 have HTN := Lib.hid hTn; have HNN := Lib.hid hnn; have HN16 := Lib.hid hn16
 clear hTn hnn
 go_wp2_with fail
 go_loopw [8, 9, 26] (fun _ _ i wr => ∃ (k : Nat) (T' : List (Int × Value × Value)), k ≤ n ∧ i = .int .i64 (k : Nat) ∧ wr.ownsRow w2.heap.size 56 3 v1 T'.length (T'.flatMap tcell) ∧ PtsMix wr (fun j => w3.heap.size ≤ j ∧ j < wr.heap.size) c.ports T T' k ∧ Below w2.heap.size w2 wr ∧ w3.heap.size ≤ wr.heap.size) (fun _ _ i _ => n - (intOf i).toNat)
 case atStart => exact ⟨0, T, Nat.zero_le _, rfl, R3.out, HT3.out, B3W.out, Nat.le_refl _⟩
 case round =>
  obtain ⟨k, T', hk, rfl, hrow, hmix, hb, hge⟩ := hrel
  by_cases hlt : k < n
  · have hkl : k < c.ports.length := by rw [HNN.out]; exact hlt
    have hkt : k < T'.length := by rw [hmix.len]; exact hkl
    obtain ⟨g, _, gidx, gcl⟩ := gfacts (cell := tcell) Tryz.underlying24 (fun w => by kernel_rfl) tcell_len hrow
    obtain ⟨hg2, hgl, hgo, hgc⟩ := gcl k hkt
    have hg3 := (R3.out.lt g hgo).2
    have hp := gidx k hkt
    have hPt := HT.out.2 k hkl
    rw [← hmix.old k (Nat.le_refl _)] at hPt
    obtain ⟨⟨d, vt, vp⟩, ht⟩ : ∃ t, T'.getD k default = t := ⟨_, rfl⟩
    rw [ht] at hPt hgc
    have s0 := (hgc 0 (by decide)).1; have s1 := (hgc 1 (by decide)).1; have s2 := (hgc 2 (by decide)).1
    have z1 := (hgc 1 (by decide)).2; have z2 := (hgc 2 (by decide)).2
    rw [Nat.add_zero] at s0
    replace s0 : wr.cell? ⟨g, k * 3, none⟩ = some (.int .i64 d) := s0
    replace s1 : wr.cell? ⟨g, k * 3 + 1, none⟩ = some vt := s1
    replace s2 : wr.cell? ⟨g, k * 3 + 2, none⟩ = some vp := s2
    have hW1r : Below W1.heap.size W1 wr := B2.out.trans (hb.mono B2.out.size)
    have i1 := hPt.it.mono hW1r
    have i2 := hPt.ip.mono hW1r
    obtain ⟨a1, n1, c1, rfl⟩ := i1.shape
    obtain ⟨a2, n2, c2, rfl⟩ := i2.shape
    obtain ⟨p0, hp0⟩ : ∃ p, c.ports[k] = p := ⟨_, rfl⟩
    rw [hp0] at hPt i1 i2
    obtain ⟨W5, hW5⟩ : ∃ W, wr.alloc (.cells #[.int .i64 d, .slice a1 n1 c1, .slice a2 n2 c2] 56) = W := ⟨_, rfl⟩
    obtain ⟨pb, hpb⟩ : ∃ q, wr.heap.size = q := ⟨_, rfl⟩
    have hb5 : Below wr.heap.size wr W5 := by rw [← hW5]; exact (Below.refl _ _).alloc (Nat.le_refl _) _
    have hx5 : CBox W5 pb 56 #[.int .i64 d, .slice a1 n1 c1, .slice a2 n2 c2] := by rw [← hW5]; exact CBox.new _ hpb.symm
    obtain ⟨Z, hZ⟩ : ∃ W, W5.drew = W := ⟨_, rfl⟩
    have hbz : Below W5.heap.size W5 Z := by rw [← hZ]; exact Below.drew (Below.refl _ _)
    have hbb := hb5.trans (hbz.mono hb5.size)
    have XZ := Lib.hid (hx5.below hbz hx5.lt)
    have HC1 := Lib.hid (clone_any _ _ Z (i1.mono hbb))
    have HC2 := Lib.hid (fun W (hW : Below Z.heap.size Z W) => clone_any _ _ W ((i2.mono hbb).mono hW))
    have HF := Lib.hid (fun (wq : World) (h : CBox wq pb 56 #[.int .i64 d, .slice a1 n1 c1, .slice a2 n2 c2]) => And.intro (h.at_ 1 _ rfl).1 (h.at_ 2 _ rfl).1)
    have RZ := Lib.hid (gown_bel hrow hbb); have BZ := Lib.hid hbb; have BR := Lib.hid hb; have MX := Lib.hid hmix
    have HGP := Lib.hid (show g ≠ pb ∧ w2.heap.size ≤ g ∧ g < w3.heap.size ∧ w3.heap.size ≤ wr.heap.size ∧ k < T'.length from ⟨by omega, hg2, hg3, hge, hkt⟩)
    have HGO := Lib.hid hgo; have HPT := Lib.hid hPt; have HKL := Lib.hid (show ∃ hkl : k < c.ports.length, c.ports[k] = p0 from ⟨hkl, hp0⟩)
    have HTT := Lib.hid ht
    have HW5 := Lib.hid hW5; have HPB := Lib.hid hpb; have HZ := Lib.hid hZ
    clear hrow hmix hb hge hgc gcl gidx hkt hPt i1 i2 hp0 hb5 hx5 hbz hbb hW1r ht hW5 hpb hZ z1 z2 hg2 hgl hgo hg3 glen
    go_upto_region 10 with fail
    rw [HW5.out, HPB.out]
    clear s0 s1 s2
    refine wp_region_held_drew (S := fun wq => CBox wq pb 56 #[.int .i64 d, .slice a1 n1 c1, .slice a2 n2 c2]) (by kernel_rfl) (by rw [HZ.out]; exact XZ.out) (fun hHeld => ?_)
    rw [HZ.out] at hHeld ⊢
    iterate 6 (first | (refine takeO 16 (v := ?_) rfl (by kernel_rfl) (fun _ _ _ => id) (Or.inl ⟨by rfl, ?_⟩) (by assumption) ?_; rotate_left; (focus (intro wq hSq; have f := HF.out wq hSq; go_simp <;> with_reducible rfl)); simp only [Act.put, List.setIfInBounds_toArray, List.set_cons_zero, List.set_cons_succ]) | (refine takeO 16 (v := undef) rfl (by kernel_rfl) (fun _ _ _ h => h) (Or.inr ⟨by rfl, rfl⟩) (by assumption) ?_; simp only [Act.put, List.setIfInBounds_toArray, List.set_cons_zero, List.set_cons_succ]))
    refine tkL 7 (v := ?_) rfl (by kernel_rfl) (fun _ _ _ => id) (Or.inl ⟨by rfl, ?_⟩) (by assumption) ?_; rotate_left; (focus (intro wq hSq; have f := HF.out wq hSq; go_simp <;> with_reducible rfl)); simp only [Act.put, pA, pB, pC]
    refine tkL 8 (v := ?_) rfl (by kernel_rfl) (fun _ _ _ => id) (Or.inl ⟨by rfl, ?_⟩) (by assumption) ?_; rotate_left; (focus (intro wq hSq; have f := HF.out wq hSq; go_simp <;> with_reducible rfl)); simp only [Act.put, pA, pB, pC]
    refine wpAnyH_ready (rs := [6]) (by kernel_rfl) (by simp) (nextL 6 rfl (fun Kr hKr => ?_) AllReadyH.nil)
    rw [if_pos (by rfl)]
    go_simp
    (with_reducible refine HC1.out.mono ?_)
    rintro e w6 ⟨v6, rfl, hi6, ho6, hb6⟩
    obtain ⟨a6, n6, c6, rfl⟩ := hi6.shape
    have X6 := Lib.hid (XZ.out.below hb6 XZ.out.lt); have R6 := Lib.hid (gown_bel RZ.out hb6); have B6 := Lib.hid hb6; have I6 := Lib.hid (And.intro hi6 (And.intro ho6 hb6.size))
    refine hKr.out _ _ X6.out (fun _ => ?_)
    clear hKr hi6 ho6 hb6
    refine wpAnyH_ready (rs := [9]) (by kernel_rfl) (by simp) (nextL 9 rfl (fun Kr hKr => ?_) AllReadyH.nil)
    rw [if_pos (by rfl)]
    go_simp
    (with_reducible refine (HC2.out w6 B6.out).mono ?_)
    rintro e w7 ⟨v7, rfl, hi7, ho7, hb7⟩
    obtain ⟨a7, n7, c7, rfl⟩ := hi7.shape
    have X7 := Lib.hid (X6.out.below hb7 X6.out.lt); have R7 := Lib.hid (gown_bel R6.out hb7); have B7 := Lib.hid (B6.out.trans (hb7.mono B6.out.size)); have I7 := Lib.hid (And.intro (I6.out.1.mono hb7) (And.intro hi7 (And.intro (fun j (hj : (Value.slice a7 n7 c7).ownBlock = some j) => And.intro (Nat.le_trans B6.out.size (ho7 j hj).1) (ho7 j hj).2) hb7.size)))
    refine hKr.out _ _ X7.out (fun _ => ?_)
    clear hKr hi7 ho7 hb7
    have hHeld := (show CBox w7 pb 56 #[.int .i64 d, .slice a1 n1 c1, .slice a2 n2 c2] from X7.out)
    iterate 2 (first | (refine takeO 16 (v := ?_) rfl (by kernel_rfl) (fun _ _ _ => id) (Or.inl ⟨by rfl, ?_⟩) (by assumption) ?_; rotate_left; (focus (intro wq hSq; have f := HF.out wq hSq; go_simp <;> with_reducible rfl)); simp only [Act.put, List.setIfInBounds_toArray, List.set_cons_zero, List.set_cons_succ]) | (refine takeO 16 (v := undef) rfl (by kernel_rfl) (fun _ _ _ h => h) (Or.inr ⟨by rfl, rfl⟩) (by assumption) ?_; simp only [Act.put, List.setIfInBounds_toArray, List.set_cons_zero, List.set_cons_succ]))
    obtain ⟨g7, _, _, gc7⟩ := gfacts (cell := tcell) Tryz.underlying24 (fun w => by kernel_rfl) tcell_len R7.out
    obtain ⟨_, _, go7, gd7⟩ := gc7 k HGP.out.2.2.2.2
    obtain rfl : g = g7 := by have := HGO.out; rw [this] at go7; injection go7
    rw [HTT.out] at gd7
    have y1 := (gd7 1 (by decide)).1; have yf1 := (gd7 1 (by decide)).2
    replace y1 : w7.cell? ⟨g, k * 3 + 1, none⟩ = some (.slice a1 n1 c1) := y1
    clear gc7 gd7 go7
    refine wpAnyH_ready (rs := [12]) (by kernel_rfl) (by simp) (nextL 12 rfl (fun Kr hKr => ?_) AllReadyH.nil)
    rw [if_pos (by rfl)]
    go_simp
    obtain ⟨V1, hV1⟩ : ∃ W, w7.setCell ⟨g, k * 3 + 1, none⟩ (.slice a6 n6 c6) = W := ⟨_, rfl⟩
    have RV1 := Lib.hid (show V1.ownsRow w2.heap.size 56 3 v1 T'.length ((T'.set k (d, .slice a6 n6 c6, .slice a2 n2 c2)).flatMap tcell) from by
     rw [← hV1, ← gflat_set tcell_len T' k 1 (.slice a6 n6 c6) (d, .slice a6 n6 c6, .slice a2 n2 c2) HGP.out.2.2.2.2 (by decide) (by rw [HTT.out]; rfl)]
     exact own_setIn R7.out HGO.out (by have := HGP.out.2.2.2.2; omega) _)
    have XV1 := Lib.hid (show CBox V1 pb 56 #[.int .i64 d, .slice a1 n1 c1, .slice a2 n2 c2] from by rw [← hV1]; exact X7.out.far (p := ⟨g, k * 3 + 1, none⟩) (Ne.symm HGP.out.1) _)
    have HB1 := Lib.hid (show ∀ j, j ≠ g → V1.heap[j]? = w7.heap[j]? from fun j hj => by rw [← hV1]; exact Below.heap_setCell _ _ _ j hj)
    have HZ1 := Lib.hid (show V1.heap.size = w7.heap.size from by rw [← hV1]; simp [World.setCell])
    have BV1 := Lib.hid (show Below w2.heap.size w2 V1 from by rw [← hV1]; exact ((BR.out.trans (BZ.out.mono BR.out.size)).trans (B7.out.mono (Nat.le_trans BR.out.size BZ.out.size))).setCell (p := ⟨g, k * 3 + 1, none⟩) HGP.out.2.1 _)
    rw [hV1]
    refine hKr.out _ _ XV1.out (fun _ => ?_)
    clear hKr hV1 y1 yf1
    have hHeld := (show CBox V1 pb 56 #[.int .i64 d, .slice a1 n1 c1, .slice a2 n2 c2] from XV1.out)
    iterate 2 (first | (refine takeO 16 (v := ?_) rfl (by kernel_rfl) (fun _ _ _ => id) (Or.inl ⟨by rfl, ?_⟩) (by assumption) ?_; rotate_left; (focus (intro wq hSq; have f := HF.out wq hSq; go_simp <;> with_reducible rfl)); simp only [Act.put, List.setIfInBounds_toArray, List.set_cons_zero, List.set_cons_succ]) | (refine takeO 16 (v := undef) rfl (by kernel_rfl) (fun _ _ _ h => h) (Or.inr ⟨by rfl, rfl⟩) (by assumption) ?_; simp only [Act.put, List.setIfInBounds_toArray, List.set_cons_zero, List.set_cons_succ]))
    have rv1 := RV1.out
    rw [show T'.length = (T'.set k (d, .slice a6 n6 c6, .slice a2 n2 c2)).length from by rw [List.length_set]] at rv1
    obtain ⟨g8, _, _, gc8⟩ := gfacts (cell := tcell) Tryz.underlying24 (fun w => by kernel_rfl) tcell_len rv1
    obtain ⟨_, _, go8, gd8⟩ := gc8 k (by rw [List.length_set]; exact HGP.out.2.2.2.2)
    obtain rfl : g = g8 := by have := HGO.out; rw [this] at go8; injection go8
    have hst : (T'.set k (d, .slice a6 n6 c6, .slice a2 n2 c2)).getD k default = (d, .slice a6 n6 c6, .slice a2 n2 c2) := by simp [List.getD_eq_getElem?_getD, HGP.out.2.2.2.2]
    rw [hst] at gd8
    have y2 := (gd8 2 (by decide)).1; have yf2 := (gd8 2 (by decide)).2
    replace y2 : V1.cell? ⟨g, k * 3 + 2, none⟩ = some (.slice a2 n2 c2) := y2
    clear gc8 gd8 go8 rv1
    refine wpAnyH_ready (rs := [15]) (by kernel_rfl) (by simp) (nextL 15 rfl (fun Kr hKr => ?_) AllReadyH.nil)
    rw [if_pos (by rfl)]
    go_simp
    obtain ⟨V2, hV2⟩ : ∃ W, V1.setCell ⟨g, k * 3 + 2, none⟩ (.slice a7 n7 c7) = W := ⟨_, rfl⟩
    have RV2 := Lib.hid (show V2.ownsRow w2.heap.size 56 3 v1 (T'.set k (d, .slice a6 n6 c6, .slice a7 n7 c7)).length ((T'.set k (d, .slice a6 n6 c6, .slice a7 n7 c7)).flatMap tcell) from by
     rw [← hV2, List.length_set, show (T'.set k (d, .slice a6 n6 c6, .slice a7 n7 c7)) = (T'.set k (d, .slice a6 n6 c6, .slice a2 n2 c2)).set k (d, .slice a6 n6 c6, .slice a7 n7 c7) from by rw [List.set_set], ← gflat_set tcell_len (T'.set k (d, .slice a6 n6 c6, .slice a2 n2 c2)) k 2 (.slice a7 n7 c7) (d, .slice a6 n6 c6, .slice a7 n7 c7) (by rw [List.length_set]; exact HGP.out.2.2.2.2) (by decide) (by rw [hst]; rfl)]
     exact own_setIn RV1.out HGO.out (by have := HGP.out.2.2.2.2; omega) _)
    have XV2 := Lib.hid (show CBox V2 pb 56 #[.int .i64 d, .slice a1 n1 c1, .slice a2 n2 c2] from by rw [← hV2]; exact XV1.out.far (p := ⟨g, k * 3 + 2, none⟩) (Ne.symm HGP.out.1) _)
    have HB2 := Lib.hid (show ∀ j, j ≠ g → V2.heap[j]? = w7.heap[j]? from fun j hj => by rw [← hV2]; exact (Below.heap_setCell V1 ⟨g, k * 3 + 2, none⟩ _ j hj).trans (HB1.out j hj))
    have HZ2 := Lib.hid (show V2.heap.size = w7.heap.size from by rw [← hV2]; simp [World.setCell]; exact HZ1.out)
    have BV2 := Lib.hid (show Below w2.heap.size w2 V2 from by rw [← hV2]; exact BV1.out.setCell (p := ⟨g, k * 3 + 2, none⟩) HGP.out.2.1 _)
    rw [hV2]
    refine hKr.out _ _ XV2.out (fun _ => ?_)
    refine wpAnyH_done (by kernel_rfl) ?_ _
    clear hKr hV2 y2 yf2 hHeld HF hst
    have HZZ := Lib.hid (show wr.heap.size ≤ w7.heap.size ∧ w3.heap.size ≤ wr.heap.size ∧ w3.heap.size ≤ Z.heap.size from ⟨Nat.le_trans BZ.out.size B7.out.size, HGP.out.2.2.2.1, Nat.le_trans HGP.out.2.2.2.1 BZ.out.size⟩)
    have MX2 := Lib.hid (show PtsMix V2 (fun j => w3.heap.size ≤ j ∧ j < V2.heap.size) c.ports T (T'.set k (d, .slice a6 n6 c6, .slice a7 n7 c7)) (k + 1) from by
     obtain ⟨hkl, hp0⟩ := HKL.out
     have hne : ∀ j, w3.heap.size ≤ j → j ≠ g := fun j hj e => by have := HGP.out.2.2.1; omega
     have hsz : wr.heap.size ≤ V2.heap.size := by rw [HZ2.out]; exact HZZ.out.1
     refine (MX.out.wide fun j hj => ⟨hj.1, Nat.lt_of_lt_of_le hj.2 hsz⟩).next hkl hsz (fun j hj hl => (HB2.out j (hne j hj.1)).trans ((B7.out.block j (Nat.lt_of_lt_of_le hl BZ.out.size)).trans (BZ.out.block j hl))) ?_
     rw [hp0]
     have q := HPT.out
     have o6 : ∀ j, (Value.slice a6 n6 c6).ownBlock = some j → w3.heap.size ≤ j ∧ j < V2.heap.size := fun j hj => ⟨Nat.le_trans HZZ.out.2.2 (I6.out.2.1 j hj).1, by rw [HZ2.out]; exact Nat.lt_of_lt_of_le (I6.out.2.1 j hj).2 I7.out.2.2.2⟩
     have o7 : ∀ j, (Value.slice a7 n7 c7).ownBlock = some j → w3.heap.size ≤ j ∧ j < V2.heap.size := fun j hj => ⟨Nat.le_trans HZZ.out.2.2 (I7.out.2.2.1 j hj).1, by rw [HZ2.out]; exact (I7.out.2.2.1 j hj).2⟩
     exact ⟨q.d, q.wf, I7.out.1.same (by rw [HZ2.out]; exact Nat.le_refl _) (fun j hj _ => HB2.out j (hne j (o6 j hj).1)), I7.out.2.1.same (by rw [HZ2.out]; exact Nat.le_refl _) (fun j hj _ => HB2.out j (hne j (o7 j hj).1)), o6, o7⟩)
    clear XZ X6 X7 XV1 XV2 RZ R6 R7 RV1 BZ B6 B7 BV1 I6 I7 HC1 HC2 HB1 HB2 HZ1 BR
    go_wp2_with fail
    go_roundw
    case rel => exact ⟨k + 1, _, by omega, by go_num, RV2.out, MX2.out, BV2.out, by rw [HZ2.out]; exact Nat.le_trans HZZ.out.2.1 HZZ.out.1⟩
    case measure => simp [intOf]; omega
  · obtain rfl : k = n := by omega
    have hTi : PtsIs wr (fun j => w2.heap.size ≤ j ∧ j < wr.heap.size) c.ports T' := ⟨hmix.len, fun j hj => by
     have q := hmix.new j hj (by rw [HNN.out] at hj; exact hj)
     have hle : w2.heap.size ≤ w3.heap.size := B3W.out.size
     exact ⟨q.d, q.wf, q.it, q.ip, fun x hx => ⟨Nat.le_trans hle (q.rt x hx).1, (q.rt x hx).2⟩, fun x hx => ⟨Nat.le_trans hle (q.rp x hx).1, (q.rp x hx).2⟩⟩⟩
    have hpts := pts_of_row hrow hTi (by rw [HNN.out]; have := HN16.out; omega) (fun x hx => hrow.lt x hx)
    have hrl : T'.length = k := by rw [hmix.len, HNN.out]
    obtain ⟨vo, vcap, rfl⟩ := own_form hrow
    rw [hrl] at hpts ⊢
    have hxr := X2.out.below hb X2.out.lt
    have hq0 : q0 < w2.heap.size := X2.out.lt
    obtain ⟨V3, hV3⟩ : ∃ W, wr.setCell ⟨q0, 2, none⟩ (.slice vo k vcap) = W := ⟨_, rfl⟩
    have hx3 : CBox V3 q0 32 #[.int .u64 c.id, .slice ao an ac, .slice vo k vcap, .string (bstr c.self4), .string (bstr c.self6), .int .i64 c.every, .int .i64 c.robust, .int .i64 c.member, .int .i64 c.last, .int .i64 c.age, .int .i64 c.room, .bool c.flood, .bool c.fast] := by rw [← hV3]; exact hxr.set 2 _
    obtain ⟨r2, rf2⟩ := hxr.at_ 2 (.slice bo k bc) rfl
    have hpts3 : Pts (fun j => w2.heap.size ≤ j ∧ j < V3.heap.size) V3 (.slice vo k vcap) c.ports := by
     rw [← hV3]
     refine Pts.wide ?_ (R := fun j => w2.heap.size ≤ j ∧ j < wr.heap.size) (fun j hj => by simpa [World.setCell] using hj)
     exact hpts.turn (F := fun j => j = q0) (Turn.set (F := fun j => j = q0) (show wr.heap[q0]? = some _ from hxr) rfl (fun s' => by simp) (fun o s' n' ho hs => by
      obtain rfl : o = 1 := by omega
      simp at hs) _) (fun j hj e => by have hj : w2.heap.size ≤ j := hj.1; omega)
    have hb3 : Below w.heap.size w V3 := by rw [← hV3]; exact ((B1.out.trans (B2.out.mono B1.out.size)).trans (hb.mono (Nat.le_trans B1.out.size B2.out.size))).setCell (p := ⟨q0, 2, none⟩) (Nat.le_of_eq HQ0.out) _
    have HV3 := Lib.hid hV3; have HQQ := Lib.hid hq0
    have hsz : w2.heap.size ≤ V3.heap.size := by rw [← hV3]; simp [World.setCell]; exact hb.size
    obtain ⟨Z, hZ⟩ : ∃ W, V3.drew = W := ⟨_, rfl⟩
    have hbz : Below V3.heap.size V3 Z := by rw [← hZ]; exact Below.drew (Below.refl _ _)
    have XZ := Lib.hid (hx3.below hbz hx3.lt); have PZ := Lib.hid ((hpts3.mono hbz).wide (R' := fun j => w2.heap.size ≤ j ∧ j < Z.heap.size) (fun j hj => ⟨hj.1, Nat.lt_of_lt_of_le hj.2 hbz.size⟩)); have BZ := Lib.hid (hb3.trans (hbz.mono hb3.size)); have HZ := Lib.hid hZ; have HSZ := Lib.hid (Nat.le_trans hsz hbz.size)
    have HF := Lib.hid (fun (wq : World) (h : CBox wq q0 32 #[.int .u64 c.id, .slice ao an ac, .slice vo k vcap, .string (bstr c.self4), .string (bstr c.self6), .int .i64 c.every, .int .i64 c.robust, .int .i64 c.member, .int .i64 c.last, .int .i64 c.age, .int .i64 c.room, .bool c.flood, .bool c.fast]) => And.intro (h.at_ 0 _ rfl).1 (And.intro (h.at_ 1 _ rfl).1 (And.intro (h.at_ 2 _ rfl).1 (And.intro (h.at_ 3 _ rfl).1 (And.intro (h.at_ 4 _ rfl).1 (And.intro (h.at_ 5 _ rfl).1 (And.intro (h.at_ 6 _ rfl).1 (And.intro (h.at_ 7 _ rfl).1 (And.intro (h.at_ 8 _ rfl).1 (And.intro (h.at_ 9 _ rfl).1 (And.intro (h.at_ 10 _ rfl).1 (And.intro (h.at_ 11 _ rfl).1 ((h.at_ 12 _ rfl).1)))))))))))))
    have hmm := @run_makeMap Tryz.prog
    clear hrow hmix hb hge hTi hpts hrl hxr hq0 hV3 hx3 hpts3 hb3 hsz hZ hbz glen
    go_upto_region 13 with fail
    rw [HV3.out]
    clear r2 rf2
    go_cut [10] (fun s10 W => ∃ bb qm va vm vcp R, s10 = .pointer (some ⟨bb, 0, none⟩) ∧ Made13 w W w2.heap.size q0 bb qm c (.slice ao an ac) (.slice vo k vcap) (.slice va vm vcp) R)
    case first =>
     refine wp_region_held_drew (S := fun wq => CBox wq q0 32 #[.int .u64 c.id, .slice ao an ac, .slice vo k vcap, .string (bstr c.self4), .string (bstr c.self6), .int .i64 c.every, .int .i64 c.robust, .int .i64 c.member, .int .i64 c.last, .int .i64 c.age, .int .i64 c.room, .bool c.flood, .bool c.fast]) (by kernel_rfl) (by rw [HZ.out]; exact XZ.out) (fun hHeld => ?_)
     rw [HZ.out] at hHeld ⊢
     iterate 3 (first | (refine takeO 8 (v := ?_) rfl (by kernel_rfl) (fun _ _ _ => id) (Or.inl ⟨by rfl, ?_⟩) (by assumption) ?_; rotate_left; (focus (intro wq hSq; have f := HF.out wq hSq; go_simp <;> with_reducible rfl)); simp only [Act.put, List.setIfInBounds_toArray, List.set_cons_zero, List.set_cons_succ]) | (refine takeO 8 (v := undef) rfl (by kernel_rfl) (fun _ _ _ h => h) (Or.inr ⟨by rfl, rfl⟩) (by assumption) ?_; simp only [Act.put, List.setIfInBounds_toArray, List.set_cons_zero, List.set_cons_succ]))
     refine wpAnyH_ready (rs := [3, 4]) (by kernel_rfl) (by simp) (nextL 3 rfl (fun Kr hKr => ?_) (nextL 4 rfl (fun Kr hKr => ?_) AllReadyH.nil))
     focus
      rw [if_pos (by rfl)]
      go_simp
      (with_reducible refine (vlans_any (fun j => w2.heap.size ≤ j ∧ j < Z.heap.size) (.slice vo k vcap) c.ports Z PZ.out (by have := HPN.out; omega) (fine_lens HOK.out.check)).mono ?_)
      rintro e w8 ⟨vv, RV, rfl, hi8, hr8, hm8, ho8, hb8⟩
      have X8 := XZ.out.below hb8 XZ.out.lt
      refine hKr.out _ _ X8 (fun _ => ?_)
      clear hKr
      refine wpAnyH_ready (rs := [4]) (by kernel_rfl) (by simp) (nextL 4 rfl (fun Kr hKr => ?_) AllReadyH.nil)
      rw [if_pos (by rfl)]
      go_simp
      obtain ⟨V9, hV9⟩ : ∃ W, w8.alloc (.map #[] 0) = W := ⟨_, rfl⟩
      obtain ⟨qm, hqm⟩ : ∃ q, w8.heap.size = q := ⟨_, rfl⟩
      have hb9 : Below w8.heap.size w8 V9 := by rw [← hV9]; exact (Below.refl _ _).alloc (Nat.le_refl _) _
      have X9 := Lib.hid (X8.below hb9 X8.lt); have P9 := Lib.hid ((PZ.out.mono hb8).mono hb9); have B9 := Lib.hid ((BZ.out.trans (hb8.mono BZ.out.size)).trans (hb9.mono (Nat.le_trans BZ.out.size hb8.size)))
      have I9 := Lib.hid (hi8.mono hb9); have R9 := Lib.hid (And.intro hr8 hm8); have O9 := Lib.hid (fun j (hj : vv.ownBlock = some j) => (show w2.heap.size ≤ j ∧ j < V9.heap.size ∧ j ≠ qm from by have h1 := ho8 j hj; have h2 := HSZ.out; have h3 := hb9.size; omega))
      have M9 := Lib.hid (show VMap KQ V9 qm 0 (fun _ => none) from by rw [← hV9, ← hqm]; exact VMap.made KQ w8)
      have HQM := Lib.hid (show Z.heap.size ≤ qm ∧ qm < V9.heap.size from ⟨by rw [← hqm]; exact hb8.size, M9.out.lt⟩)
      rw [hV9, hqm]
      refine hKr.out _ _ X9.out (fun _ => ?_)
      clear hKr hV9 hqm hb9 X8 hi8 hr8 hm8 ho8 hb8
     rotate_left
     focus
      rw [if_pos (by rfl)]
      go_simp
      obtain ⟨V8, hV8⟩ : ∃ W, Z.alloc (.map #[] 0) = W := ⟨_, rfl⟩
      obtain ⟨qm, hqm⟩ : ∃ q, Z.heap.size = q := ⟨_, rfl⟩
      have hb8 : Below Z.heap.size Z V8 := by rw [← hV8]; exact (Below.refl _ _).alloc (Nat.le_refl _) _
      have X8 := XZ.out.below hb8 XZ.out.lt
      have hm8 : VMap KQ V8 qm 0 (fun _ => none) := by rw [← hV8, ← hqm]; exact VMap.made KQ Z
      have HQE := Lib.hid (Nat.le_of_eq hqm)
      rw [hV8, hqm]
      refine hKr.out _ _ X8 (fun _ => ?_)
      clear hKr hV8 hqm
      refine wpAnyH_ready (rs := [3]) (by kernel_rfl) (by simp) (nextL 3 rfl (fun Kr hKr => ?_) AllReadyH.nil)
      rw [if_pos (by rfl)]
      go_simp
      (with_reducible refine (vlans_any (fun j => w2.heap.size ≤ j ∧ j < Z.heap.size) (.slice vo k vcap) c.ports V8 (PZ.out.mono hb8) (by have := HPN.out; omega) (fine_lens HOK.out.check)).mono ?_)
      rintro e V9 ⟨vv, RV, rfl, hi9, hr9, hmm9, ho9, hb9⟩
      have X9 := Lib.hid (X8.below hb9 X8.lt); have P9 := Lib.hid ((PZ.out.mono hb8).mono hb9); have B9 := Lib.hid ((BZ.out.trans (hb8.mono BZ.out.size)).trans (hb9.mono (Nat.le_trans BZ.out.size hb8.size)))
      have I9 := Lib.hid hi9; have R9 := Lib.hid (And.intro hr9 hmm9); have O9 := Lib.hid (fun j (hj : vv.ownBlock = some j) => (show w2.heap.size ≤ j ∧ j < V9.heap.size ∧ j ≠ qm from by have h1 := ho9 j hj; have h2 := HSZ.out; have h3 := hb8.size; have h4 := hm8.lt; omega))
      have M9 := Lib.hid (hm8.below hb9 hm8.lt); have HQM := Lib.hid (show Z.heap.size ≤ qm ∧ qm < V9.heap.size from ⟨HQE.out, M9.out.lt⟩)
      refine hKr.out _ _ X9.out (fun _ => ?_)
      clear hKr hb9 hb8 X8 hi9 hr9 hmm9 ho9 hm8
     all_goals
      obtain ⟨va, vm, vcp, rfl⟩ := I9.out.shape
      have hHeld := X9.out
      iterate 1 (first | (refine takeO 8 (v := ?_) rfl (by kernel_rfl) (fun _ _ _ => id) (Or.inl ⟨by rfl, ?_⟩) (by assumption) ?_; rotate_left; (focus (intro wq hSq; go_simp <;> with_reducible rfl)); simp only [Act.put, List.setIfInBounds_toArray, List.set_cons_zero, List.set_cons_succ]) | (refine takeO 8 (v := undef) rfl (by kernel_rfl) (fun _ _ _ h => h) (Or.inr ⟨by rfl, rfl⟩) (by assumption) ?_; simp only [Act.put, List.setIfInBounds_toArray, List.set_cons_zero, List.set_cons_succ]))
      refine wpAnyH_ready (rs := [6]) (by kernel_rfl) (by simp) (nextL 6 rfl (fun Kr hKr => ?_) AllReadyH.nil)
      rw [if_pos (by rfl)]
      go_simp
      obtain ⟨V10, hV10⟩ : ∃ W, V9.alloc (.cells (bbcells c (.slice ao an ac) (.slice vo k vcap) (.pointer none) (.pointer none) (.pointer none) (.pointer none) (.pointer none) (.slice va vm vcp) qm) 85) = W := ⟨_, rfl⟩
      obtain ⟨bb, hbb⟩ : ∃ q, V9.heap.size = q := ⟨_, rfl⟩
      have hb10 : Below V9.heap.size V9 V10 := by rw [← hV10]; exact (Below.refl _ _).alloc (Nat.le_refl _) _
      have X10 := X9.out.below hb10 X9.out.lt
      have HB10 := Lib.hid (B9.out.trans (hb10.mono B9.out.size))
      have MD := Lib.hid (show Made13 w V10 w2.heap.size q0 bb qm c (.slice ao an ac) (.slice vo k vcap) (.slice va vm vcp) RV from ⟨X10, by rw [← hV10]; exact CBox.new _ hbb.symm, M9.out.below hb10 M9.out.lt,
       (P9.out.mono hb10).wide (fun j hj => ⟨hj.1, by have := HQM.out; omega, by have := HQM.out; omega⟩), HIN.out.costs.mono HB10.out, I9.out.mono hb10, fun j hj => (by have := O9.out j hj; omega), R9.out.1, R9.out.2,
       ⟨HQQ.out, by have := HQM.out; have := HSZ.out; omega, by have := HQM.out; omega, by rw [← hV10, World.size_alloc]; omega, Nat.le_of_eq HQ0.out⟩, HB10.out⟩)
      unfold bbcells at hV10
      rw [hV10, hbb]
      refine hKr.out _ _ X10 (fun _ => ?_)
      have hHeld := X10
      clear hKr hV10 hbb hb10
      iterate 1 (first | (refine takeO 8 (v := ?_) rfl (by kernel_rfl) (fun _ _ _ => id) (Or.inl ⟨by rfl, ?_⟩) (by assumption) ?_; rotate_left; (focus (intro wq hSq; go_simp <;> with_reducible rfl)); simp only [Act.put, List.setIfInBounds_toArray, List.set_cons_zero, List.set_cons_succ]) | (refine takeO 8 (v := undef) rfl (by kernel_rfl) (fun _ _ _ h => h) (Or.inr ⟨by rfl, rfl⟩) (by assumption) ?_; simp only [Act.put, List.setIfInBounds_toArray, List.set_cons_zero, List.set_cons_succ]))
      refine wpAnyH_done (by kernel_rfl) ?_ _
      clear hHeld X10 HF
      go_wp2_with fail
      go_meet
      case rel => exact ⟨bb, qm, va, vm, vcp, RV, rfl, MD.out⟩
    case rest =>
     obtain ⟨bb, qm, va, vm, vcp, R, rfl, hm⟩ := hcut
     obtain ⟨V13, hV13⟩ : ∃ W, wc = W := ⟨_, rfl⟩
     rw [hV13] at hm ⊢
     clear hV13
     have HM := Lib.hid hm
     have XQ13 := Lib.hid hm.conf; have XB13 := Lib.hid hm.box
     obtain ⟨n8, hn8⟩ : ∃ n, w2.heap.size = n := ⟨_, rfl⟩
     rw [hn8] at HM
     have HNE := Lib.hid (show q0 ≠ bb from by have := hm.num; omega)
     clear hm hn8 HCK HWN HCP X1 B1 HW1 X2 B2 R3 B3 X3 HLE3 B3W HT3 XZ PZ BZ HZ HSZ HT HF HV3 HQQ HTN HNN HN16
     have HCO := Lib.hid HOK.out.costs
     have HRB := Lib.hid (between_is HOK.out.robust); have HEV := Lib.hid (between_is HOK.out.every)
     have hme := between_is HOK.out.member; have hla := between_is HOK.out.last; have hag := between_is HOK.out.age; have hro := between_is HOK.out.room
     have HLA := Lib.hid hla; have HAG := Lib.hid (show 1 ≤ c.age ∧ c.age ≤ 1000000 from by omega)
     have HFM := Lib.hid (show fdbMay c.room c.age = true from by unfold fdbMay inBetween; simp only [Bool.and_eq_true, decide_eq_true_eq]; omega)
     have HFT := Lib.hid (show fitsT c.room c.member c.last from by unfold fitsT; omega)
     clear hme hla hag hro
     have HT14 := Lib.hid (tnewt_any c.id (.slice ao an ac) c.costs V13 HM.out.costs)
     obtain ⟨c0, cf0⟩ := XQ13.out.at_ 0 (.int .u64 c.id) rfl
     obtain ⟨c1, cf1⟩ := XQ13.out.at_ 1 (.slice ao an ac) rfl
     go_upto_region 15 with ((with_reducible refine HT14.out.mono ?_); rintro e w14 ⟨hb14, ⟨hk, _⟩ | ⟨_, tp, tg, tcap, rfl, ht14, hp1, hp2⟩⟩; (rw [HCO.out] at hk; cases hk); have TR := Lib.hid ht14; have KB14 := Lib.hid hb14; have xb := XB13.out.below hb14 XB13.out.lt; have xq := XQ13.out.below hb14 XQ13.out.lt; obtain ⟨y14, yf14⟩ := xb.at_ 13 (.pointer none) rfl; have XBw := Lib.hid xb; have XQw := Lib.hid xq; have P14 := Lib.hid (And.intro hp1 hp2); clear ht14 hb14 hp1 hp2 xb xq c0 cf0 c1 cf1)
     obtain ⟨V14, hV14⟩ : ∃ W, w14.setCell ⟨bb, 13, none⟩ (.pointer (some ⟨tp, 0, none⟩)) = W := ⟨_, rfl⟩
     have XB14 := Lib.hid (show CBox V14 bb 85 (bbcells c (.slice ao an ac) (.slice vo k vcap) (.pointer (some ⟨tp, 0, none⟩)) (.pointer none) (.pointer none) (.pointer none) (.pointer none) (.slice va vm vcp) qm) from by rw [← hV14]; exact XBw.out.set 13 (.pointer (some ⟨tp, 0, none⟩)))
     have XQ14 := Lib.hid (show CBox V14 q0 32 (ccells c (.slice ao an ac) (.slice vo k vcap)) from by rw [← hV14]; exact XQw.out.far (p := ⟨bb, 13, none⟩) HNE.out _)
     have K14 := Lib.hid (show Turn (fun j => j = bb) w14 V14 from by
      rw [← hV14]
      exact Turn.set (F := fun j => j = bb) (show w14.heap[bb]? = some _ from XBw.out) rfl (fun s' => by simp [bbcells]) (fun o s' n' ho hs => by
       obtain rfl : o = 12 := by omega
       simp [bbcells] at hs) _)
     have Z14 := Lib.hid (show V14.heap.size = w14.heap.size from by rw [← hV14]; simp [World.setCell])
     rw [hV14]
     clear hV14 y14 yf14 XBw XQw XB13 XQ13 HT14
     have HT15 := Lib.hid (fdnew_any c.room c.age V14 HFM.out)
     obtain ⟨c10, cf10⟩ := XQ14.out.at_ 10 (.int .i64 c.room) rfl
     obtain ⟨c9, cf9⟩ := XQ14.out.at_ 9 (.int .i64 c.age) rfl
     go_upto_region 16 with ((with_reducible refine HT15.out.mono ?_); rintro e w15 ⟨fp, fm, rfl, ht14, hp1, hp2, hb14⟩; have FD := Lib.hid ht14; have KB15 := Lib.hid hb14; have xb := XB14.out.below hb14 XB14.out.lt; have xq := XQ14.out.below hb14 XQ14.out.lt; obtain ⟨y15, yf15⟩ := xb.at_ 14 (.pointer none) rfl; have XBw := Lib.hid xb; have XQw := Lib.hid xq; have P15 := Lib.hid (And.intro hp1 hp2); clear ht14 hb14 hp1 hp2 xb xq c10 cf10 c9 cf9)
     obtain ⟨V15, hV15⟩ : ∃ W, w15.setCell ⟨bb, 14, none⟩ (.pointer (some ⟨fp, 0, none⟩)) = W := ⟨_, rfl⟩
     have XB15 := Lib.hid (show CBox V15 bb 85 (bbcells c (.slice ao an ac) (.slice vo k vcap) (.pointer (some ⟨tp, 0, none⟩)) (.pointer (some ⟨fp, 0, none⟩)) (.pointer none) (.pointer none) (.pointer none) (.slice va vm vcp) qm) from by rw [← hV15]; exact XBw.out.set 14 (.pointer (some ⟨fp, 0, none⟩)))
     have XQ15 := Lib.hid (show CBox V15 q0 32 (ccells c (.slice ao an ac) (.slice vo k vcap)) from by rw [← hV15]; exact XQw.out.far (p := ⟨bb, 14, none⟩) HNE.out _)
     have K15 := Lib.hid (show Turn (fun j => j = bb) w15 V15 from by
      rw [← hV15]
      exact Turn.set (F := fun j => j = bb) (show w15.heap[bb]? = some _ from XBw.out) rfl (fun s' => by simp [bbcells]) (fun o s' n' ho hs => by
       obtain rfl : o = 13 := by omega
       simp [bbcells] at hs) _)
     have Z15 := Lib.hid (show V15.heap.size = w15.heap.size from by rw [← hV15]; simp [World.setCell])
     rw [hV15]
     clear hV15 y15 yf15 XBw XQw XB14 XQ14 HT15
     have HT16 := Lib.hid (tnew_yesP c.room c.member c.last V15 HFT.out)
     obtain ⟨c10, cf10⟩ := XQ15.out.at_ 10 (.int .i64 c.room) rfl
     obtain ⟨c7, cf7⟩ := XQ15.out.at_ 7 (.int .i64 c.member) rfl
     obtain ⟨c8, cf8⟩ := XQ15.out.at_ 8 (.int .i64 c.last) rfl
     go_upto_region 17 with ((with_reducible refine HT16.out.mono ?_); rintro e w16 ⟨gp, gb, go_, rfl, ht14, hp1, hp2, hb14, hp3⟩; have TB := Lib.hid ht14; have KB16 := Lib.hid hb14; have xb := XB15.out.below hb14 XB15.out.lt; have xq := XQ15.out.below hb14 XQ15.out.lt; obtain ⟨y16, yf16⟩ := xb.at_ 15 (.pointer none) rfl; have XBw := Lib.hid xb; have XQw := Lib.hid xq; have P16 := Lib.hid (And.intro hp1 (And.intro hp2 hp3)); clear ht14 hb14 hp1 hp2 hp3 xb xq c10 cf10 c7 cf7 c8 cf8)
     obtain ⟨V16, hV16⟩ : ∃ W, w16.setCell ⟨bb, 15, none⟩ (.pointer (some ⟨gp, 0, none⟩)) = W := ⟨_, rfl⟩
     have XB16 := Lib.hid (show CBox V16 bb 85 (bbcells c (.slice ao an ac) (.slice vo k vcap) (.pointer (some ⟨tp, 0, none⟩)) (.pointer (some ⟨fp, 0, none⟩)) (.pointer (some ⟨gp, 0, none⟩)) (.pointer none) (.pointer none) (.slice va vm vcp) qm) from by rw [← hV16]; exact XBw.out.set 15 (.pointer (some ⟨gp, 0, none⟩)))
     have XQ16 := Lib.hid (show CBox V16 q0 32 (ccells c (.slice ao an ac) (.slice vo k vcap)) from by rw [← hV16]; exact XQw.out.far (p := ⟨bb, 15, none⟩) HNE.out _)
     have K16 := Lib.hid (show Turn (fun j => j = bb) w16 V16 from by
      rw [← hV16]
      exact Turn.set (F := fun j => j = bb) (show w16.heap[bb]? = some _ from XBw.out) rfl (fun s' => by simp [bbcells]) (fun o s' n' ho hs => by
       obtain rfl : o = 14 := by omega
       simp [bbcells] at hs) _)
     have Z16 := Lib.hid (show V16.heap.size = w16.heap.size from by rw [← hV16]; simp [World.setCell])
     rw [hV16]
     clear hV16 y16 yf16 XBw XQw XB15 XQ15 HT16
     have HT17 := Lib.hid (rnew_any c.age V16 HAG.out)
     obtain ⟨c9, cf9⟩ := XQ16.out.at_ 9 (.int .i64 c.age) rfl
     go_upto_region 18 with ((with_reducible refine HT17.out.mono ?_); rintro e w17 ⟨rp, rf, rh, rfl, ht14, ⟨hp1, hp2, hp3⟩, _, hb14⟩; have RT := Lib.hid ht14; have KB17 := Lib.hid hb14; have xb := XB16.out.below hb14 XB16.out.lt; have xq := XQ16.out.below hb14 XQ16.out.lt; obtain ⟨y17, yf17⟩ := xb.at_ 16 (.pointer none) rfl; have XBw := Lib.hid xb; have XQw := Lib.hid xq; have P17 := Lib.hid (And.intro hp1 (And.intro hp2 hp3)); clear ht14 hb14 hp1 hp2 hp3 xb xq c9 cf9)
     obtain ⟨V17, hV17⟩ : ∃ W, w17.setCell ⟨bb, 16, none⟩ (.pointer (some ⟨rp, 0, none⟩)) = W := ⟨_, rfl⟩
     have XB17 := Lib.hid (show CBox V17 bb 85 (bbcells c (.slice ao an ac) (.slice vo k vcap) (.pointer (some ⟨tp, 0, none⟩)) (.pointer (some ⟨fp, 0, none⟩)) (.pointer (some ⟨gp, 0, none⟩)) (.pointer (some ⟨rp, 0, none⟩)) (.pointer none) (.slice va vm vcp) qm) from by rw [← hV17]; exact XBw.out.set 16 (.pointer (some ⟨rp, 0, none⟩)))
     have XQ17 := Lib.hid (show CBox V17 q0 32 (ccells c (.slice ao an ac) (.slice vo k vcap)) from by rw [← hV17]; exact XQw.out.far (p := ⟨bb, 16, none⟩) HNE.out _)
     have K17 := Lib.hid (show Turn (fun j => j = bb) w17 V17 from by
      rw [← hV17]
      exact Turn.set (F := fun j => j = bb) (show w17.heap[bb]? = some _ from XBw.out) rfl (fun s' => by simp [bbcells]) (fun o s' n' ho hs => by
       obtain rfl : o = 15 := by omega
       simp [bbcells] at hs) _)
     have Z17 := Lib.hid (show V17.heap.size = w17.heap.size from by rw [← hV17]; simp [World.setCell])
     rw [hV17]
     clear hV17 y17 yf17 XBw XQw XB16 XQ16 HT17
     have HT18 := Lib.hid (anew_any c.robust c.last V17 HRB.out HLA.out)
     obtain ⟨c6, cf6⟩ := XQ17.out.at_ 6 (.int .i64 c.robust) rfl
     obtain ⟨c8, cf8⟩ := XQ17.out.at_ 8 (.int .i64 c.last) rfl
     go_upto_region 19 with ((with_reducible refine HT18.out.mono ?_); rintro e w18 ⟨ap, wp, tm, wm, rfl, ht14, ⟨hp1, hp2, hp3, hp4⟩, _, hb14⟩; have AS := Lib.hid ht14; have KB18 := Lib.hid hb14; have xb := XB17.out.below hb14 XB17.out.lt; have xq := XQ17.out.below hb14 XQ17.out.lt; obtain ⟨y18, yf18⟩ := xb.at_ 17 (.pointer none) rfl; have XBw := Lib.hid xb; have XQw := Lib.hid xq; have P18 := Lib.hid (And.intro hp1 (And.intro hp2 (And.intro hp3 hp4))); clear ht14 hb14 hp1 hp2 hp3 hp4 xb xq c6 cf6 c8 cf8)
     obtain ⟨V18, hV18⟩ : ∃ W, w18.setCell ⟨bb, 17, none⟩ (.pointer (some ⟨ap, 0, none⟩)) = W := ⟨_, rfl⟩
     have XB18 := Lib.hid (show CBox V18 bb 85 (bbcells c (.slice ao an ac) (.slice vo k vcap) (.pointer (some ⟨tp, 0, none⟩)) (.pointer (some ⟨fp, 0, none⟩)) (.pointer (some ⟨gp, 0, none⟩)) (.pointer (some ⟨rp, 0, none⟩)) (.pointer (some ⟨ap, 0, none⟩)) (.slice va vm vcp) qm) from by rw [← hV18]; exact XBw.out.set 17 (.pointer (some ⟨ap, 0, none⟩)))
     have XQ18 := Lib.hid (show CBox V18 q0 32 (ccells c (.slice ao an ac) (.slice vo k vcap)) from by rw [← hV18]; exact XQw.out.far (p := ⟨bb, 17, none⟩) HNE.out _)
     have K18 := Lib.hid (show Turn (fun j => j = bb) w18 V18 from by
      rw [← hV18]
      exact Turn.set (F := fun j => j = bb) (show w18.heap[bb]? = some _ from XBw.out) rfl (fun s' => by simp [bbcells]) (fun o s' n' ho hs => by
       obtain rfl : o = 16 := by omega
       simp [bbcells] at hs) _)
     have Z18 := Lib.hid (show V18.heap.size = w18.heap.size from by rw [← hV18]; simp [World.setCell])
     rw [hV18]
     clear hV18 y18 yf18 XBw XQw XB17 XQ17 HT18
     have T18 := Lib.hid K18.out
     have T17 := Lib.hid ((K17.out.after KB18.out).trans T18.out)
     have T16 := Lib.hid ((K16.out.after KB17.out).trans T17.out)
     have T15 := Lib.hid ((K15.out.after KB16.out).trans T16.out)
     have T14 := Lib.hid ((K14.out.after KB15.out).trans T15.out)
     have T13 := Lib.hid (Turn.ahead KB14.out T14.out)
     have S18 := Lib.hid (show V13.heap.size ≤ V14.heap.size ∧ V14.heap.size ≤ V15.heap.size ∧ V15.heap.size ≤ V16.heap.size ∧ V16.heap.size ≤ V17.heap.size ∧ V17.heap.size ≤ V18.heap.size from
      ⟨by rw [Z14.out]; exact KB14.out.size, by rw [Z15.out]; exact KB15.out.size, by rw [Z16.out]; exact KB16.out.size, by rw [Z17.out]; exact KB17.out.size, by rw [Z18.out]; exact KB18.out.size⟩)
     have hbt : ∀ j, bb < j → ¬ j = bb := fun j h e => by omega
     have N13 := Lib.hid HM.out.num
     have TRl := TR.out.lt; have FDl := FD.out.lt; have TBs := TB.out; have RTl := RT.out.lt; have ASs := AS.out
     have n13 := HM.out.num; have s18 := S18.out; have p14 := P14.out; have p15 := P15.out; have p16 := P16.out; have p17 := P17.out; have p18 := P18.out
     have z14 := Z14.out; have z15 := Z15.out; have z16 := Z16.out; have z17 := Z17.out; have z18 := Z18.out
     obtain ⟨VT, hVT, _⟩ := TBs.states
     obtain ⟨UT, hUT, _⟩ := TBs.overs
     have l1 := hVT.lt; have l2 := hUT.lt; have l3 := TBs.box.lt; have l4 := ASs.box.lt; have l5 := ASs.wheel.lt; have l6 := ASs.timers.lt; have l7 := ASs.waits.lt
     have NB2 := Lib.hid (show ((V13.heap.size ≤ tp ∧ tp < V14.heap.size) ∧ (V13.heap.size ≤ tg ∧ tg < V14.heap.size)) from by omega)
     have NB3 := Lib.hid (show ((V14.heap.size ≤ fp ∧ fp < V15.heap.size) ∧ (V14.heap.size ≤ fm ∧ fm < V15.heap.size)) from by omega)
     have NB4 := Lib.hid (show ((V15.heap.size ≤ gp ∧ gp < V16.heap.size) ∧ (V15.heap.size ≤ gb ∧ gb < V16.heap.size) ∧ (V15.heap.size ≤ go_ ∧ go_ < V16.heap.size)) from by omega)
     have NB5 := Lib.hid (show ((V16.heap.size ≤ rp ∧ rp < V17.heap.size) ∧ (V16.heap.size ≤ rf ∧ rf < V17.heap.size) ∧ (V16.heap.size ≤ rh ∧ rh < V17.heap.size)) from by omega)
     have NB6 := Lib.hid (show ((V17.heap.size ≤ ap ∧ ap < V18.heap.size) ∧ (V17.heap.size ≤ wp ∧ wp < V18.heap.size) ∧ (V17.heap.size ≤ tm ∧ tm < V18.heap.size) ∧ (V17.heap.size ≤ wm ∧ wm < V18.heap.size)) from by omega)
     clear TRl FDl TBs RTl ASs n13 s18 p14 p15 p16 p17 p18 z14 z15 z16 z17 z18 hVT hUT l1 l2 l3 l4 l5 l6 l7
     have TR8 := Lib.hid (TR.out.turn T14.out (hbt _ (by have := NB2.out; have := HM.out.num; omega)) (hbt _ (by have := NB2.out; have := HM.out.num; omega)))
     have FD8 := Lib.hid (FD.out.turn T15.out (hbt _ (by have := NB3.out; have := HM.out.num; have := S18.out; omega)) (hbt _ (by have := NB3.out; have := HM.out.num; have := S18.out; omega)))
     have TB8 := Lib.hid (TB.out.turn T16.out (hbt _ (by have := NB4.out; have := HM.out.num; have := S18.out; omega)) (hbt _ (by have := NB4.out; have := HM.out.num; have := S18.out; omega)) (hbt _ (by have := NB4.out; have := HM.out.num; have := S18.out; omega)))
     have RT8 := Lib.hid (RT.out.turn T17.out (hbt _ (by have := NB5.out; have := HM.out.num; have := S18.out; omega)) (hbt _ (by have := NB5.out; have := HM.out.num; have := S18.out; omega)) (hbt _ (by have := NB5.out; have := HM.out.num; have := S18.out; omega)))
     have AS8 := Lib.hid (AS.out.turn T18.out (hbt _ (by have := NB6.out; have := HM.out.num; have := S18.out; omega)) (hbt _ (by have := NB6.out; have := HM.out.num; have := S18.out; omega)) (hbt _ (by have := NB6.out; have := HM.out.num; have := S18.out; omega)) (hbt _ (by have := NB6.out; have := HM.out.num; have := S18.out; omega)))
     have PT8 := Lib.hid (HM.out.ports.turn T13.out (fun j hj e => by omega))
     have VL8 := Lib.hid (HM.out.vl.turn T13.out (fun j hj e => by have := HM.out.vlR j hj; omega))
     have MP8 := Lib.hid (HM.out.map.same (T13.out.block _ HM.out.map.lt (by have := HM.out.num; omega)))
     have BW8 := Lib.hid (show Below w.heap.size w V18 from HM.out.below.trans (T13.out.below HM.out.below.size (fun j e => by have := HM.out.num; omega)))
     clear hbt TR FD TB RT AS K14 K15 K16 K17 K18 KB14 KB15 KB16 KB17 KB18 Z14 Z15 Z16 Z17 Z18 P14 P15 P16 P17 P18 T13 T14 T15 T16 T17 T18 N13
     obtain ⟨y18, yf18⟩ := XB18.out.at_ 18 (.slice va vm vcp) rfl
     obtain ⟨ib, ioff, _, ilen, iidx, icl⟩ := VL8.out.facts
     clear iidx icl
     go_wp2_with fail
     go_loopw [12, 116] (fun _ i wr => ∃ (k2 : Nat) (qb : Int × Int → Nat) (cnt : Nat), k2 ≤ R.length ∧ i = .int .i64 (k2 : Nat) ∧ VMap KQ wr qm cnt (qfun (R.take k2) qb) ∧ cnt ≤ 2 * k2 ∧ QsAt wr V18.heap.size c now (R.take k2) qb ∧ QInj (R.take k2) qb ∧ Turn (fun j => j = qm) V18 wr) (fun _ i _ => R.length - (intOf i).toNat)
     case atStart => exact ⟨0, fun _ => 0, 0, Nat.zero_le _, rfl, by rw [List.take_zero, qfun_nil]; exact MP8.out, Nat.le_refl _, by rw [List.take_zero]; exact QsAt.nil _ _ _ _ _, by rw [List.take_zero]; exact QInj.nil _, Turn.refl _ _⟩
     case round =>
      obtain ⟨k2, qb, cnt, hk2, rfl, hmap, hcnt, hqs, hinj, htn⟩ := hrel
      have HR20 := Lib.hid (HOK.out.vl R HM.out.rise HM.out.mem)
      have XQr := Lib.hid (htn.cbox XQ18.out (by have := HM.out.num; omega)); have XBr := Lib.hid (htn.cbox XB18.out (by have := HM.out.num; omega))
      have ivr := VL8.out.turn htn (fun j hj e => by have := HM.out.vlR j hj; omega)
      have HTN := Lib.hid htn; have HMAP := Lib.hid hmap; have HQS := Lib.hid hqs; have HINJ := Lib.hid hinj; have HCN := Lib.hid hcnt
      clear y18 yf18 hmap hcnt hqs hinj htn
      by_cases hlt : k2 < R.length
      · obtain ⟨jb, joff, _, _, jidx, jcell⟩ := ivr.facts
        obtain ⟨_, jc⟩ := jcell k2 hlt
        have jp := jidx k2 hlt
        have hgd : R.getD k2 0 = R[k2] := by simp [List.getD_eq_getElem?_getD, hlt]
        rw [hgd] at jc
        have HTK := Lib.hid (show R.take (k2 + 1) = R.take k2 ++ [R[k2]] from List.take_succ_eq_append_getElem hlt)
        have HNI := Lib.hid (show R[k2] ∉ R.take k2 from fun hin => by
         obtain ⟨j, hj, e⟩ := List.mem_iff_getElem.1 hin
         rw [List.length_take] at hj
         rw [List.getElem_take] at e
         have := List.pairwise_iff_getElem.1 HM.out.rise j k2 (by omega) hlt (by omega)
         omega)
        have HVB := Lib.hid (allV_in HOK.out.check _ ((HM.out.mem _).1 (List.getElem_mem hlt)))
        obtain ⟨v, hv⟩ : ∃ v, R[k2] = v := ⟨_, rfl⟩
        rw [hv] at jc HTK HNI HVB
        have HOKV := Lib.hid (show ∀ s : Int, (s = 4 ∨ s = 16) → okQK (v, s) from fun s hs => ⟨WalkArith.wf_i64 (n := v) (by have := HVB.out; omega), WalkArith.wf_i64 (n := s) (by omega)⟩)
        clear hgd hv jidx jcell ivr
        go_upto_region 22 with fail
        obtain ⟨Za, hZa⟩ : ∃ W, wr.drew = W := ⟨_, rfl⟩
        have hbza : Below wr.heap.size wr Za := by rw [← hZa]; exact Below.drew (Below.refl _ _)
        have XQa := Lib.hid (XQr.out.below hbza XQr.out.lt); have XBa := Lib.hid (XBr.out.below hbza XBr.out.lt); have Ma := Lib.hid (HMAP.out.below hbza HMAP.out.lt); have BZa := Lib.hid hbza; have HZa := Lib.hid hZa
        have HNa := Lib.hid (qnew_any c.self4 c.every c.robust now Za (by have := selfB_len HOK.out.self4; omega) (by have := HEV.out; omega) HRB.out (by have := HNOW.out; omega))
        have HF := Lib.hid (fun (wq : World) (h : CBox wq q0 32 #[.int .u64 c.id, .slice ao an ac, .slice vo k vcap, .string (bstr c.self4), .string (bstr c.self6), .int .i64 c.every, .int .i64 c.robust, .int .i64 c.member, .int .i64 c.last, .int .i64 c.age, .int .i64 c.room, .bool c.flood, .bool c.fast] ∧ CBox wq bb 85 (bbcells c (.slice ao an ac) (.slice vo k vcap) (.pointer (some ⟨tp, 0, none⟩)) (.pointer (some ⟨fp, 0, none⟩)) (.pointer (some ⟨gp, 0, none⟩)) (.pointer (some ⟨rp, 0, none⟩)) (.pointer (some ⟨ap, 0, none⟩)) (.slice va vm vcp) qm)) => And.intro (h.1.at_ 3 _ rfl).1 (And.intro (h.1.at_ 5 _ rfl).1 (And.intro (h.1.at_ 6 _ rfl).1 (h.2.at_ 19 (.map (some qm)) rfl).1)))
        refine wp_region_held_drew (S := fun wq => CBox wq q0 32 #[.int .u64 c.id, .slice ao an ac, .slice vo k vcap, .string (bstr c.self4), .string (bstr c.self6), .int .i64 c.every, .int .i64 c.robust, .int .i64 c.member, .int .i64 c.last, .int .i64 c.age, .int .i64 c.room, .bool c.flood, .bool c.fast] ∧ CBox wq bb 85 (bbcells c (.slice ao an ac) (.slice vo k vcap) (.pointer (some ⟨tp, 0, none⟩)) (.pointer (some ⟨fp, 0, none⟩)) (.pointer (some ⟨gp, 0, none⟩)) (.pointer (some ⟨rp, 0, none⟩)) (.pointer (some ⟨ap, 0, none⟩)) (.slice va vm vcp) qm)) (by kernel_rfl) (by rw [HZa.out]; exact ⟨XQa.out, XBa.out⟩) (fun hHeld => ?_)
        rw [HZa.out] at hHeld ⊢
        clear hZa hbza
        iterate 13 (first | (refine takeO 18 (v := ?_) rfl (by kernel_rfl) (fun _ _ _ => id) (Or.inl ⟨by rfl, ?_⟩) (by assumption) ?_; rotate_left; (focus (intro wq hSq; have f := HF.out wq hSq; go_simp <;> with_reducible rfl)); simp only [Act.put, List.setIfInBounds_toArray, List.set_cons_zero, List.set_cons_succ]) | (refine takeO 18 (v := undef) rfl (by kernel_rfl) (fun _ _ _ h => h) (Or.inr ⟨by rfl, rfl⟩) (by assumption) ?_; simp only [Act.put, List.setIfInBounds_toArray, List.set_cons_zero, List.set_cons_succ]))
        refine wpAnyH_ready (rs := [13]) (by kernel_rfl) (by simp) (nextL 13 rfl (fun Kr hKr => ?_) AllReadyH.nil)
        rw [if_pos (by rfl)]
        go_simp
        (with_reducible refine HNa.out.mono ?_)
        rintro e wa ⟨pa, rfl, hqa, hpa, hba⟩
        have XQab := Lib.hid (XQa.out.below hba XQa.out.lt); have XBab := Lib.hid (XBa.out.below hba XBa.out.lt); have Mab := Lib.hid (Ma.out.below hba Ma.out.lt); have Bab := Lib.hid hba; have Qab := Lib.hid (And.intro hqa hpa)
        refine hKr.out _ _ ⟨XQab.out, XBab.out⟩ (fun _ => ?_)
        have hHeld := And.intro XQab.out XBab.out
        clear hKr hqa hpa hba
        iterate 3 (first | (refine takeO 18 (v := ?_) rfl (by kernel_rfl) (fun _ _ _ => id) (Or.inl ⟨by rfl, ?_⟩) (by assumption) ?_; rotate_left; (focus (intro wq hSq; have f := HF.out wq hSq; go_simp <;> with_reducible rfl)); simp only [Act.put, List.setIfInBounds_toArray, List.set_cons_zero, List.set_cons_succ]) | (refine takeO 18 (v := undef) rfl (by kernel_rfl) (fun _ _ _ h => h) (Or.inr ⟨by rfl, rfl⟩) (by assumption) ?_; simp only [Act.put, List.setIfInBounds_toArray, List.set_cons_zero, List.set_cons_succ]))
        obtain ⟨ua, hrun, hma, hga⟩ := Mab.out.put Tryz.underlying79 (v, 4) (HOKV.out 4 (by decide)) (.pointer (some ⟨pa, 0, none⟩)) (by have := HCN.out; have := HR20.out; unfold maxLen; omega)
        replace hrun : (Instr.mapUpdate 79 (.map (some qm)) (.agg #[.int .i64 v, .int .i64 4]) (.pointer (some ⟨pa, 0, none⟩))).run Tryz.prog wa = .ok () ua := hrun
        have Ta := Lib.hid (fd_turn Mab.out.map_is hga.grown)
        have XQua := Lib.hid (Ta.out.cbox XQab.out (by have := HM.out.num; omega)); have XBua := Lib.hid (Ta.out.cbox XBab.out (by have := HM.out.num; omega)); have Mua := Lib.hid hma
        refine wpAnyH_ready (rs := [17]) (by kernel_rfl) (by simp) (nextL 17 rfl (fun Kr hKr => ?_) AllReadyH.nil)
        rw [if_pos (by rfl)]
        go_simp
        refine hKr.out _ _ ⟨XQua.out, XBua.out⟩ (fun _ => ?_)
        refine wpAnyH_done (by kernel_rfl) ?_ _
        clear hKr hrun hma hga hHeld HF
        go_upto_region 23 with fail
        obtain ⟨Zb, hZb⟩ : ∃ W, ua.drew = W := ⟨_, rfl⟩
        have hbzb : Below ua.heap.size ua Zb := by rw [← hZb]; exact Below.drew (Below.refl _ _)
        have XQb := Lib.hid (XQua.out.below hbzb XQua.out.lt); have XBb := Lib.hid (XBua.out.below hbzb XBua.out.lt); have Mb := Lib.hid (Mua.out.below hbzb Mua.out.lt); have BZb := Lib.hid hbzb; have HZb := Lib.hid hZb
        have HNb := Lib.hid (qnew_any c.self6 c.every c.robust now Zb (by have := selfB_len HOK.out.self6; omega) (by have := HEV.out; omega) HRB.out (by have := HNOW.out; omega))
        have HF := Lib.hid (fun (wq : World) (h : CBox wq q0 32 #[.int .u64 c.id, .slice ao an ac, .slice vo k vcap, .string (bstr c.self4), .string (bstr c.self6), .int .i64 c.every, .int .i64 c.robust, .int .i64 c.member, .int .i64 c.last, .int .i64 c.age, .int .i64 c.room, .bool c.flood, .bool c.fast] ∧ CBox wq bb 85 (bbcells c (.slice ao an ac) (.slice vo k vcap) (.pointer (some ⟨tp, 0, none⟩)) (.pointer (some ⟨fp, 0, none⟩)) (.pointer (some ⟨gp, 0, none⟩)) (.pointer (some ⟨rp, 0, none⟩)) (.pointer (some ⟨ap, 0, none⟩)) (.slice va vm vcp) qm)) => And.intro (h.1.at_ 4 _ rfl).1 (And.intro (h.1.at_ 5 _ rfl).1 (And.intro (h.1.at_ 6 _ rfl).1 (h.2.at_ 19 (.map (some qm)) rfl).1)))
        refine wp_region_held_drew (S := fun wq => CBox wq q0 32 #[.int .u64 c.id, .slice ao an ac, .slice vo k vcap, .string (bstr c.self4), .string (bstr c.self6), .int .i64 c.every, .int .i64 c.robust, .int .i64 c.member, .int .i64 c.last, .int .i64 c.age, .int .i64 c.room, .bool c.flood, .bool c.fast] ∧ CBox wq bb 85 (bbcells c (.slice ao an ac) (.slice vo k vcap) (.pointer (some ⟨tp, 0, none⟩)) (.pointer (some ⟨fp, 0, none⟩)) (.pointer (some ⟨gp, 0, none⟩)) (.pointer (some ⟨rp, 0, none⟩)) (.pointer (some ⟨ap, 0, none⟩)) (.slice va vm vcp) qm)) (by kernel_rfl) (by rw [HZb.out]; exact ⟨XQb.out, XBb.out⟩) (fun hHeld => ?_)
        rw [HZb.out] at hHeld ⊢
        clear hZb hbzb
        iterate 13 (first | (refine takeO 18 (v := ?_) rfl (by kernel_rfl) (fun _ _ _ => id) (Or.inl ⟨by rfl, ?_⟩) (by assumption) ?_; rotate_left; (focus (intro wq hSq; have f := HF.out wq hSq; go_simp <;> with_reducible rfl)); simp only [Act.put, List.setIfInBounds_toArray, List.set_cons_zero, List.set_cons_succ]) | (refine takeO 18 (v := undef) rfl (by kernel_rfl) (fun _ _ _ h => h) (Or.inr ⟨by rfl, rfl⟩) (by assumption) ?_; simp only [Act.put, List.setIfInBounds_toArray, List.set_cons_zero, List.set_cons_succ]))
        refine wpAnyH_ready (rs := [13]) (by kernel_rfl) (by simp) (nextL 13 rfl (fun Kr hKr => ?_) AllReadyH.nil)
        rw [if_pos (by rfl)]
        go_simp
        (with_reducible refine HNb.out.mono ?_)
        rintro e wb ⟨pb, rfl, hqb, hpb, hbb⟩
        have XQbb := Lib.hid (XQb.out.below hbb XQb.out.lt); have XBbb := Lib.hid (XBb.out.below hbb XBb.out.lt); have Mbb := Lib.hid (Mb.out.below hbb Mb.out.lt); have Bbb := Lib.hid hbb; have Qbb := Lib.hid (And.intro hqb hpb)
        refine hKr.out _ _ ⟨XQbb.out, XBbb.out⟩ (fun _ => ?_)
        have hHeld := And.intro XQbb.out XBbb.out
        clear hKr hqb hpb hbb
        iterate 3 (first | (refine takeO 18 (v := ?_) rfl (by kernel_rfl) (fun _ _ _ => id) (Or.inl ⟨by rfl, ?_⟩) (by assumption) ?_; rotate_left; (focus (intro wq hSq; have f := HF.out wq hSq; go_simp <;> with_reducible rfl)); simp only [Act.put, List.setIfInBounds_toArray, List.set_cons_zero, List.set_cons_succ]) | (refine takeO 18 (v := undef) rfl (by kernel_rfl) (fun _ _ _ h => h) (Or.inr ⟨by rfl, rfl⟩) (by assumption) ?_; simp only [Act.put, List.setIfInBounds_toArray, List.set_cons_zero, List.set_cons_succ]))
        obtain ⟨ub, hrun, hmb, hgb⟩ := Mbb.out.put Tryz.underlying79 (v, 16) (HOKV.out 16 (by decide)) (.pointer (some ⟨pb, 0, none⟩)) (by have := HCN.out; have := HR20.out; unfold maxLen; omega)
        replace hrun : (Instr.mapUpdate 79 (.map (some qm)) (.agg #[.int .i64 v, .int .i64 16]) (.pointer (some ⟨pb, 0, none⟩))).run Tryz.prog wb = .ok () ub := hrun
        have Tb := Lib.hid (fd_turn Mbb.out.map_is hgb.grown)
        have XQub := Lib.hid (Tb.out.cbox XQbb.out (by have := HM.out.num; omega)); have XBub := Lib.hid (Tb.out.cbox XBbb.out (by have := HM.out.num; omega)); have Mub := Lib.hid hmb
        refine wpAnyH_ready (rs := [17]) (by kernel_rfl) (by simp) (nextL 17 rfl (fun Kr hKr => ?_) AllReadyH.nil)
        rw [if_pos (by rfl)]
        go_simp
        refine hKr.out _ _ ⟨XQub.out, XBub.out⟩ (fun _ => ?_)
        refine wpAnyH_done (by kernel_rfl) ?_ _
        clear hKr hrun hmb hgb hHeld HF
        have FIN := Lib.hid (show VMap KQ ub qm (cnt + 1 + 1) (qfun (R.take (k2 + 1)) (qadd qb v pa pb)) ∧ QsAt ub V18.heap.size c now (R.take (k2 + 1)) (qadd qb v pa pb) ∧ QInj (R.take (k2 + 1)) (qadd qb v pa pb) ∧ Turn (fun j => j = qm) V18 ub from by
         have z0 := HTN.out.size; have z1 := BZa.out.size; have z2 := Bab.out.size; have z3 := Ta.out.size; have z4 := BZb.out.size
         have la := CBox.lt Qab.out.1
         have hpa := Qab.out.2; have hpb := Qbb.out.2
         have hq : qm < V18.heap.size := MP8.out.lt
         have t1 : Turn (fun j => j = qm) wr ua := Turn.ahead (BZa.out.trans (Bab.out.mono BZa.out.size)) Ta.out
         have t2 : Turn (fun j => j = qm) ua ub := Turn.ahead (BZb.out.trans (Bbb.out.mono BZb.out.size)) Tb.out
         have qa : QrAt ub pa (qOf c now (v, 4)) := (QrAt.turn (show QrAt wa pa (qOf c now (v, 4)) from Qab.out.1) Ta.out (by omega)).turn t2 (by omega)
         have qb' : QrAt ub pb (qOf c now (v, 16)) := QrAt.turn (show QrAt wb pb (qOf c now (v, 16)) from Qbb.out.1) Tb.out (by omega)
         rw [HTK.out]
         refine ⟨by rw [← qfun_add _ _ _ _ _]; exact Mub.out, ((HQS.out.turn t1 (fun j e => by omega)).turn t2 (fun j e => by omega)).add HNI.out qa qb' (by omega) (by omega), HINJ.out.add HNI.out (by omega) (fun x hx => by have := (HQS.out x hx).2.2; omega), (HTN.out.trans t1).trans t2⟩)
        go_wp2_with fail
        go_roundw
        case rel => exact ⟨k2 + 1, _, cnt + 1 + 1, by omega, by go_num, FIN.out.1, by have := HCN.out; omega, FIN.out.2.1, FIN.out.2.2.1, FIN.out.2.2.2⟩
        case measure => simp [intOf]; omega
      · obtain rfl : k2 = R.length := by omega
        rw [List.take_length] at HMAP HQS HINJ
        have FIN := Lib.hid (show ∃ A, A.b = bb ∧ BrAt wr A (newS c R now) ∧ ∀ j, A.kind j ≠ 0 → w.heap.size ≤ j from by
         have s18 := S18.out; have n13 := HM.out.num; have z0 := HTN.out.size
         refine ⟨⟨bb, tp, tg, tcap, fp, fm, gp, gb, go_, rp, rf, rh, ap, wp, tm, wm, qm, qb, .slice ao an ac, .slice vo k vcap, .slice va vm vcp, kindT n8 bb V13.heap.size V14.heap.size V15.heap.size V16.heap.size V17.heap.size V18.heap.size wr.heap.size qm⟩, rfl, ?_, fun j hj => ?_⟩
         · have n2 := NB2.out; have n3 := NB3.out; have n4 := NB4.out; have n5 := NB5.out; have n6 := NB6.out
           refine br_made (n8 := n8) (e8 := bb) (s1 := V13.heap.size) (s2 := V14.heap.size) (s3 := V15.heap.size) (s4 := V16.heap.size) (s5 := V17.heap.size) (s6 := V18.heap.size) (s7 := wr.heap.size) rfl (by omega) (by omega) s18.1 s18.2.1 s18.2.2.1 s18.2.2.2.1 s18.2.2.2.2 z0 (Nat.le_refl _) XBr.out
            (TR8.out.turn HTN.out (by omega) (by omega)) (FD8.out.turn HTN.out (by omega) (by omega)) (TB8.out.turn HTN.out (by omega) (by omega) (by omega)) (RT8.out.turn HTN.out (by omega) (by omega) (by omega)) (AS8.out.turn HTN.out (by omega) (by omega) (by omega) (by omega))
            (PT8.out.turn HTN.out (fun j hj e => by omega)) (VL8.out.turn HTN.out (fun j hj e => by have := HM.out.vlR j hj; omega)) HM.out.vlR ⟨_, HMAP.out⟩ HQS.out HINJ.out ⟨Nat.le_refl _, by show bb < V13.heap.size; omega⟩ n2 n3 n4 n5 n6 ⟨by show n8 ≤ qm; omega, by show qm < bb; omega⟩ (newS_ok HOK.out HID.out HM.out.rise HM.out.mem)
         · have := kindT_0 hj (by omega) s18.1 s18.2.1 s18.2.2.1 s18.2.2.2.1 s18.2.2.2.2 z0
           omega)
        have HBW := Lib.hid (show Below w.heap.size w wr from BW8.out.trans (HTN.out.below BW8.out.size (fun j e => by have := HM.out.num; omega)))
        go_wp2_with fail
        obtain ⟨A, hA, hbr, hk⟩ := FIN.out
        refine bodyPost_ret (v := .tuple #[.pointer (some ⟨bb, 0, none⟩), .int .i64 0]) (by simp [results, Tryz.results12, go_sem]) rfl ?_
        exact ⟨A, R, by rw [hA], hbr, HM.out.rise, HM.out.mem, hk, HBW.out⟩

def RetNo (w : World) (e : Ending) (w' : World) : Prop := e = .returned (.tuple #[.pointer none, .int .i64 3]) ∧ Below w.heap.size w w'
set_option maxHeartbeats 4000000 in
theorem bnew_not (R : Nat → Prop) (c : Cfg) (vc vp : Value) (now : Int) (w : World) (h : CfgIn w R c vc vp) (no : ∀ W, Below w.heap.size w W → Calls Tryz.prog 10 #[encC c vc vp] W (RetNm 3 W)) :
 Calls Tryz.prog 12 #[encC c vc vp, .int .i64 now] w (RetNo w) := by
 obtain ⟨W1, hW1⟩ : ∃ W, w.alloc (.cells (ccells c vc vp) 32) = W := ⟨_, rfl⟩
 obtain ⟨q0, hq0⟩ : ∃ q, w.heap.size = q := ⟨_, rfl⟩
 have hb1 : Below w.heap.size w W1 := by rw [← hW1]; exact (Below.refl _ _).alloc (Nat.le_refl _) _
 have hx1 : CBox W1 q0 32 (ccells c vc vp) := by rw [← hW1]; exact CBox.new _ hq0.symm
 have HCK := Lib.hid (no W1 hb1)
 obtain ⟨ao, an, ac, rfl⟩ := h.costs.shape
 obtain ⟨bo, bc, rfl⟩ := h.ports.shape
 obtain ⟨n, hnn⟩ : ∃ n, c.ports.length = n := ⟨_, rfl⟩
 have X1 := Lib.hid hx1; have B1 := Lib.hid hb1; have HW1 := Lib.hid hW1; have HQ0 := Lib.hid hq0
 unfold encC at HCK ⊢
 unfold ccells at HCK HW1 X1 ⊢
 rw [hnn] at HW1 X1 HCK ⊢
 clear h no hW1 hq0 hb1 hx1 hnn
 go_enter Tryz.func12, Tryz.ntmps12
 go_upto_region 1 with fail
 rw [HW1.out, HQ0.out]
 obtain ⟨c0, cf0⟩ := CBox.at_ X1.out 0 _ rfl
 obtain ⟨c1, cf1⟩ := CBox.at_ X1.out 1 _ rfl
 obtain ⟨c2, cf2⟩ := CBox.at_ X1.out 2 _ rfl
 obtain ⟨c3, cf3⟩ := CBox.at_ X1.out 3 _ rfl
 obtain ⟨c4, cf4⟩ := CBox.at_ X1.out 4 _ rfl
 obtain ⟨c5, cf5⟩ := CBox.at_ X1.out 5 _ rfl
 obtain ⟨c6, cf6⟩ := CBox.at_ X1.out 6 _ rfl
 obtain ⟨c7, cf7⟩ := CBox.at_ X1.out 7 _ rfl
 obtain ⟨c8, cf8⟩ := CBox.at_ X1.out 8 _ rfl
 obtain ⟨c9, cf9⟩ := CBox.at_ X1.out 9 _ rfl
 obtain ⟨c10, cf10⟩ := CBox.at_ X1.out 10 _ rfl
 obtain ⟨c11, cf11⟩ := CBox.at_ X1.out 11 _ rfl
 obtain ⟨c12, cf12⟩ := CBox.at_ X1.out 12 _ rfl
 go_wp2_with ((with_reducible refine HCK.out.mono ?_); rintro e w2 ⟨rfl, hb2⟩; have B2 := Lib.hid (B1.out.trans (hb2.mono B1.out.size)); clear hb2)
 refine bodyPost_ret (v := .tuple #[.pointer none, .int .i64 3]) (by simp [results, Tryz.results12, go_sem]) rfl ?_
 exact ⟨rfl, B2.out⟩
theorem bnew_no (R : Nat → Prop) (c : Cfg) (vc vp : Value) (now : Int) (w : World) (h : CfgIn w R c vc vp) (no : ¬ CfgOk c) :
 Calls Tryz.prog 12 #[encC c vc vp, .int .i64 now] w (RetNo w) := bnew_not R c vc vp now w h fun W hW => check_bad R c vc vp W (h.mono hW) no
set_option maxHeartbeats 4000000 in
theorem bnew_late (R : Nat → Prop) (c : Cfg) (vc vp : Value) (now : Int) (w : World) (h : CfgIn w R c vc vp) (ok : CfgOk c) (hn : inBetween now 1 1099511627776 = false) :
 Calls Tryz.prog 12 #[encC c vc vp, .int .i64 now] w (RetNo w) := by
 obtain ⟨W1, hW1⟩ : ∃ W, w.alloc (.cells (ccells c vc vp) 32) = W := ⟨_, rfl⟩
 obtain ⟨q0, hq0⟩ : ∃ q, w.heap.size = q := ⟨_, rfl⟩
 have hb1 : Below w.heap.size w W1 := by rw [← hW1]; exact (Below.refl _ _).alloc (Nat.le_refl _) _
 have hx1 : CBox W1 q0 32 (ccells c vc vp) := by rw [← hW1]; exact CBox.new _ hq0.symm
 have HCK := Lib.hid (check_good R c vc vp W1 (h.mono hb1) ok)
 have HWN := Lib.hid (fun W => bwithin_any now 1 1099511627776 W)
 rw [hn] at HWN
 obtain ⟨ao, an, ac, rfl⟩ := h.costs.shape
 obtain ⟨bo, bc, rfl⟩ := h.ports.shape
 obtain ⟨n, hnn⟩ : ∃ n, c.ports.length = n := ⟨_, rfl⟩
 have X1 := Lib.hid hx1; have B1 := Lib.hid hb1; have HW1 := Lib.hid hW1; have HQ0 := Lib.hid hq0
 unfold encC at HCK ⊢
 unfold ccells at HCK HW1 X1 ⊢
 rw [hnn] at HW1 X1 HCK ⊢
 clear h ok hW1 hq0 hb1 hx1 hnn hn
 go_enter Tryz.func12, Tryz.ntmps12
 go_upto_region 1 with fail
 rw [HW1.out, HQ0.out]
 obtain ⟨c0, cf0⟩ := CBox.at_ X1.out 0 _ rfl
 obtain ⟨c1, cf1⟩ := CBox.at_ X1.out 1 _ rfl
 obtain ⟨c2, cf2⟩ := CBox.at_ X1.out 2 _ rfl
 obtain ⟨c3, cf3⟩ := CBox.at_ X1.out 3 _ rfl
 obtain ⟨c4, cf4⟩ := CBox.at_ X1.out 4 _ rfl
 obtain ⟨c5, cf5⟩ := CBox.at_ X1.out 5 _ rfl
 obtain ⟨c6, cf6⟩ := CBox.at_ X1.out 6 _ rfl
 obtain ⟨c7, cf7⟩ := CBox.at_ X1.out 7 _ rfl
 obtain ⟨c8, cf8⟩ := CBox.at_ X1.out 8 _ rfl
 obtain ⟨c9, cf9⟩ := CBox.at_ X1.out 9 _ rfl
 obtain ⟨c10, cf10⟩ := CBox.at_ X1.out 10 _ rfl
 obtain ⟨c11, cf11⟩ := CBox.at_ X1.out 11 _ rfl
 obtain ⟨c12, cf12⟩ := CBox.at_ X1.out 12 _ rfl
 go_wp2_with (first | ((with_reducible refine HCK.out.mono ?_); rintro e w2 ⟨rfl, hb2⟩; have B2 := Lib.hid (B1.out.trans (hb2.mono B1.out.size)); clear hb2) | ((with_reducible refine (HWN.out _).mono ?_); rintro e w3 ⟨rfl, hw3⟩; subst w3))
 refine bodyPost_ret (v := .tuple #[.pointer none, .int .i64 3]) (by simp [results, Tryz.results12, go_sem]) rfl ?_
 exact ⟨rfl, B2.out⟩
end Go.Proofs.YthcdppppppgckaaGreatDoor

namespace Go.Proofs.YthcdppppppgckaaGreatDoor
open Go.RowKit Go.Lib
set_option maxRecDepth 20000
set_option maxRecDepth 20000

end Go.Proofs.YthcdppppppgckaaGreatDoor
