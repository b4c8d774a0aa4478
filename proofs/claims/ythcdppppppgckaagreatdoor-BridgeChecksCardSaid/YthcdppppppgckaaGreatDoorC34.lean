/- Texts joined into one file: Which, Fwd, BQry, BQry2. -/
import Derived.Test.YthcdppppppgckaaGreatDoorC33
import Derived.Test.YthcdppppppgckaaGreatDoorC30
import Derived.Sort.OwnSortedInts
import Derived.Test.YthcdppppppgckaaGreatDoorC11
import Derived.Test.YthcdppppppgckaaGreatDoorC27
import Derived.Test.YthcdppppppgckaaGreatDoorC04
import Derived.Test.YthcdppppppgckaaGreatDoorC05
import Derived.Test.YthcdppppppgckaaGreatDoorC29

namespace Go.Proofs.YthcdppppppgckaaGreatDoor
open Go.RowKit Go.Sort
set_option maxRecDepth 20000

theorem wpList_set_store (w : World) {ops : Array Oper} {rest : List Oper} {o : Oper} {a : Act} {Q : Exit → Act → World → Prop}
 (hg : o.guard = none) (m x v : Operand) (hop : o.op = Op.mapUpdate 231 m x v) (b n : Nat) (S : List Int)
 (hm : a.eval m = .map (some b)) (h : IntSet w b n S) (hn : n < maxLen) (y : Int) (hy : (Lit.int .i64 y).wf = true) (hx : a.eval x = .int .i64 y) (hv : a.eval v = .bool true)
 (hK : ∀ w', IntSet w' b (n + 1) (S ++ [y]) → w.grownBy w' (some b) → wpList Tryz.prog ops Q rest (a.put o.dst undef) w') :
 wpList Tryz.prog ops Q (o :: rest) a w := by
 obtain ⟨D, hown, hS⟩ := h
 refine wpList_mapUpdate_own w hg m x v 231 hop 3 4 lawI Tryz.underlying231 _ b n D hm hown hn _ _ (.int .i64 y) hx hv
  (Maps.keyOf_int_mk Tryz.underlying3 hy) (.lit (.bool true)) [] (plainElem_bool Tryz.underlying4 true) ?_
 intro w' h1 h2
 refine hK w' ⟨_, h1, fun z hz => ?_⟩ h2
 by_cases e : z = y
 · subst e
   rw [Maps.atKey_put_same hown.isMap (by simp [WideAt.IsKeyLit])]
   simp
 · rw [Maps.atKey_put_other (by intro h; injection h with _ h; exact e h), hS z hz]
   simp [e]

def RetInts (w : World) (L : List Int) (e : Ending) (w' : World) : Prop := ∃ v, e = .returned v ∧ Ints w' v L ∧ Below w.heap.size w w'

theorem info3 : (Tryz.prog.info? 3).map (fun i => (i.zero, i.size, i.bytes)) = some (some (.int .i64 0), 1, 8) := by kernel_rfl

set_option maxHeartbeats 1000000 in
theorem fwhich_any (v : Value) (L : List Int) (f pc : Nat) (p : Int → Bool) (w : World) (h : Ints w v L) (hcf : ∀ args w', (callFunc f args).run Tryz.prog w' = .ok (.enter f args) w')
 (hf : ∀ x w', Below w.heap.size w w' → Calls Tryz.prog f #[.int .i64 x, .pointer (some ⟨pc, 0, none⟩)] w' fun e w'' => e = .returned (.bool (p x)) ∧ w' = w'') :
 Calls Tryz.prog 186 #[v, .func (.func f) #[] #[.pointer (some ⟨pc, 0, none⟩)]] w (RetInts w (canon p L)) := by
 obtain ⟨b, off, hm, hlen, hidx, hc⟩ := h.facts
 have hwf := h.wf
 clear h
 obtain ⟨i0, hi, hz0, hz1, hz2⟩ := info_parts info3
 have hmm := @run_makeMap Tryz.prog
 have HF := Lib.hid hf; clear hf
 go_enter Tryz.func186, Tryz.ntmps186
 go_wp2
 go_loopw [6, 12] (fun o i wr => ∃ k : Nat, k ≤ L.length ∧ i = .int .i64 k ∧ wr.ownsRow (w.heap.size + 1) 3 1 o (gather p (L.take k)).length ((gather p (L.take k)).map (Value.int .i64)) ∧
  IntSet wr w.heap.size k (gather p (L.take k)) ∧ Below w.heap.size w wr ∧ w.heap.size + 1 ≤ wr.heap.size) (fun _ i _ => L.length - (intOf i).toNat)
 case atStart => exact ⟨0, Nat.zero_le _, rfl, World.ownsRow_nil _ _ _ _, IntSet.made w, (Below.refl _ _).alloc (Nat.le_refl _) _, by simp⟩
 case round =>
  obtain ⟨k, hk, rfl, hown, hset, hbel, hsz⟩ := hrel
  by_cases hlt : k < L.length
  · have hp := hidx k hlt
    have hcell := (hbel.cell (p := ⟨b, off + k, none⟩) (hc k hlt).1).trans (hc k hlt).2
    have hwk : (Lit.int .i64 (L.getD k 0)).wf = true := hwf _ (by simp [List.getD_eq_getElem?_getD, hlt])
    obtain ⟨x, hx⟩ : ∃ x, x = L.getD k 0 := ⟨_, rfl⟩
    rw [← hx] at hcell hwk
    have hxk : L[k] = x := by rw [hx]; simp [List.getD_eq_getElem?_getD, hlt]
    have HT : Hid (L.take (k + 1) = L.take k ++ [x]) := by rw [take_snoc L k hlt, hxk]; rfl
    have HG := Lib.hid (gather_snoc p (L.take k) x)
    have hgl := gather_length p (L.take k)
    have hlk := hset.look hwk
    have hkm : k < maxLen := by unfold maxLen; omega
    clear hidx hc hx hxk hwf
    by_cases hct : (gather p (L.take k)).contains x = true
    · rw [hct] at hlk
      have HS : Hid (gather p (L.take (k + 1)) = gather p (L.take k)) := by rw [HT.out, HG.out, hct]; rfl
      go_wp2
      go_roundw
      case rel => exact ⟨k + 1, by omega, by go_num, by rw [HS.out]; exact hown, by rw [HS.out]; exact hset.mono (Nat.le_succ _), hbel, hsz⟩
      case measure => simp [intOf]; omega
    · have hcf : (gather p (L.take k)).contains x = false := by simpa using hct
      rw [hcf] at hlk
      clear hct
      by_cases hpx : p x = true
      · have HS : Hid (gather p (L.take (k + 1)) = gather p (L.take k) ++ [x]) := by rw [HT.out, HG.out, hcf, hpx]; rfl
        clear hcf
        have hc3 : (gather p (L.take k)).length + 1 ≤ maxLen := by rw [List.length_take] at hgl; unfold maxLen; omega
        have hc4 : ((gather p (L.take k)).length + 1) * 8 ≤ 140737488355328 := by rw [List.length_take] at hgl; omega
        clear hgl
        go_wp2_with (first | (at_mapUpdate; refine wpList_set_store _ rfl _ _ _ rfl w.heap.size k (gather p (L.take k)) rfl hset hkm x hwk rfl rfl ?_; intro w1 hset1 hg1; have hown1 := hown.kept hg1 (own_ne hown (Nat.lt_succ_self _)); have hsz1 := Nat.le_trans hsz hg1.size) | ((with_reducible refine (HF.out x _ hbel).mono ?_); rintro e w' ⟨rfl, rfl⟩) | (at_builtin; refine wpList_append_own _ rfl _ _ 23 rfl (w.heap.size + 1) 3 i0 (.int .i64 0) 1 8 Tryz.underlying23 hi hz0 hz1 hz2 rfl (by decide) _ _ _ rfl (hown1.alloc _) ⟨w1.heap.size, 0, none⟩ 1 1 [.int .i64 x] rfl rfl (cell_one_new _ _ _) (ints_oneCell .i64 [x]) hc3 hc4 (by simp; omega) ?_; intro v' w2 hown2 hg2 _))
        go_roundw
        case rel =>
         have hg2' : (w1.alloc (.cells #[.int .i64 x] 3)).grownBy w2 u6.ownBlock := hg2
         have hga := World.grownBy_alloc w1 (.cells #[.int .i64 x] 3) none
         have hne : some w.heap.size ≠ u6.ownBlock := fun e => by have := hown1.lt _ e.symm; omega
         have hb1 := hbel.grown hg1 hbel.size (fun j hj => by cases hj; exact Nat.le_refl _)
         have hs1 : w.heap.size ≤ w1.heap.size := hb1.size
         refine ⟨k + 1, by omega, by go_num, ?_, ?_, ?_, ?_⟩
         · rw [HS.out, List.length_append, List.map_append]; exact hown2
         · rw [HS.out]; exact (hset1.kept hga (by simp)).kept hg2' hne
         · exact below_own (hb1.alloc hs1 _) (hown1.alloc _) (Nat.le_succ _) (by simp; omega) hg2'
         · have := hg2'.size; simp at this; omega
        case measure => simp [intOf]; omega
      · have hpf : p x = false := by simpa using hpx
        have HS : Hid (gather p (L.take (k + 1)) = gather p (L.take k)) := by rw [HT.out, HG.out, hcf, hpf]; rfl
        clear hpx hcf
        go_wp2_with ((with_reducible refine (HF.out x _ hbel).mono ?_); rintro e w' ⟨rfl, rfl⟩)
        go_roundw
        case rel => exact ⟨k + 1, by omega, by go_num, by rw [HS.out]; exact hown, by rw [HS.out]; exact hset.mono (Nat.le_succ _), hbel, hsz⟩
        case measure => simp [intOf]; omega
  · have HL : Hid (L.take k = L) := List.take_of_length_le (by omega)
    rw [HL.out] at hown
    have hgl := gather_length p L
    clear hidx hc hset
    have hwg : ∀ x ∈ canon p L, (Lit.int .i64 x).wf = true := fun x hx => hwf x ((canon_mem p L x).1 hx).1
    have hcl : (canon p L).length ≤ 17592186044416 := Nat.le_trans (canon_length p L) hm
    have HWG := Lib.hid hwg
    clear hwg hwf
    rcases hown.2 with ⟨rfl, h0⟩ | ⟨g, cap, cur, rfl, hbase, hb, h1, h2, h3, h4⟩
    · have HE := Lib.hid (show canon p L = [] from by rw [canon, List.length_eq_zero_iff.1 h0]; simp)
      clear hown h0
      go_wp2_with (go_at_call 81; refine (Tryz.slices_Sort_int_none _ _ _).mono ?_; rintro e w' ⟨rfl, rfl⟩)
      go_ret
      exact ⟨_, rfl, by rw [HE.out]; exact Ints.nil _, hbel⟩
    · have hH := holds_of_blockI (ss := gather p L) hb (by simpa using h4)
      have hgl2 := (Array.getElem?_eq_some_iff.1 hb).1
      have HO := Lib.hid hown
      have HB := Lib.hid hb
      have H4 := Lib.hid h4
      have H3 := Lib.hid h3
      clear hown hb h4 h3
      go_wp2_with (go_at_call 81; refine (Tryz.slices_Sort_int g 0 cap (gather p L) _ hH hgl2 (by omega)).mono ?_; rintro e w' ⟨rfl, nn, os, rfl⟩)
      go_ret
      refine ⟨_, rfl, ?_, hbel.grown (grownBy_sortedI _) hbel.size (fun j hj => by cases hj; omega)⟩
      have hl : (canon p L).length = (gather p L).length := by simp [canon]
      have := ownsRow_sortedI (n := nn) (os := os) hl hbase HB.out h1 h2 H3.out
      rw [← hl] at this ⊢
      exact Ints.own this hcl HWG.out

def pFlood (port : Int) (M : List Int) (x : Int) : Bool := x != port && M.contains x

set_option maxHeartbeats 400000 in
theorem flood1_any (b : Nat) (port : Int) (vm : Value) (M : List Int) (x : Int) (w : World) (h0 : w.cell? ⟨b, 0, none⟩ = some (.int .i64 port)) (h1 : w.cell? ⟨b, 1, none⟩ = some vm) (hM : Ints w vm M) :
 Calls Tryz.prog 187 #[.int .i64 x, .pointer (some ⟨b, 0, none⟩)] w fun e w' => e = .returned (.bool (pFlood port M x)) ∧ w = w' := by
 by_cases hx : (x != port) = true
 · have HP := Lib.hid (show pFlood port M x = M.contains x by simp only [pFlood, hx, Bool.true_and])
   go_enter Tryz.func187, Tryz.ntmps187
   go_wp2_with ((with_reducible refine (contains_any _ M x _ hM).mono ?_); rintro e w' ⟨rfl, rfl⟩)
   go_ret
   exact ⟨ret_bool (by rw [HP.out]; simp), rfl⟩
 · have hx' : (x != port) = false := by simpa using hx
   have HP := Lib.hid (show pFlood port M x = false by simp only [pFlood, hx', Bool.false_and])
   clear hx
   go_enter Tryz.func187, Tryz.ntmps187
   go_wp2
   go_ret
   exact ⟨ret_bool (by rw [HP.out]), rfl⟩

theorem callFunc20 (args : Array Value) (w : World) : (callFunc 187 args).run Tryz.prog w = .ok (.enter 187 args) w := by kernel_rfl
structure CaseIn (w : World) (vm vo vr vw : Value) (M O R W : List Int) : Prop where
 m : Ints w vm M
 o : Ints w vo O
 r : Ints w vr R
 w : Ints w vw W

theorem CaseIn.mono {w w' : World} {vm vo vr vw : Value} {M O R W : List Int} (h : CaseIn w vm vo vr vw M O R W) (hb : Below w.heap.size w w') : CaseIn w' vm vo vr vw M O R W :=
 ⟨h.m.mono hb, h.o.mono hb, h.r.mono hb, h.w.mono hb⟩

def lFlood (port : Int) (M O : List Int) : List Int := canon (pFlood port M) O

set_option maxHeartbeats 400000 in
theorem flood_any (port : Int) (vm vo vr vw : Value) (lo ov re kn fl : Bool) (M O R W : List Int) (w : World) (h : CaseIn w vm vo vr vw M O R W) :
 Calls Tryz.prog 122 #[.agg #[.int .i64 port, vm, vo, vr, vw, .bool lo, .bool ov, .bool re, .bool kn, .bool fl]] w (RetInts w (lFlood port M O)) := by
 have hb : Below w.heap.size w (w.alloc (.cells #[.int .i64 port, vm, vo, vr, vw, .bool lo, .bool ov, .bool re, .bool kn, .bool fl] 219)) := (Below.refl _ _).alloc (Nat.le_refl _) _
 have hin := h.mono hb
 have hc := fwhich_any vo O 187 w.heap.size (pFlood port M) _ hin.o callFunc20 (fun x w' hb' => flood1_any _ port vm M x w' (box_cell hb' 0 _ rfl) (box_cell hb' 1 _ rfl) (hin.m.mono hb'))
 have H := Lib.hid hc
 clear h hb hin hc
 go_enter Tryz.func122, Tryz.ntmps122
 go_wp2_with fail
 refine H.out.mono ?_
 rintro e w' ⟨v, rfl, hi, hb⟩
 have HI := Lib.hid hi
 have HB := Lib.hid (box_below hb)
 clear hi hb
 go_wp2
 go_ret
 exact ⟨v, rfl, HI.out, HB.out⟩

end Go.Proofs.YthcdppppppgckaaGreatDoor

namespace Go.Proofs.YthcdppppppgckaaGreatDoor
open Go.RowKit Go.Lib Go.Sort
set_option maxRecDepth 20000
set_option maxRecDepth 20000
attribute [local go_sem] bstr_size bstr_toList

structure Qr where
 self : Str
 every : Int
 robust : Int
 until_ : Int
 next : Int
 asked : Int
deriving DecidableEq
def qcells (q : Qr) : Array Value := #[.string (bstr q.self), .int .i64 q.every, .int .i64 q.robust, .int .i64 q.until_, .int .i64 q.next, .int .i64 q.asked]
def QrAt (w : World) (p : Nat) (q : Qr) : Prop := CBox w p 167 (qcells q)
def Qr.is (q : Qr) (now : Int) : Bool := !q.self.isEmpty && decide (q.until_ ≤ now)
def Qr.tick (q : Qr) (now : Int) : Qr × Bool :=
 if q.is now = false then ({ q with next := q.until_, asked := 0 }, false)
 else if now < q.next then (q, false)
 else ({ q with asked := IntKind.i64.wrap (q.asked + 1), next := now + (if IntKind.i64.wrap (q.asked + 1) < q.robust then q.every / 4 else q.every) }, true)
structure QrOk (q : Qr) : Prop where
 every : 4 ≤ q.every ∧ q.every ≤ 100000
 robust : 1 ≤ q.robust ∧ q.robust ≤ 7
 until_ : 0 ≤ q.until_ ∧ q.until_ ≤ 1099512627776
theorem qrok_tick {q : Qr} {now : Int} (h : QrOk q) : QrOk (q.tick now).1 := by
 unfold Qr.tick
 split
 · exact ⟨h.every, h.robust, h.until_⟩
 · split
   · exact h
   · exact ⟨h.every, h.robust, h.until_⟩

theorem qwithin_any (n a b : Int) (w : World) :
 Calls Tryz.prog 85 #[.int .i64 n, .int .i64 a, .int .i64 b] w fun e w' => e = .returned (.bool (inBetween n a b)) ∧ w = w' := by
 unfold inBetween
 cases q1 : decide (a ≤ n)
 · go_enter Tryz.func85, Tryz.ntmps85
   go_wp2
   go_ret
   exact ⟨rfl, rfl⟩
 · cases q2 : decide (n ≤ b)
   · go_enter Tryz.func85, Tryz.ntmps85
     go_wp2
     go_ret
     exact ⟨rfl, rfl⟩
   · go_enter Tryz.func85, Tryz.ntmps85
     go_wp2
     go_ret
     exact ⟨rfl, rfl⟩

theorem qis_any (p : Nat) (q : Qr) (now : Int) (w : World) (h : QrAt w p q) :
 Calls Tryz.prog 78 #[.pointer (some ⟨p, 0, none⟩), .int .i64 now] w fun e w' => e = .returned (.bool (q.is now)) ∧ w = w' := by
 obtain ⟨self, ev, rb, un, nx, ak⟩ := q
 unfold QrAt qcells at h
 unfold Qr.is
 dsimp only at h ⊢
 cases self with
 | nil =>
   rw [bstr_nil] at h
   obtain ⟨c0, _⟩ := h.at_ 0 _ rfl
   clear h
   go_enter Tryz.func78, Tryz.ntmps78
   go_wp2
   go_ret
   exact ⟨rfl, rfl⟩
 | cons c r =>
   obtain ⟨c0, _⟩ := h.at_ 0 _ rfl
   obtain ⟨c3, _⟩ := h.at_ 3 _ rfl
   have hs : (c :: r).isEmpty = false := rfl
   have hs2 : (!(c :: r).isEmpty) = true := rfl
   rw [hs2, Bool.true_and]
   clear h
   cases d : decide (un ≤ now)
   · go_enter Tryz.func78, Tryz.ntmps78
     go_wp2
     go_ret
     exact ⟨rfl, rfl⟩
   · go_enter Tryz.func78, Tryz.ntmps78
     go_wp2
     go_ret
     exact ⟨rfl, rfl⟩

def RetQt (w : World) (p : Nat) (r : Qr × Bool) (e : Ending) (w' : World) : Prop := e = .returned (.bool r.2) ∧ QrAt w' p r.1 ∧ Turn (fun k => k = p) w w'
theorem qcells_nos {q : Qr} {j : Nat} (hj : 3 ≤ j) (s : ByteArray) : (qcells q)[j]? ≠ some (Value.string s) := by
 match j, hj with
 | 3, _ | 4, _ | 5, _ => simp [qcells]
 | n + 6, _ => simp [qcells]
theorem QrAt.put {w : World} {p i : Nat} {q q' : Qr} (h : QrAt w p q) (hi : 3 ≤ i) (x : Value) (hc : qcells q' = (qcells q).setIfInBounds i x) : QrAt (w.setCell ⟨p, i, none⟩ x) p q' ∧ Turn (fun k => k = p) w (w.setCell ⟨p, i, none⟩ x) := by
 refine ⟨by unfold QrAt; rw [hc]; exact CBox.set h i x, ?_⟩
 refine Turn.set (F := fun k => k = p) (show w.heap[p]? = some _ from h) rfl (fun s => qcells_nos hi s) (fun o s n ho hs => ?_) x
 rcases Nat.lt_or_ge o 3 with h3 | h3
 · exfalso
   obtain rfl : o = 2 := by omega
   simp [qcells] at hs
 · exact absurd hs (qcells_nos h3 s)

set_option maxHeartbeats 4000000 in
theorem qtick_any (p : Nat) (q : Qr) (now : Int) (w : World) (h : QrAt w p q) (ok : QrOk q) (hn : 0 ≤ now ∧ now ≤ 1099511627776) :
 Calls Tryz.prog 75 #[.pointer (some ⟨p, 0, none⟩), .int .i64 now] w (RetQt w p (q.tick now)) := by
 have hwi := qwithin_any now 0 1099511627776 w
 rw [show inBetween now 0 1099511627776 = true from by unfold inBetween; rw [decide_eq_true hn.1, decide_eq_true hn.2]; rfl] at hwi
 have HWI := Lib.hid hwi
 have his := qis_any p q now w h
 have H := Lib.hid h
 obtain ⟨r, hr⟩ : ∃ r, q.tick now = r := ⟨_, rfl⟩
 have HR := Lib.hid (show r = if q.is now = false then ({ q with next := q.until_, asked := 0 }, false) else if now < q.next then (q, false) else ({ q with asked := IntKind.i64.wrap (q.asked + 1), next := now + (if IntKind.i64.wrap (q.asked + 1) < q.robust then q.every / 4 else q.every) }, true) from hr.symm)
 rw [hr]
 have HOK := Lib.hid ok
 clear hr hwi ok
 obtain ⟨b, hb⟩ : ∃ b, q.is now = b := ⟨_, rfl⟩
 rw [hb] at his HR
 have HIS := Lib.hid his
 obtain ⟨self, ev, rb, un, nx, ak⟩ := q
 dsimp only at HR
 have hbx : CBox w p 167 #[.string (bstr self), .int .i64 ev, .int .i64 rb, .int .i64 un, .int .i64 nx, .int .i64 ak] := h
 obtain ⟨c0, cf0⟩ := CBox.at_ hbx 0 _ rfl
 obtain ⟨c1, cf1⟩ := CBox.at_ hbx 1 _ rfl
 obtain ⟨c2, cf2⟩ := CBox.at_ hbx 2 _ rfl
 obtain ⟨c3, cf3⟩ := CBox.at_ hbx 3 _ rfl
 obtain ⟨c4, cf4⟩ := CBox.at_ hbx 4 _ rfl
 obtain ⟨c5, cf5⟩ := CBox.at_ hbx 5 _ rfl
 clear his hb h hbx
 cases b
 · have HR0 := Lib.hid (show r = (⟨self, ev, rb, un, un, 0⟩, false) from by rw [HR.out, if_pos rfl])
   obtain ⟨a1, a2⟩ := H.out.put (i := 4) (by decide) (.int .i64 un) (q' := ⟨self, ev, rb, un, un, ak⟩) rfl
   obtain ⟨b1, b2⟩ := a1.put (i := 5) (by decide) (.int .i64 0) (q' := ⟨self, ev, rb, un, un, 0⟩) rfl
   have HF := Lib.hid (And.intro b1 (a2.trans b2))
   clear a1 a2 b1 b2
   go_enter Tryz.func75, Tryz.ntmps75
   go_wp2_with (first | ((with_reducible refine HWI.out.mono ?_); rintro e w2 ⟨rfl, hw2⟩; subst w2) | ((with_reducible refine HIS.out.mono ?_); rintro e w2 ⟨rfl, hw2⟩; subst w2))
   go_ret
   exact ⟨by rw [HR0.out]; rfl, by rw [HR0.out]; exact HF.out.1, HF.out.2⟩
 · cases d : decide (now < nx)
   · have hd := of_decide_eq_false d
     obtain ⟨a', ha'⟩ : ∃ a, IntKind.i64.wrap (ak + 1) = a := ⟨_, rfl⟩
     have HRR := Lib.hid (show r = (⟨self, ev, rb, un, now + (if a' < rb then ev / 4 else ev), a'⟩, true) from by rw [HR.out, if_neg (by decide), if_neg hd, ha'])
     obtain ⟨a1, a2⟩ := H.out.put (i := 5) (by decide) (.int .i64 a') (q' := ⟨self, ev, rb, un, nx, a'⟩) rfl
     obtain ⟨W1, hW1⟩ : ∃ W, w.setCell ⟨p, 5, none⟩ (.int .i64 a') = W := ⟨_, rfl⟩
     rw [hW1] at a1 a2
     obtain ⟨Z, hZ⟩ : ∃ W, W1.drew = W := ⟨_, rfl⟩
     have hbz : Below W1.heap.size W1 Z := by rw [← hZ]; exact Below.drew (Below.refl _ _)
     have HA1 := Lib.hid (show QrAt Z p ⟨self, ev, rb, un, nx, a'⟩ from CBox.below a1 hbz (CBox.lt a1)); have HA2 := Lib.hid (a2.after hbz); have HZ := Lib.hid hZ; have HW1 := Lib.hid hW1; have HAA := Lib.hid (show wrap64 (ak + 1) = a' from (IntWalk.i64_left _).symm.trans ha')
     clear hd a1 a2 hbz hZ hW1 ha' HR
     have hx1 : CBox Z p 167 #[.string (bstr self), .int .i64 ev, .int .i64 rb, .int .i64 un, .int .i64 nx, .int .i64 a'] := HA1.out
     have HX1 := Lib.hid hx1
     have HE := Lib.hid HOK.out.every
     dsimp only at HE
     go_enter Tryz.func75, Tryz.ntmps75
     go_upto_region 9 with (first | ((with_reducible refine HWI.out.mono ?_); rintro e w2 ⟨rfl, hw2⟩; subst w2) | ((with_reducible refine HIS.out.mono ?_); rintro e w2 ⟨rfl, hw2⟩; subst w2))
     rw [HAA.out, HW1.out]
     have d1 : W1.cell? ⟨p, 1, none⟩ = some (.int .i64 ev) := by rw [← HW1.out]; exact ((H.out.put (i := 5) (by decide) (.int .i64 a') (q' := ⟨self, ev, rb, un, nx, a'⟩) rfl).1.at_ 1 _ rfl).1
     clear c0 cf0 c1 cf1 c2 cf2 c3 cf3 c4 cf4 c5 cf5
     go_upto_region 10 with fail
     have HF := Lib.hid (fun (wq : World) (h : CBox wq p 167 #[.string (bstr self), .int .i64 ev, .int .i64 rb, .int .i64 un, .int .i64 nx, .int .i64 a']) => And.intro (h.at_ 5 _ rfl).1 (h.at_ 2 _ rfl).1)
     refine wp_region_held_drew (S := fun wq => CBox wq p 167 #[.string (bstr self), .int .i64 ev, .int .i64 rb, .int .i64 un, .int .i64 nx, .int .i64 a']) (by kernel_rfl) (by rw [HZ.out]; exact HX1.out) (fun hHeld => ?_)
     rw [HZ.out] at hHeld ⊢
     clear d1
     iterate 9 (first | (refine takeO 9 (v := ?_) rfl (by kernel_rfl) (fun _ _ _ h => h) (Or.inl ⟨by rfl, ?_⟩) (by assumption) ?_; rotate_left; (focus (intro wq hSq; have f := HF.out wq hSq; go_simp <;> with_reducible rfl)); simp only [Act.put, List.setIfInBounds_toArray, List.set_cons_zero, List.set_cons_succ]) | (refine takeO 9 (v := undef) rfl (by kernel_rfl) (fun _ _ _ h => h) (Or.inr ⟨by rfl, rfl⟩) (by assumption) ?_; simp only [Act.put, List.setIfInBounds_toArray, List.set_cons_zero, List.set_cons_succ]))
     refine wpAnyH_done (by kernel_rfl) ?_ _
     clear hHeld HF
     cases dl : decide (a' < rb)
     · have HN := Lib.hid (show (now + if a' < rb then ev / 4 else ev) = now + ev from by rw [if_neg (of_decide_eq_false dl)])
       rw [HN.out] at HRR
       obtain ⟨g4, gf4⟩ := hx1.at_ 4 _ rfl
       obtain ⟨a1, a2⟩ := HA1.out.put (i := 4) (by decide) (.int .i64 (now + ev)) (q' := ⟨self, ev, rb, un, now + ev, a'⟩) rfl
       have HFF := Lib.hid (And.intro a1 (HA2.out.trans a2))
       have he1 := HE.out.1; have he2 := HE.out.2; have hn1 := hn.1; have hn2 := hn.2
       clear a1 a2 hx1
       go_wp2_with fail
       go_ret
       exact ⟨by rw [HRR.out]; rfl, by rw [HRR.out]; exact HFF.out.1, HFF.out.2⟩
     · have HN := Lib.hid (show (now + if a' < rb then ev / 4 else ev) = now + ev / 4 from by rw [if_pos (of_decide_eq_true dl)])
       rw [HN.out] at HRR
       obtain ⟨g4, gf4⟩ := hx1.at_ 4 _ rfl
       obtain ⟨a1, a2⟩ := HA1.out.put (i := 4) (by decide) (.int .i64 (now + ev / 4)) (q' := ⟨self, ev, rb, un, now + ev / 4, a'⟩) rfl
       have HFF := Lib.hid (And.intro a1 (HA2.out.trans a2))
       have he1 := HE.out.1; have he2 := HE.out.2; have hn1 := hn.1; have hn2 := hn.2
       clear a1 a2 hx1
       go_wp2_with fail
       go_ret
       exact ⟨by rw [HRR.out]; rfl, by rw [HRR.out]; exact HFF.out.1, HFF.out.2⟩
   · have HR0 := Lib.hid (show r = (⟨self, ev, rb, un, nx, ak⟩, false) from by rw [HR.out, if_neg (by decide), if_pos (of_decide_eq_true d)])
     go_enter Tryz.func75, Tryz.ntmps75
     go_wp2_with (first | ((with_reducible refine HWI.out.mono ?_); rintro e w2 ⟨rfl, hw2⟩; subst w2) | ((with_reducible refine HIS.out.mono ?_); rintro e w2 ⟨rfl, hw2⟩; subst w2))
     go_ret
     exact ⟨by rw [HR0.out]; rfl, by rw [HR0.out]; exact H.out, Turn.refl _ _⟩
end Go.Proofs.YthcdppppppgckaaGreatDoor

namespace Go.Proofs.YthcdppppppgckaaGreatDoor
open Go.RowKit Go.Lib Go.Maps Go.Sort
set_option maxRecDepth 20000
set_option maxRecDepth 20000
attribute [local go_sem] bstr_size

def RetQNew (w : World) (q : Qr) (e : Ending) (w' : World) : Prop := ∃ p, e = .returned (.tuple #[.pointer (some ⟨p, 0, none⟩), .int .i64 0]) ∧ QrAt w' p q ∧ w.heap.size ≤ p ∧ Below w.heap.size w w'
set_option maxHeartbeats 2000000 in
theorem qnew_any (self : Str) (every robust now : Int) (w : World) (hs : self.length = 0 ∨ self.length = 4 ∨ self.length = 16) (he : 4 ≤ every ∧ every ≤ 100000) (hr : 1 ≤ robust ∧ robust ≤ 7) (hn : 0 ≤ now ∧ now ≤ 1099511627776) :
 Calls Tryz.prog 38 #[.string (bstr self), .int .i64 every, .int .i64 robust, .int .i64 now] w (RetQNew w ⟨self, every, robust, 0, now, 0⟩) := by
 have hb1 : Below w.heap.size w (w.alloc (.cells #[.int .i64 0, .int .i64 4, .int .i64 16] 3)) := (Below.refl _ _).alloc (Nat.le_refl _) _
 have hi : Ints (w.alloc (.cells #[.int .i64 0, .int .i64 4, .int .i64 16] 3)) (.slice (some ⟨w.heap.size, 0, none⟩) 3 3) [0, 4, 16] := by
  refine ⟨_, 3, w.heap.size, 0, rfl, .inr rfl, by decide, by decide, fun k hk => ⟨by simp, ?_⟩⟩
  have hx : CBox (w.alloc (.cells #[.int .i64 0, .int .i64 4, .int .i64 16] 3)) w.heap.size 3 #[.int .i64 0, .int .i64 4, .int .i64 16] := CBox.new _ rfl
  match k, hk with
  | 0, _ => exact (hx.at_ 0 _ rfl).1
  | 1, _ => exact (hx.at_ 1 _ rfl).1
  | 2, _ => exact (hx.at_ 2 _ rfl).1
 have hc := contains_any _ [0, 4, 16] (self.length : Int) _ hi
 rw [show List.contains [0, 4, 16] (self.length : Int) = true from by rcases hs with h | h | h <;> rw [h] <;> rfl] at hc
 have HC := Lib.hid hc
 have H1 := Lib.hid (fun W => qwithin_any every 4 100000 W)
 have H2 := Lib.hid (fun W => qwithin_any robust 1 7 W)
 have H3 := Lib.hid (fun W => qwithin_any now 0 1099511627776 W)
 rw [show inBetween every 4 100000 = true from by unfold inBetween; rw [decide_eq_true he.1, decide_eq_true he.2]; rfl] at H1
 rw [show inBetween robust 1 7 = true from by unfold inBetween; rw [decide_eq_true hr.1, decide_eq_true hr.2]; rfl] at H2
 rw [show inBetween now 0 1099511627776 = true from by unfold inBetween; rw [decide_eq_true hn.1, decide_eq_true hn.2]; rfl] at H3
 have HB := Lib.hid hb1
 clear hb1 hi hc hs he hr hn
 go_enter Tryz.func38, Tryz.ntmps38
 go_wp2_with (first | ((with_reducible refine HC.out.mono ?_); rintro e w2 ⟨rfl, hw2⟩; subst w2) | ((with_reducible refine (H1.out _).mono ?_); rintro e w2 ⟨rfl, hw2⟩; subst w2) | ((with_reducible refine (H2.out _).mono ?_); rintro e w2 ⟨rfl, hw2⟩; subst w2) | ((with_reducible refine (H3.out _).mono ?_); rintro e w2 ⟨rfl, hw2⟩; subst w2))
 go_ret2
 exact ⟨_, rfl, CBox.new _ (by simp), by simp, HB.out.alloc HB.out.size _⟩

structure AskQ (w : World) (p wp tm wm : Nat) (count gap : Int) : Prop where
 box : CBox w p 165 #[.int .i64 count, .int .i64 gap, .int .i64 0, .pointer (some ⟨wp, 0, none⟩), .map (some wm)]
 wheel : CBox w wp 256 #[.int .i64 200, .int .i64 0, .map (some tm)]
 timers : VMap KZ w tm 0 (fun _ => none)
 waits : VMap KZ w wm 0 (fun _ => none)
theorem AskQ.same {w w' : World} {p wp tm wm : Nat} {count gap : Int} (h : AskQ w p wp tm wm count gap) (h1 : w'.heap[p]? = w.heap[p]?) (h2 : w'.heap[wp]? = w.heap[wp]?) (h3 : w'.heap[tm]? = w.heap[tm]?) (h4 : w'.heap[wm]? = w.heap[wm]?) : AskQ w' p wp tm wm count gap :=
 ⟨h1.trans h.box, h2.trans h.wheel, h.timers.same h3, h.waits.same h4⟩
def RetWNew (w : World) (room : Int) (e : Ending) (w' : World) : Prop := ∃ p m, e = .returned (.tuple #[.pointer (some ⟨p, 0, none⟩), .int .i64 0]) ∧ CBox w' p 256 #[.int .i64 room, .int .i64 0, .map (some m)] ∧ VMap KZ w' m 0 (fun _ => none) ∧ w.heap.size ≤ p ∧ w.heap.size ≤ m ∧ Below w.heap.size w w'
theorem wnew_any (w : World) : Calls Tryz.prog 86 #[.int .i64 200] w (RetWNew w 200) := by
 have hmm := @run_makeMap Tryz.prog
 go_enter Tryz.func86, Tryz.ntmps86
 go_wp2_with fail
 go_ret2
 exact ⟨_, _, rfl, CBox.new _ (by simp), (VMap.made KZ w).below (B := (w.alloc (.map #[] 0)).heap.size) ((Below.refl _ _).alloc (Nat.le_refl _) _) (by simp), by simp, Nat.le_refl _, ((Below.refl _ _).alloc (Nat.le_refl _) _).alloc (by simp) _⟩
def RetANew (w : World) (count gap : Int) (e : Ending) (w' : World) : Prop := ∃ p wp tm wm, e = .returned (.tuple #[.pointer (some ⟨p, 0, none⟩), .int .i64 0]) ∧ AskQ w' p wp tm wm count gap ∧ (w.heap.size ≤ p ∧ w.heap.size ≤ wp ∧ w.heap.size ≤ tm ∧ w.heap.size ≤ wm) ∧ tm ≠ wm ∧ Below w.heap.size w w'
theorem anew_any (count gap : Int) (w : World) (hc : 1 ≤ count ∧ count ≤ 7) (hg : 1 ≤ gap ∧ gap ≤ 1000) :
 Calls Tryz.prog 37 #[.int .i64 count, .int .i64 gap] w (RetANew w count gap) := by
 have H1 := Lib.hid (fun W => qwithin_any count 1 7 W)
 have H2 := Lib.hid (fun W => qwithin_any gap 1 1000 W)
 rw [show inBetween count 1 7 = true from by unfold inBetween; rw [decide_eq_true hc.1, decide_eq_true hc.2]; rfl] at H1
 rw [show inBetween gap 1 1000 = true from by unfold inBetween; rw [decide_eq_true hg.1, decide_eq_true hg.2]; rfl] at H2
 have HW := Lib.hid (wnew_any w)
 have hmm := @run_makeMap Tryz.prog
 clear hc hg
 go_enter Tryz.func37, Tryz.ntmps37
 go_wp2_with (first | ((with_reducible refine (H1.out _).mono ?_); rintro e w2 ⟨rfl, hw2⟩; subst w2) | ((with_reducible refine (H2.out _).mono ?_); rintro e w2 ⟨rfl, hw2⟩; subst w2) | ((with_reducible refine HW.out.mono ?_); rintro e w2 ⟨wp, tm, rfl, hx, hm, hp1, hp2, hb⟩; have HX := Lib.hid hx; have HM := Lib.hid hm; have HP := Lib.hid (And.intro hp1 hp2); have HB := Lib.hid hb; clear hx hm hp1 hp2 hb))
 go_ret2
 have hb2 : Below w2.heap.size w2 ((w2.alloc (.map #[] 0)).alloc (.cells #[.int .i64 count, .int .i64 gap, .int .i64 0, .pointer (some ⟨wp, 0, none⟩), .map (some w2.heap.size)] 165)) := ((Below.refl _ _).alloc (Nat.le_refl _) _).alloc (by simp) _
 have hsz := HB.out.size
 exact ⟨_, wp, tm, w2.heap.size, rfl, ⟨CBox.new _ (by simp), HX.out.below hb2 HX.out.lt, HM.out.below hb2 HM.out.lt, (VMap.made KZ w2).below (B := (w2.alloc (.map #[] 0)).heap.size) ((Below.refl _ _).alloc (Nat.le_refl _) _) (by simp)⟩, ⟨Nat.le_trans hsz (Nat.le_succ _), HP.out.1, HP.out.2, hsz⟩, Nat.ne_of_lt HM.out.lt, HB.out.trans (hb2.mono hsz)⟩

theorem wlen_none (p tm : Nat) (v0 v1 : Value) (w : World) (hx : CBox w p 256 #[v0, v1, .map (some tm)]) (hm : VMap KZ w tm 0 (fun _ => none)) :
 Calls Tryz.prog 202 #[.pointer (some ⟨p, 0, none⟩)] w fun e w' => e = .returned (.int .i64 0) ∧ w = w' := by
 obtain ⟨L, _, hl, hlen⟩ := hm.count Tryz.underlying254
 rw [show L.length = 0 from by omega] at hlen
 obtain ⟨c2, _⟩ := hx.at_ 2 _ rfl
 replace hlen : ∀ ty, (Builtin.len_ #[254] ty #[.map (some tm)]).run Tryz.prog w = .ok (.int .i64 0) w := hlen
 clear hx hm hl
 go_enter Tryz.func202, Tryz.ntmps202
 go_wp2
 go_ret
 exact ⟨rfl, rfl⟩
theorem wnext_none (p tm : Nat) (v0 v1 : Value) (w : World) (hx : CBox w p 256 #[v0, v1, .map (some tm)]) (hm : VMap KZ w tm 0 (fun _ => none)) :
 Calls Tryz.prog 142 #[.pointer (some ⟨p, 0, none⟩)] w fun e w' => e = .returned (.tuple #[.int .i64 0, .bool false]) ∧ w = w' := by
 have HL := Lib.hid (wlen_none p tm v0 v1 w hx hm)
 clear hx hm
 go_enter Tryz.func142, Tryz.ntmps142
 go_wp2_with ((with_reducible refine HL.out.mono ?_); rintro e w2 ⟨rfl, hw2⟩; subst w2)
 go_ret2
 exact ⟨rfl, rfl⟩
theorem due_none (p wp tm wm : Nat) (count gap now : Int) (w : World) (h : AskQ w p wp tm wm count gap) :
 Calls Tryz.prog 77 #[.pointer (some ⟨p, 0, none⟩), .int .i64 now] w fun e w' => e = .returned (.slice none 0 0) ∧ w = w' := by
 have HN := Lib.hid (wnext_none wp tm _ _ w h.wheel h.timers)
 obtain ⟨c3, _⟩ := h.box.at_ 3 _ rfl
 clear h
 go_enter Tryz.func77, Tryz.ntmps77
 go_wp2_with fail
 refine wp_loop_rounds 1 ?_
 rw [rounds_succ]
 go_wp2_with ((with_reducible refine HN.out.mono ?_); rintro e w2 ⟨rfl, hw2⟩; subst w2)
 go_ret
 exact ⟨rfl, rfl⟩
end Go.Proofs.YthcdppppppgckaaGreatDoor
