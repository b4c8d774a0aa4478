/- Texts joined into one file: PSort, PTell, POf. -/
import Derived.Test.YtfloipdkhmgibaaS20
import Derived.Test.YtfloipdkhmgibaaPrxShelf
import Derived.RangeFuncNested

/- slices.SortFunc of a proxy's keys: by group. -/
namespace Go.Proofs.Ytfloipdkhmgibaa
open Go.RowKit Go.Lib Go.Maps Go.Sort Go.Shelf
set_option maxRecDepth 20000
set_option maxRecDepth 20000

def kcells (x : Int × Str) : List Value := [.int .i64 x.1, .string (bstr x.2)]

/-- v is a slice of keys that read as K -/
def Kys (w : World) (v : Value) (K : List (Int × Str)) : Prop :=
  ∃ ao cap b off, v = .slice ao K.length cap ∧ (K = [] ∨ ao = some ⟨b, off, none⟩) ∧
    (∀ k, k < K.length → b < w.heap.size ∧ w.cell? ⟨b, off + k * 2, none⟩ = some (.int .i64 (K.getD k default).1) ∧ w.cell? ⟨b, off + k * 2 + 1, none⟩ = some (.string (bstr (K.getD k default).2)))

theorem Kys.keep {w w' : World} {v : Value} {K : List (Int × Str)} (h : Kys w v K) (hk : CKeep w w') : Kys w' v K := by
  obtain ⟨ao, cap, b, off, rfl, h0, h1⟩ := h
  exact ⟨ao, cap, b, off, rfl, h0, fun k hlt => by obtain ⟨a, c0, c1⟩ := h1 k hlt; exact ⟨Nat.lt_of_lt_of_le a hk.1, hk.cell c0, hk.cell c1⟩⟩
theorem Kys.mono {w w' : World} {v : Value} {K : List (Int × Str)} (h : Kys w v K) (hb : Below w.heap.size w w') : Kys w' v K := h.keep (CKeep.of_below hb)
theorem Kys.nil (w : World) : Kys w (.slice none 0 0) [] := ⟨none, 0, 0, 0, rfl, .inl rfl, by simp⟩
theorem Kys.shape {w : World} {v : Value} {K : List (Int × Str)} (h : Kys w v K) : ∃ ao cap, v = .slice ao K.length cap := by
  obtain ⟨ao, cap, _, _, h, _⟩ := h
  exact ⟨ao, cap, h⟩
theorem Kys.facts {w : World} {v : Value} {K : List (Int × Str)} (h : Kys w v K) :
    ∃ b off, (∀ ty w', (Builtin.len_ #[86] ty #[v]).run Try.prog w' = .ok (.int .i64 K.length) w') ∧
      (∀ k, k < K.length → ∀ w', (Instr.indexAt 86 v (.int .i64 k)).run Try.prog w' = .ok (.pointer (some ⟨b, off + k * 2, none⟩)) w') ∧
      (∀ k, k < K.length → b < w.heap.size ∧ w.cell? ⟨b, off + k * 2, none⟩ = some (.int .i64 (K.getD k default).1) ∧ w.cell? ⟨b, off + k * 2 + 1, none⟩ = some (.string (bstr (K.getD k default).2))) := by
  obtain ⟨ao, cap, b, off, rfl, h0, h2⟩ := h
  refine ⟨b, off, fun ty w' => run_len_any Try.underlying86 ao K.length cap ty w', fun k hk w' => ?_, h2⟩
  rcases h0 with h0 | rfl
  · subst h0; exact absurd hk (by simp)
  · exact run_index_any (P := Try.prog) (s := 2) Try.underlying86 (fun w => by kernel_rfl) b off K.length cap k hk w'

def cmpS (x y : Str) : Int := if x < y then -1 else if y < x then 1 else 0
def cmpK (x y : Int × Str) : Int := cmpS x.2 y.2
theorem ltOf_cmpK (x y : Int × Str) : ltOf cmpK x y = decide (x.2 < y.2) := by
  unfold ltOf cmpK cmpS
  by_cases h1 : x.2 < y.2
  · simp [h1]
  · by_cases h2 : y.2 < x.2 <;> simp [h1, h2]
theorem swoK : SWO (ltOf cmpK) where
  irrefl x := by rw [ltOf_cmpK]; exact decide_eq_false (slt_irrefl _)
  trans x y z h1 h2 := by
    rw [ltOf_cmpK] at *
    exact decide_eq_true (slt_trans (of_decide_eq_true h1) (of_decide_eq_true h2))
  ntrans x y z h1 h2 := by
    rw [ltOf_cmpK] at *
    have a := of_decide_eq_false h1
    have b := of_decide_eq_false h2
    refine decide_eq_false fun h => ?_
    rcases slt_or x.2 y.2 with q | q | q
    · exact a q
    · rw [q] at h; exact b h
    · exact b (slt_trans q h)

theorem isnan_any (s : ByteArray) (w : World) : Calls Try.prog 94 #[.string s] w fun e w' => e = .returned (.bool false) ∧ w' = w := by
  go_enter Try.func94, Try.ntmps94
  go_wp2
  go_ret
  exact ⟨ret_bool (by simp), rfl⟩

theorem ccomp_any (x y : Str) (w : World) : Calls Try.prog 79 #[.string (bstr x), .string (bstr y)] w fun e w' => e = .returned (.int .i64 (cmpS x y)) ∧ w' = w := by
  have hbt := bstr_toList
  have HN := Lib.hid (fun s => isnan_any s w)
  by_cases h1 : x < y
  · have HC := Lib.hid (show cmpS x y = -1 from by unfold cmpS; rw [if_pos h1])
    have d1 : Op.bytesLess x y = true := by rw [Go.Proofs.bytesLess_eq]; exact decide_eq_true h1
    clear h1
    go_enter Try.func79, Try.ntmps79
    go_wp2_with ((with_reducible refine (HN.out _).mono ?_); rintro e w' ⟨rfl, rfl⟩)
    go_ret
    exact ⟨by rw [HC.out]; rfl, rfl⟩
  · have d1 : Op.bytesLess x y = false := by rw [Go.Proofs.bytesLess_eq]; exact decide_eq_false h1
    by_cases h2 : y < x
    · have HC := Lib.hid (show cmpS x y = 1 from by unfold cmpS; rw [if_neg h1, if_pos h2])
      have d2 : (x == y) = false := by rw [beq_eq_false_iff_ne]; intro e; rw [e] at h2; exact slt_irrefl _ h2
      clear h1 h2
      go_enter Try.func79, Try.ntmps79
      go_wp2_with ((with_reducible refine (HN.out _).mono ?_); rintro e w' ⟨rfl, rfl⟩)
      go_ret
      exact ⟨by rw [HC.out]; rfl, rfl⟩
    · have HC := Lib.hid (show cmpS x y = 0 from by unfold cmpS; rw [if_neg h1, if_neg h2])
      have d2 : (x == y) = true := by
        rw [beq_iff_eq]
        rcases slt_or x y with q | q | q
        · exact absurd q h1
        · exact q
        · exact absurd q h2
      clear h1 h2
      go_enter Try.func79, Try.ntmps79
      go_wp2_with ((with_reducible refine (HN.out _).mono ?_); rintro e w' ⟨rfl, rfl⟩)
      go_ret
      exact ⟨by rw [HC.out]; rfl, rfl⟩

theorem bygroup_any (x y : Int × Str) (W : World) : Calls Try.prog 65 #[.agg #[.int .i64 x.1, .string (bstr x.2)], .agg #[.int .i64 y.1, .string (bstr y.2)]] W fun e w' => e = .returned (.int .i64 (cmpK x y)) ∧ ∃ q os', w' = grow (W.drewN q) os' := by
  have HC := Lib.hid (fun W' => ccomp_any x.2 y.2 W')
  have HK := Lib.hid (show cmpK x y = cmpS x.2 y.2 from rfl)
  go_enter Try.func65, Try.ntmps65
  go_wp2_with ((with_reducible refine (HC.out _).mono ?_); rintro e w' ⟨rfl, rfl⟩)
  go_ret
  exact ⟨by rw [HK.out]; rfl, 0, _, by rw [alloc_eq_grow, alloc_eq_grow, grow_grow]; rfl⟩

theorem cmpLaysK (blk off size : Nat) (w : World) : CmpLays Try.prog 65 #[] kcells 2 cmpK blk off size w :=
  fun _ _ _ _ x y => bygroup_any x y _

theorem kflat_get (K : List (Int × Str)) (t : Nat) (ht : t < K.length * 2) : (K.flatMap kcells)[t]? = some ((kcells (K.getD (t / 2) default))[t % 2]!) := by
  induction K generalizing t with
  | nil => simp at ht
  | cons x K ih =>
    match t with
    | 0 => simp [kcells]
    | 1 => simp [kcells]
    | t + 2 =>
      have := ih t (by simp at ht; omega)
      simp only [List.flatMap_cons, kcells, List.cons_append, List.nil_append, List.getElem?_cons_succ] at this ⊢
      rw [this]
      simp [show (t + 2) / 2 = t / 2 + 1 from by omega]

theorem agg_key (w : World) : (isAgg 78).run Try.prog w = .ok true w := by kernel_rfl
theorem size_key (w : World) : (Go.sizeOf 78).run Try.prog w = .ok 2 w := by kernel_rfl
theorem enters_by (args : Array Value) (w : World) : (callFunc 65 args).run Try.prog w = .ok (.enter 65 args) w := enters_of Try.func65 (by kernel_rfl) rfl args w

theorem grownBy_sortedK {w : World} {g n : Nat} {os : Array Obj} (d : Array (Int × Str)) : w.grownBy (sortWorldK kcells 2 w g 0 n d os) (some g) := by
  unfold sortWorldK putRowK
  refine ⟨rfl, rfl, rfl, by simp, fun k hk hne => ?_⟩
  rw [heap_grow_old _ _ (by simpa using hk)]
  have : g ≠ k := fun e => hne (by rw [e])
  simp [putRow, mapBlock, Sort.ahead, Array.getElem?_modify, this]

set_option maxHeartbeats 1000000 in
theorem ksort_any {w : World} {base : Nat} {v : Value} {K : List (Int × Str)} (hrow : w.ownsRow base 78 2 v K.length (K.flatMap kcells)) (hl : K.length ≤ 1000000) (hN : (K.map (·.2)).Nodup) :
    Calls Try.prog 64 #[v, .func (.func 65) #[] #[]] w fun e w' => e = .returned (.tuple #[]) ∧ w.grownBy w' v.ownBlock ∧ ∃ K', K'.Perm K ∧ K'.Pairwise (fun x y => x.2 < y.2) ∧ Kys w' v K' := by
  rcases hrow.2 with ⟨rfl, h0⟩ | ⟨g, cap, cur, rfl, hbase, hb, h1, h2, h3, h4⟩
  · rw [List.length_eq_zero_iff] at h0
    subst h0
    refine (AnyF.slices_SortFunc_none Try.keySort none 0 _ w).mono ?_
    rintro e w' ⟨rfl, rfl⟩
    exact ⟨rfl, ⟨rfl, rfl, rfl, Nat.le_refl _, fun _ _ _ => rfl⟩, [], List.Perm.refl _, List.Pairwise.nil, Kys.nil _⟩
  · have hH : HoldsK kcells 2 w g 0 K.toArray := by
      intro j hj
      have hj' : j < K.length * 2 := by simpa using hj
      refine ⟨?_, by simp [World.frozen?, hb]⟩
      have h5 := kflat_get K j hj'
      rw [← h4, List.getElem?_take_of_lt hj'] at h5
      simp only [World.cell?, hb, Nat.zero_add]
      simp only [Option.isSome_none, Bool.false_eq_true, if_false]
      rw [← Array.getElem?_toList, h5, get_flatK _ _ _ _ (by simpa using hj')]
      simp [List.getD_eq_getElem?_getD, show j / 2 < K.length from by omega]
    have hgl : g < w.heap.size := (Array.getElem?_eq_some_iff.1 hb).1
    refine (AnyQ.slices_SortFunc Try.keySort 2 agg_key size_key kcells (fun _ => rfl) (fun x v hv => by simp [kcells] at hv; rcases hv with rfl | rfl <;> rfl) cmpK swoK 65 #[] g 0 cap K.toArray w enters_by (cmpLaysK _ _ _ _) hH hgl (by simp; omega)).mono ?_
    rintro e w' ⟨rfl, d', n, os, hp, hs, rfl⟩
    have hsz : d'.size = K.length := by simpa using hp.1
    have hperm : d'.toList.Perm K := by
      have := hp.2.2
      have e1 : (d'.extract 0 K.toArray.size) = d' := by rw [show K.toArray.size = d'.size from by simp [hsz]]; simp
      rw [e1] at this
      simpa using this
    have hHd : HoldsK kcells 2 (sortWorldK kcells 2 w g 0 n d' os) g 0 d' := holdsK_sortWorldK kcells 2 w g 0 n K.toArray d' os hgl hH (by simp [hsz])
    refine ⟨rfl, grownBy_sortedK d', d'.toList, hperm, ?_, ?_⟩
    · rw [List.pairwise_iff_getElem]
      intro i j hi hj hij
      have hij' := hs i j (Nat.zero_le _) hij (by simpa [hsz] using hj)
      rw [ltOf_cmpK] at hij'
      have hnl := of_decide_eq_false hij'
      have hi' : i < d'.size := by simpa using hi
      have hj' : j < d'.size := by simpa using hj
      rw [getElem!_pos d' i hi', getElem!_pos d' j hj'] at hnl
      have hnd : (d'.toList.map (·.2)).Nodup := (hperm.map _).nodup_iff.2 hN
      have hne : (d'.toList.map (·.2))[i]'(by simpa using hi) ≠ (d'.toList.map (·.2))[j]'(by simpa using hj) := (List.pairwise_iff_getElem.1 hnd) i j _ _ hij
      simp only [List.getElem_map] at hne
      rcases slt_or (d'.toList[i]).2 (d'.toList[j]).2 with q | q | q
      · exact q
      · exact absurd q hne
      · exact absurd (by simpa using q) hnl
    · refine ⟨some ⟨g, 0, none⟩, cap, g, 0, by simp [hsz], .inr rfl, fun k hk => ?_⟩
      have hk' : k < d'.size := by simpa using hk
      have c0 := (hHd.cell hk' (c := 0) (by decide)).1
      have c1 := (hHd.cell hk' (c := 1) (by decide)).1
      refine ⟨Nat.lt_of_lt_of_le hgl (grownBy_sortedK d').size, ?_, ?_⟩
      · rw [Nat.add_zero] at c0
        rw [c0]
        simp [kcells, List.getD_eq_getElem?_getD, hk']
      · rw [c1]
        simp [kcells, List.getD_eq_getElem?_getD, hk']
end Go.Proofs.Ytfloipdkhmgibaa

/- (*proxy.Proxy).Tell. -/
namespace Go.Proofs.Ytfloipdkhmgibaa
open Go.RowKit Go.Lib Go.Sort Go.Maps
set_option maxRecDepth 20000
set_option maxRecDepth 20000

theorem isGrp_len {g : Str} (h : isGrp g = true) : g.length ≤ 16 := by
  unfold isGrp at h
  split at h
  · omega
  · simp at h; omega
theorem isGrp_max {g : Str} (h : isGrp g = true) : g.length ≤ maxLen := Nat.le_trans (isGrp_len h) (by decide)

/-- no proxy: a bad argument -/
theorem tell_nil (v : Int) (g : Str) (e : Bool) (u : Value) (A : List Str) (w : World) (hv : Strs w u A) :
    Calls Try.prog 17 #[.pointer none, .int .i64 v, .string (bstr g), .agg #[.bool e, u]] w fun x w' => x = .returned (.tuple #[.slice none 0 0, .int .i64 1]) ∧ Below w.heap.size w w' := by
  obtain ⟨uo, uc, rfl⟩ := hv.shape
  have hb0 : Below w.heap.size w (w.alloc (.cells #[.bool e, .slice uo A.length uc] 28)) := (Below.refl _ _).alloc (Nat.le_refl _) _
  have HB0 := Lib.hid hb0
  have HE := Lib.hid (egroup_any g (w.alloc (.cells #[.bool e, .slice uo A.length uc] 28)))
  generalize (if isGrp g then (0 : Int) else 1) = z at HE
  clear hv hb0
  go_enter Try.func17, Try.ntmps17
  go_wp2_with ((with_reducible refine HE.out.mono ?_); rintro x w1 ⟨m, rfl, hb1⟩; have HB1 := Lib.hid (HB0.out.trans (hb1.mono HB0.out.size)); clear hb1)
  exact bodyPost_ret (v := .tuple #[.slice none 0 0, .int .i64 1]) (by simp [results, Try.results17, go_sem]) rfl ⟨rfl, HB1.out⟩

/-- a bad argument -/
theorem tell_bad (q : Addr) (v : Int) (g : Str) (e : Bool) (u : Value) (A : List Str) (w : World) (hv : Strs w u A) (hbad : ¬ (1 ≤ v ∧ v ≤ 4094 ∧ isGrp g = true)) :
    Calls Try.prog 17 #[.pointer (some q), .int .i64 v, .string (bstr g), .agg #[.bool e, u]] w fun x w' => x = .returned (.tuple #[.slice none 0 0, .int .i64 1]) ∧ Below w.heap.size w w' := by
  obtain ⟨uo, uc, rfl⟩ := hv.shape
  have hb0 : Below w.heap.size w (w.alloc (.cells #[.bool e, .slice uo A.length uc] 28)) := (Below.refl _ _).alloc (Nat.le_refl _) _
  have HB0 := Lib.hid hb0
  have HE := Lib.hid (egroup_any g (w.alloc (.cells #[.bool e, .slice uo A.length uc] 28)))
  clear hv hb0
  cases d1 : decide (v < 1)
  · cases d2 : decide (4094 < v)
    · have d3 : isGrp g = false := by
        have h1 := of_decide_eq_false d1
        have h2 := of_decide_eq_false d2
        cases h : isGrp g
        · rfl
        · exact absurd ⟨by omega, by omega, h⟩ hbad
      rw [d3] at HE
      simp only [Bool.false_eq_true, if_false] at HE
      clear hbad
      go_enter Try.func17, Try.ntmps17
      go_wp2_with ((with_reducible refine HE.out.mono ?_); rintro x w1 ⟨m, rfl, hb1⟩; have HB1 := Lib.hid (HB0.out.trans (hb1.mono HB0.out.size)); clear hb1)
      exact bodyPost_ret (v := .tuple #[.slice none 0 0, .int .i64 1]) (by simp [results, Try.results17, go_sem]) rfl ⟨rfl, HB1.out⟩
    · clear hbad
      generalize (if isGrp g then (0 : Int) else 1) = z at HE
      go_enter Try.func17, Try.ntmps17
      go_wp2_with ((with_reducible refine HE.out.mono ?_); rintro x w1 ⟨m, rfl, hb1⟩; have HB1 := Lib.hid (HB0.out.trans (hb1.mono HB0.out.size)); clear hb1)
      exact bodyPost_ret (v := .tuple #[.slice none 0 0, .int .i64 1]) (by simp [results, Try.results17, go_sem]) rfl ⟨rfl, HB1.out⟩
  · clear hbad
    generalize (if isGrp g then (0 : Int) else 1) = z at HE
    go_enter Try.func17, Try.ntmps17
    go_wp2_with ((with_reducible refine HE.out.mono ?_); rintro x w1 ⟨m, rfl, hb1⟩; have HB1 := Lib.hid (HB0.out.trans (hb1.mono HB0.out.size)); clear hb1)
    exact bodyPost_ret (v := .tuple #[.slice none 0 0, .int .i64 1]) (by simp [results, Try.results17, go_sem]) rfl ⟨rfl, HB1.out⟩

theorem VMap.len_at {P : Program} {T : TypeId} {κ : Type} {K : KeyEnc P T κ} {w : World} {b n : Nat} {F : κ → Option Value} {t e : TypeId} (h : VMap K w b n F) (ht : P.underlying t = some (.map T e)) {L : List κ} (hL : KeysV F L) (ty : TypeId) : (Builtin.len_ #[t] ty #[.map (some b)]).run P w = .ok (.int .i64 L.length) w := by
  obtain ⟨L', h1, _, h2⟩ := h.count ht
  rw [← ((List.perm_ext_iff_of_nodup h1.1 hL.1).2 fun k => (h1.2 k).trans (hL.2 k).symm).length_eq]
  exact h2 ty
def Drawn (w w' : World) : Prop := ∃ m, w' = w.drewN m

/-- what Tell leaves behind -/
def RetTell (w : World) (p b n : Nat) (room : Int) (t : List Rec × Int × Told) (x : Ending) (w' : World) : Prop :=
  ∃ rv, x = .returned (.tuple #[rv, .int .i64 t.2.1]) ∧ Recs w' rv t.1 ∧ Px w' p b (n + 1) room t.2.2 ∧ CKeep w w' ∧ w.grownBy w' (some b)

set_option maxHeartbeats 4000000 in
theorem tell_del (p b n : Nat) (room v : Int) (g : Str) (e : Bool) (u : Value) (A : List Str) (G : Told) (w : World) (h : Px w p b n room G) (_hn : n < 1000000) (h1 : 1 ≤ v) (h2 : v ≤ 4094) (hg : isGrp g = true) (hv : Strs w u A) (hA : A.length ≤ 60) (hG : SmallT G) (hE : (!e && decide (sasc A = [])) = true) :
    Calls Try.prog 17 #[.pointer (some ⟨p, 0, none⟩), .int .i64 v, .string (bstr g), .agg #[.bool e, u]] w (RetTell w p b n room (pdiff g (oldT G (v, g)).1 (oldT G (v, g)).2 e (sasc A), 0, delT G (v, g))) := by
  have hz : ∀ w, (zeroValue 28).run Try.prog w = .ok (.agg #[.bool false, .slice none 0 0]) w := fun w => Try.zeroValue28 w
  have d1 : decide (v < 1) = false := decide_eq_false (by omega)
  have d2 : decide (4094 < v) = false := decide_eq_false (by omega)
  have hk : okK (v, g) := ⟨by simp [Lit.wf, IntKind.min, IntKind.max, IntKind.bits, IntKind.signed]; omega, isGrp_max hg⟩
  obtain ⟨uo, uc, rfl⟩ := hv.shape
  obtain ⟨hpx, V, hV, hH⟩ := h.parts
  have hlt := h.lt
  obtain ⟨ov, ho, hso, hoi⟩ := hH.at_ (v, g)
  obtain ⟨oo, oc, rfl⟩ := hso.shape
  obtain ⟨LK, hLK, hLn, hlen⟩ := hV.count Try.underlying71
  have hLT := hH.keys hLK
  obtain ⟨W0, hW0⟩ : ∃ W0, W0 = w.alloc (.cells #[.bool e, .slice uo A.length uc] 28) := ⟨_, rfl⟩
  have hb0 : Below w.heap.size w W0 := by rw [hW0]; exact (Below.refl _ _).alloc (Nat.le_refl _) _
  have hs0 : W0.heap.size = w.heap.size + 1 := by rw [hW0]; simp
  have f0 : CBox W0 w.heap.size 28 #[.bool e, .slice uo A.length uc] := by rw [hW0]; exact CBox.new _ rfl
  have HE := Lib.hid (egroup_any g W0)
  rw [hg] at HE
  simp only [if_true] at HE
  have HPX := Lib.hid hpx; have HV := Lib.hid hV; have HH := Lib.hid hH; have HSO := Lib.hid hso; have HUA := Lib.hid hv; have HLT := Lib.hid hlt; have HKO := Lib.hid hk; have HGR := Lib.hid hg; have HSM := Lib.hid hG
  have HB0 := Lib.hid hb0; have F0 := Lib.hid f0; have HS0 := Lib.hid hs0; have HW0 := Lib.hid hW0; have HLT' := Lib.hid hLT; have HO := Lib.hid ho; have HOI := Lib.hid hoi; have HLN := Lib.hid hLn; have HLK := Lib.hid hLK
  obtain ⟨old, hold⟩ : ∃ f, f = oldT G (v, g) := ⟨_, rfl⟩
  have HOLD := Lib.hid hold
  have HO60 := Lib.hid (hG.old (v, g))
  rw [← hold] at HSO HO HO60
  clear h hpx hV hH hb0 hs0 f0 hv hW0 hg hk hlt hG h1 h2 ho hso hoi hLK hLn hlen hLT
  try rw [← hold]
  clear hold
  go_enter Try.func17, Try.ntmps17
  go_upto_region 1 with fail
  rw [← HW0.out]
  clear HW0
  go_wp2_with ((with_reducible refine HE.out.mono ?_); rintro x w1 ⟨m, rfl, hb1⟩; have HB1 := Lib.hid hb1; clear hb1 HE)
  obtain ⟨W2, hW2⟩ : ∃ W2, W2 = w1.alloc (.cells #[.int .i64 v, .string (bstr g)] 78) := ⟨_, rfl⟩
  have hlt := HLT.out; have hs0 := HS0.out; have hs1 : w.heap.size + 1 ≤ w1.heap.size := by have := HB1.out.size; omega
  have hb1 : Below w.heap.size w w1 := HB0.out.trans (HB1.out.mono HB0.out.size)
  have hb2 : Below w.heap.size w W2 := by rw [hW2]; exact hb1.alloc hb1.size _
  have hs2 : W2.heap.size = w1.heap.size + 1 := by rw [hW2]; simp
  have k2 : CBox W2 w1.heap.size 78 #[.int .i64 v, .string (bstr g)] := by rw [hW2]; exact CBox.new _ rfl
  have f2 : CBox W2 w.heap.size 28 #[.bool e, .slice uo A.length uc] := by rw [hW2]; exact (F0.out.below HB1.out F0.out.lt).old _
  have hp2 := HPX.out.below hb2 HPX.out.lt
  have hd : Below W2.heap.size W2 W2.drew := Below.drew (Below.refl _ _)
  have hlk := (HV.out.below (hb2.trans (hd.mono hb2.size)) HV.out.lt).getOk Try.underlying71 (hz W2.drew) (v, g) HKO.out
  rw [HO.out, HOI.out] at hlk
  have hlk' : (Instr.lookup 71 (.map (some b)) (.agg #[.int .i64 v, .string (bstr g)]) true).run Try.prog W2.drew = .ok (.tuple #[.agg #[.bool old.1, .slice oo old.2.length oc], .bool (G (v, g)).isSome]) W2.drew := hlk
  obtain ⟨x0, _⟩ := hp2.at_ 0 _ rfl
  obtain ⟨x1, _⟩ := hp2.at_ 1 _ rfl
  obtain ⟨y0, _⟩ := k2.at_ 0 _ rfl
  obtain ⟨y1, _⟩ := k2.at_ 1 _ rfl
  obtain ⟨W3, hW3⟩ : ∃ W3, W3 = (W2.alloc (.cells #[.bool old.1, .slice oo old.2.length oc] 28)).drew := ⟨_, rfl⟩
  have hb23 : Below W2.heap.size W2 W3 := by rw [hW3]; exact Below.drew ((Below.refl _ _).alloc (Nat.le_refl _) _)
  have hb3 : Below w.heap.size w W3 := hb2.trans (hb23.mono hb2.size)
  have hs3 : W3.heap.size = W2.heap.size + 1 := by rw [hW3]; simp
  have O3 := Lib.hid (show CBox W3 W2.heap.size 28 #[.bool old.1, .slice oo old.2.length oc] from by rw [hW3]; exact (show CBox (W2.alloc _) _ _ _ from CBox.new _ rfl))
  have F3 := Lib.hid (f2.below hb23 f2.lt); have K3 := Lib.hid (k2.below hb23 k2.lt)
  have HB3 := Lib.hid hb3; have HS2 := Lib.hid hs2; have HS3 := Lib.hid hs3; have HS1 := Lib.hid hs1
  have HNO := Lib.hid (norm_any e _ A W3 (HUA.out.mono hb3) (by omega))
  have HW3 := Lib.hid hW3; have HW2 := Lib.hid hW2
  have hd2 : Below W2.heap.size W2 (W2.alloc (.cells #[.bool false, .slice none 0 0] 28)).drew := Below.drew ((Below.refl _ _).alloc (Nat.le_refl _) _)
  have hlk2 := (HV.out.below (hb2.trans (hd2.mono hb2.size)) HV.out.lt).getOk Try.underlying71 (hz (W2.alloc (.cells #[.bool false, .slice none 0 0] 28)).drew) (v, g) HKO.out
  rw [HO.out, HOI.out] at hlk2
  have hlk3 : (Instr.lookup 71 (.map (some b)) (.agg #[.int .i64 v, .string (bstr g)]) true).run Try.prog (W2.alloc (.cells #[.bool false, .slice none 0 0] 28)).drew = .ok (.tuple #[.agg #[.bool old.1, .slice oo old.2.length oc], .bool (G (v, g)).isSome]) (W2.alloc (.cells #[.bool false, .slice none 0 0] 28)).drew := hlk2
  have q1 : p < W2.heap.size := hp2.lt
  have q2 : w1.heap.size < W2.heap.size := k2.lt
  clear hb1 hb2 hs2 k2 f2 hp2 hlk hlk2 hd2 hb23 hb3 hs3 hW3 hW2 F0 HS0 hd hlt hs0 hs1 HOI
  rw [← HW2.out]
  go_cut [13, 14] (fun s13 s14 w' => s13 = .pointer (some ⟨W2.heap.size, 0, none⟩) ∧ s14 = .bool (G (v, g)).isSome ∧ W3 = w')
  case first =>
    clear HPX HV HH HSO HUA HLT HKO HGR HSM HO HLN HOLD HO60 O3 F3 K3 HB3 HS2 HS3 HS1 HNO HW2
    go_region
    all_goals
      go_wp2_with fail
      go_meet
      case rel => exact ⟨rfl, by first | rfl | rw [hS], HW3.out⟩
  case rest =>
  obtain ⟨rfl, rfl, rfl⟩ := hcut
  clear hlk' hlk3 q1 q2 x0 x1 y0 y1 HW3 HW2
  obtain ⟨x0, xf0⟩ := F3.out.at_ 0 _ rfl
  obtain ⟨x1, xf1⟩ := F3.out.at_ 1 _ rfl
  go_upto_region 8 with ((with_reducible refine HNO.out.mono ?_); rintro x w4 ⟨nv, rfl, hns, hb4, hnl⟩; obtain ⟨no, nc, rfl⟩ := hns.shape; have f4 := F3.out.below hb4 F3.out.lt; obtain ⟨z0, zf0⟩ := f4.at_ 0 _ rfl; obtain ⟨z1, zf1⟩ := f4.at_ 1 _ rfl; have HB4 := Lib.hid hb4; have HNS := Lib.hid hns; have HNL := Lib.hid hnl; have F4 := Lib.hid f4; clear hb4 hns hnl f4 x0 x1 xf0 xf1)
  obtain ⟨W5, hW5⟩ : ∃ W5, W5 = (w4.setCell ⟨w.heap.size, 0, none⟩ (.bool e)).setCell ⟨w.heap.size, 1, none⟩ (.slice no (sasc A).length nc) := ⟨_, rfl⟩
  have h1 := HS1.out; have h2 := HS2.out; have h3 := HS3.out; have hlt := HLT.out; have h4 := HB4.out.size; have h5 := HB0.out.size
  have hb5 : Below w.heap.size w W5 := by rw [hW5]; exact ((HB3.out.trans (HB4.out.mono HB3.out.size)).setCell (by simp) _).setCell (by simp) _
  have hs5 : W5.heap.size = w4.heap.size := by rw [hW5]; simp
  have F5 := Lib.hid (show CBox W5 w.heap.size 28 #[.bool e, .slice no (sasc A).length nc] from by rw [hW5]; simpa using (F4.out.set 0 (.bool e)).set 1 (.slice no (sasc A).length nc))
  have K5 := Lib.hid (show CBox W5 w1.heap.size 78 #[.int .i64 v, .string (bstr g)] from by rw [hW5]; exact ((K3.out.below HB4.out K3.out.lt).far (p := ⟨w.heap.size, 0, none⟩) (by simp; omega) _).far (p := ⟨w.heap.size, 1, none⟩) (by simp; omega) _)
  have O5 := Lib.hid (show CBox W5 W2.heap.size 28 #[.bool old.1, .slice oo old.2.length oc] from by rw [hW5]; exact ((O3.out.below HB4.out O3.out.lt).far (p := ⟨w.heap.size, 0, none⟩) (by simp; omega) _).far (p := ⟨w.heap.size, 1, none⟩) (by simp; omega) _)
  have hns5 : Strs W5 (.slice no (sasc A).length nc) (sasc A) := by rw [hW5]; exact (HNS.out.far HNL.out (p := ⟨w.heap.size, 0, none⟩) (by simp; omega) _).far HNL.out (p := ⟨w.heap.size, 1, none⟩) (by simp; omega) _
  have HB5 := Lib.hid hb5; have NS5 := Lib.hid hns5; have HW5 := Lib.hid hW5; have HS5 := Lib.hid hs5
  have HEM := Lib.hid (empty_any e _ (sasc A) W5 hns5)
  have LT := Lib.hid (show w.heap.size < w1.heap.size ∧ w1.heap.size < W2.heap.size ∧ W2.heap.size < W5.heap.size from by omega)
  clear hb5 hs5 hns5 hW5 h1 h2 h3 hlt h4 h5
  rw [← HW5.out]
  clear z0 z1 zf0 zf1 HW5 F3 K3 O3 F4 HNS HNL HB4 HB3 HS1 HS2 HS3 HS5 HB1 HNO HB0
  obtain ⟨x0, _⟩ := F5.out.at_ 0 _ rfl
  obtain ⟨x1, _⟩ := F5.out.at_ 1 _ rfl
  
  go_wp2_with ((with_reducible refine HEM.out.mono ?_); rintro x w6 ⟨rfl, hb6⟩; rw [hE]; have HB6 := Lib.hid hb6; clear hb6 HEM x0 x1)
  have hb6 : Below w.heap.size w w6 := HB5.out.trans (HB6.out.mono HB5.out.size)
  have hp6 := HPX.out.below hb6 HPX.out.lt
  have hv6 := HV.out.below hb6 HV.out.lt
  have F6 := Lib.hid (F5.out.below HB6.out F5.out.lt); have K6 := Lib.hid (K5.out.below HB6.out K5.out.lt); have O6 := Lib.hid (O5.out.below HB6.out O5.out.lt)
  obtain ⟨x0, _⟩ := hp6.at_ 0 _ rfl
  obtain ⟨x1, _⟩ := hp6.at_ 1 _ rfl
  obtain ⟨y0, _⟩ := K6.out.at_ 0 _ rfl
  obtain ⟨y1, _⟩ := K6.out.at_ 1 _ rfl
  obtain ⟨z0, _⟩ := F6.out.at_ 0 _ rfl
  obtain ⟨z1, _⟩ := F6.out.at_ 1 _ rfl
  have hd : Below w6.heap.size w6 w6.drew := Below.drew (Below.refl _ _)
  have HBW6 := Lib.hid hb6
  have P6 := Lib.hid hp6; have V6 := Lib.hid hv6
  obtain ⟨w7, hrun, hv7, hg7⟩ := (hv6.below hd hv6.lt).drop Try.underlying71 (v, g) HKO.out 0
  have hrun' : (Builtin.delete_ #[71, 78] 0 #[.map (some b), .agg #[.int .i64 v, .string (bstr g)]]).run Try.prog w6.drew = .ok (.tuple #[]) w7 := hrun
  replace hrun := hrun'; clear hrun' hb6 hp6 hv6
  replace hg7 := hg7.grown
  have hb07 : w.grownBy w7 (some b) := (grown_below (World.grownBy.refl w (some b)) (HBW6.out.trans (hd.mono HBW6.out.size))).trans hg7
  have hc67 : CKeep w6 w7 := (CKeep.of_below hd).trans (CKeep.of_map (V6.out.below hd V6.out.lt) hg7)
  have hso7 := hc67.strs (HSO.out.mono HBW6.out)
  have hns7 := hc67.strs (NS5.out.mono HB6.out)
  have HDI := Lib.hid (diff_any g old.1 e _ _ old.2 (sasc A) w7 (isGrp_max HGR.out) hso7 hns7 (by have := HO60.out; have := sasc_length A; omega))
  have F7 := Lib.hid (hc67.box F6.out); have O7 := Lib.hid (hc67.box O6.out); have K7 := Lib.hid (hc67.box K6.out); have P7 := Lib.hid (hc67.box P6.out); have V7 := Lib.hid hv7; have HG7 := Lib.hid hb07; have HC7 := Lib.hid ((CKeep.of_below HBW6.out).trans hc67); have NS7 := Lib.hid hns7
  clear hb07 hc67 hso7 hns7 hv7 hg7 hd
  go_region
  clear hrun x0 x1 y0 y1 z0 z1
  obtain ⟨x0, _⟩ := F7.out.at_ 0 _ rfl
  obtain ⟨x1, _⟩ := F7.out.at_ 1 _ rfl
  obtain ⟨y0, _⟩ := O7.out.at_ 0 _ rfl
  obtain ⟨y1, _⟩ := O7.out.at_ 1 _ rfl
  go_wp2_with ((with_reducible refine HDI.out.mono ?_); rintro x w8 ⟨rv, rfl, hrv, hb8⟩; have HRV := Lib.hid hrv; have HB8 := Lib.hid hb8; clear hrv hb8 HDI)
  refine bodyPost_ret (v := .tuple #[rv, .int .i64 0]) (by simp [results, Try.results17, go_sem]) rfl ⟨rv, rfl, HRV.out, ?_, HC7.out.trans (CKeep.of_below HB8.out), grown_below HG7.out HB8.out⟩
  exact (Px.of P7.out (V7.out.up (Nat.le_succ n)) ((HH.out.keep HC7.out).del (v, g))).below HB8.out
set_option maxHeartbeats 4000000 in
theorem tell_put1 (p b n : Nat) (room v : Int) (g : Str) (e : Bool) (u : Value) (A : List Str) (G : Told) (w : World) (h : Px w p b n room G) (_hn : n < 1000000) (h1 : 1 ≤ v) (h2 : v ≤ 4094) (hg : isGrp g = true) (hv : Strs w u A) (hA : A.length ≤ 60) (hG : SmallT G) (hE : (!e && decide (sasc A = [])) = false) (hS : (G (v, g)).isSome = true) :
    Calls Try.prog 17 #[.pointer (some ⟨p, 0, none⟩), .int .i64 v, .string (bstr g), .agg #[.bool e, u]] w (RetTell w p b n room (pdiff g (oldT G (v, g)).1 (oldT G (v, g)).2 e (sasc A), 0, updT G (v, g) (e, sasc A))) := by
  have hz : ∀ w, (zeroValue 28).run Try.prog w = .ok (.agg #[.bool false, .slice none 0 0]) w := fun w => Try.zeroValue28 w
  have d1 : decide (v < 1) = false := decide_eq_false (by omega)
  have d2 : decide (4094 < v) = false := decide_eq_false (by omega)
  have hk : okK (v, g) := ⟨by simp [Lit.wf, IntKind.min, IntKind.max, IntKind.bits, IntKind.signed]; omega, isGrp_max hg⟩
  obtain ⟨uo, uc, rfl⟩ := hv.shape
  obtain ⟨hpx, V, hV, hH⟩ := h.parts
  have hlt := h.lt
  obtain ⟨ov, ho, hso, hoi⟩ := hH.at_ (v, g)
  obtain ⟨oo, oc, rfl⟩ := hso.shape
  obtain ⟨LK, hLK, hLn, hlen⟩ := hV.count Try.underlying71
  have hLT := hH.keys hLK
  obtain ⟨W0, hW0⟩ : ∃ W0, W0 = w.alloc (.cells #[.bool e, .slice uo A.length uc] 28) := ⟨_, rfl⟩
  have hb0 : Below w.heap.size w W0 := by rw [hW0]; exact (Below.refl _ _).alloc (Nat.le_refl _) _
  have hs0 : W0.heap.size = w.heap.size + 1 := by rw [hW0]; simp
  have f0 : CBox W0 w.heap.size 28 #[.bool e, .slice uo A.length uc] := by rw [hW0]; exact CBox.new _ rfl
  have HE := Lib.hid (egroup_any g W0)
  rw [hg] at HE
  simp only [if_true] at HE
  have HPX := Lib.hid hpx; have HV := Lib.hid hV; have HH := Lib.hid hH; have HSO := Lib.hid hso; have HUA := Lib.hid hv; have HLT := Lib.hid hlt; have HKO := Lib.hid hk; have HGR := Lib.hid hg; have HSM := Lib.hid hG
  have HB0 := Lib.hid hb0; have F0 := Lib.hid f0; have HS0 := Lib.hid hs0; have HW0 := Lib.hid hW0; have HLT' := Lib.hid hLT; have HO := Lib.hid ho; have HOI := Lib.hid hoi; have HLN := Lib.hid hLn; have HLK := Lib.hid hLK
  obtain ⟨old, hold⟩ : ∃ f, f = oldT G (v, g) := ⟨_, rfl⟩
  have HOLD := Lib.hid hold
  have HO60 := Lib.hid (hG.old (v, g))
  rw [← hold] at HSO HO HO60
  clear h hpx hV hH hb0 hs0 f0 hv hW0 hg hk hlt hG h1 h2 ho hso hoi hLK hLn hlen hLT
  try rw [← hold]
  clear hold
  go_enter Try.func17, Try.ntmps17
  go_upto_region 1 with fail
  rw [← HW0.out]
  clear HW0
  go_wp2_with ((with_reducible refine HE.out.mono ?_); rintro x w1 ⟨m, rfl, hb1⟩; have HB1 := Lib.hid hb1; clear hb1 HE)
  obtain ⟨W2, hW2⟩ : ∃ W2, W2 = w1.alloc (.cells #[.int .i64 v, .string (bstr g)] 78) := ⟨_, rfl⟩
  have hlt := HLT.out; have hs0 := HS0.out; have hs1 : w.heap.size + 1 ≤ w1.heap.size := by have := HB1.out.size; omega
  have hb1 : Below w.heap.size w w1 := HB0.out.trans (HB1.out.mono HB0.out.size)
  have hb2 : Below w.heap.size w W2 := by rw [hW2]; exact hb1.alloc hb1.size _
  have hs2 : W2.heap.size = w1.heap.size + 1 := by rw [hW2]; simp
  have k2 : CBox W2 w1.heap.size 78 #[.int .i64 v, .string (bstr g)] := by rw [hW2]; exact CBox.new _ rfl
  have f2 : CBox W2 w.heap.size 28 #[.bool e, .slice uo A.length uc] := by rw [hW2]; exact (F0.out.below HB1.out F0.out.lt).old _
  have hp2 := HPX.out.below hb2 HPX.out.lt
  have hd : Below W2.heap.size W2 W2.drew := Below.drew (Below.refl _ _)
  have hlk := (HV.out.below (hb2.trans (hd.mono hb2.size)) HV.out.lt).getOk Try.underlying71 (hz W2.drew) (v, g) HKO.out
  rw [HO.out, HOI.out] at hlk
  have hlk' : (Instr.lookup 71 (.map (some b)) (.agg #[.int .i64 v, .string (bstr g)]) true).run Try.prog W2.drew = .ok (.tuple #[.agg #[.bool old.1, .slice oo old.2.length oc], .bool (G (v, g)).isSome]) W2.drew := hlk
  obtain ⟨x0, _⟩ := hp2.at_ 0 _ rfl
  obtain ⟨x1, _⟩ := hp2.at_ 1 _ rfl
  obtain ⟨y0, _⟩ := k2.at_ 0 _ rfl
  obtain ⟨y1, _⟩ := k2.at_ 1 _ rfl
  obtain ⟨W3, hW3⟩ : ∃ W3, W3 = (W2.alloc (.cells #[.bool old.1, .slice oo old.2.length oc] 28)).drew := ⟨_, rfl⟩
  have hb23 : Below W2.heap.size W2 W3 := by rw [hW3]; exact Below.drew ((Below.refl _ _).alloc (Nat.le_refl _) _)
  have hb3 : Below w.heap.size w W3 := hb2.trans (hb23.mono hb2.size)
  have hs3 : W3.heap.size = W2.heap.size + 1 := by rw [hW3]; simp
  have O3 := Lib.hid (show CBox W3 W2.heap.size 28 #[.bool old.1, .slice oo old.2.length oc] from by rw [hW3]; exact (show CBox (W2.alloc _) _ _ _ from CBox.new _ rfl))
  have F3 := Lib.hid (f2.below hb23 f2.lt); have K3 := Lib.hid (k2.below hb23 k2.lt)
  have HB3 := Lib.hid hb3; have HS2 := Lib.hid hs2; have HS3 := Lib.hid hs3; have HS1 := Lib.hid hs1
  have HNO := Lib.hid (norm_any e _ A W3 (HUA.out.mono hb3) (by omega))
  have HW3 := Lib.hid hW3; have HW2 := Lib.hid hW2
  have hd2 : Below W2.heap.size W2 (W2.alloc (.cells #[.bool false, .slice none 0 0] 28)).drew := Below.drew ((Below.refl _ _).alloc (Nat.le_refl _) _)
  have hlk2 := (HV.out.below (hb2.trans (hd2.mono hb2.size)) HV.out.lt).getOk Try.underlying71 (hz (W2.alloc (.cells #[.bool false, .slice none 0 0] 28)).drew) (v, g) HKO.out
  rw [HO.out, HOI.out] at hlk2
  have hlk3 : (Instr.lookup 71 (.map (some b)) (.agg #[.int .i64 v, .string (bstr g)]) true).run Try.prog (W2.alloc (.cells #[.bool false, .slice none 0 0] 28)).drew = .ok (.tuple #[.agg #[.bool old.1, .slice oo old.2.length oc], .bool (G (v, g)).isSome]) (W2.alloc (.cells #[.bool false, .slice none 0 0] 28)).drew := hlk2
  have q1 : p < W2.heap.size := hp2.lt
  have q2 : w1.heap.size < W2.heap.size := k2.lt
  clear hb1 hb2 hs2 k2 f2 hp2 hlk hlk2 hd2 hb23 hb3 hs3 hW3 hW2 F0 HS0 hd hlt hs0 hs1 HOI
  rw [← HW2.out]
  go_cut [13, 14] (fun s13 s14 w' => s13 = .pointer (some ⟨W2.heap.size, 0, none⟩) ∧ s14 = .bool (G (v, g)).isSome ∧ W3 = w')
  case first =>
    clear HPX HV HH HSO HUA HLT HKO HGR HSM HO HLN HOLD HO60 O3 F3 K3 HB3 HS2 HS3 HS1 HNO HW2
    go_region
    all_goals
      go_wp2_with fail
      go_meet
      case rel => exact ⟨rfl, by first | rfl | rw [hS], HW3.out⟩
  case rest =>
  obtain ⟨rfl, rfl, rfl⟩ := hcut
  clear hlk' hlk3 q1 q2 x0 x1 y0 y1 HW3 HW2
  obtain ⟨x0, xf0⟩ := F3.out.at_ 0 _ rfl
  obtain ⟨x1, xf1⟩ := F3.out.at_ 1 _ rfl
  go_upto_region 8 with ((with_reducible refine HNO.out.mono ?_); rintro x w4 ⟨nv, rfl, hns, hb4, hnl⟩; obtain ⟨no, nc, rfl⟩ := hns.shape; have f4 := F3.out.below hb4 F3.out.lt; obtain ⟨z0, zf0⟩ := f4.at_ 0 _ rfl; obtain ⟨z1, zf1⟩ := f4.at_ 1 _ rfl; have HB4 := Lib.hid hb4; have HNS := Lib.hid hns; have HNL := Lib.hid hnl; have F4 := Lib.hid f4; clear hb4 hns hnl f4 x0 x1 xf0 xf1)
  obtain ⟨W5, hW5⟩ : ∃ W5, W5 = (w4.setCell ⟨w.heap.size, 0, none⟩ (.bool e)).setCell ⟨w.heap.size, 1, none⟩ (.slice no (sasc A).length nc) := ⟨_, rfl⟩
  have h1 := HS1.out; have h2 := HS2.out; have h3 := HS3.out; have hlt := HLT.out; have h4 := HB4.out.size; have h5 := HB0.out.size
  have hb5 : Below w.heap.size w W5 := by rw [hW5]; exact ((HB3.out.trans (HB4.out.mono HB3.out.size)).setCell (by simp) _).setCell (by simp) _
  have hs5 : W5.heap.size = w4.heap.size := by rw [hW5]; simp
  have F5 := Lib.hid (show CBox W5 w.heap.size 28 #[.bool e, .slice no (sasc A).length nc] from by rw [hW5]; simpa using (F4.out.set 0 (.bool e)).set 1 (.slice no (sasc A).length nc))
  have K5 := Lib.hid (show CBox W5 w1.heap.size 78 #[.int .i64 v, .string (bstr g)] from by rw [hW5]; exact ((K3.out.below HB4.out K3.out.lt).far (p := ⟨w.heap.size, 0, none⟩) (by simp; omega) _).far (p := ⟨w.heap.size, 1, none⟩) (by simp; omega) _)
  have O5 := Lib.hid (show CBox W5 W2.heap.size 28 #[.bool old.1, .slice oo old.2.length oc] from by rw [hW5]; exact ((O3.out.below HB4.out O3.out.lt).far (p := ⟨w.heap.size, 0, none⟩) (by simp; omega) _).far (p := ⟨w.heap.size, 1, none⟩) (by simp; omega) _)
  have hns5 : Strs W5 (.slice no (sasc A).length nc) (sasc A) := by rw [hW5]; exact (HNS.out.far HNL.out (p := ⟨w.heap.size, 0, none⟩) (by simp; omega) _).far HNL.out (p := ⟨w.heap.size, 1, none⟩) (by simp; omega) _
  have HB5 := Lib.hid hb5; have NS5 := Lib.hid hns5; have HW5 := Lib.hid hW5; have HS5 := Lib.hid hs5
  have HEM := Lib.hid (empty_any e _ (sasc A) W5 hns5)
  have LT := Lib.hid (show w.heap.size < w1.heap.size ∧ w1.heap.size < W2.heap.size ∧ W2.heap.size < W5.heap.size from by omega)
  clear hb5 hs5 hns5 hW5 h1 h2 h3 hlt h4 h5
  rw [← HW5.out]
  clear z0 z1 zf0 zf1 HW5 F3 K3 O3 F4 HNS HNL HB4 HB3 HS1 HS2 HS3 HS5 HB1 HNO HB0
  obtain ⟨x0, _⟩ := F5.out.at_ 0 _ rfl
  obtain ⟨x1, _⟩ := F5.out.at_ 1 _ rfl
  
  go_wp2_with ((with_reducible refine HEM.out.mono ?_); rintro x wE ⟨rfl, hb6⟩; rw [hE]; have HB6 := Lib.hid hb6; clear hb6 HEM x0 x1)
  have hb6 : Below w.heap.size w wE := HB5.out.trans (HB6.out.mono HB5.out.size)
  have hp6 := HPX.out.below hb6 HPX.out.lt
  have hv6 := HV.out.below hb6 HV.out.lt
  have F6 := Lib.hid (F5.out.below HB6.out F5.out.lt); have K6 := Lib.hid (K5.out.below HB6.out K5.out.lt); have O6 := Lib.hid (O5.out.below HB6.out O5.out.lt)
  obtain ⟨x0, _⟩ := hp6.at_ 0 _ rfl
  obtain ⟨x1, _⟩ := hp6.at_ 1 _ rfl
  obtain ⟨y0, _⟩ := K6.out.at_ 0 _ rfl
  obtain ⟨y1, _⟩ := K6.out.at_ 1 _ rfl
  obtain ⟨z0, _⟩ := F6.out.at_ 0 _ rfl
  obtain ⟨z1, _⟩ := F6.out.at_ 1 _ rfl
  have hd : Below wE.heap.size wE wE.drew := Below.drew (Below.refl _ _)
  have HBW6 := Lib.hid hb6
  have P6 := Lib.hid hp6; have V6 := Lib.hid hv6
  clear hd hb6 F6 K6 O6 HBW6 P6 y0 y1 z0 z1
  have hlz := trivial
  clear hp6 hv6 V6
  go_upto_region 10 with fail
  go_cut [62] (fun s62 w' => s62 = .bool false ∧ Drawn wE w')
  case first =>
    clear HPX HV HH HSO HUA HKO HGR HSM HO HLN HOLD HO60 HB5 F5 K5 O5 NS5 HB6 LT HLT' HLK
    go_quiet (fail)
    all_goals
      go_wp2_with fail
      go_meet
      case rel => exact ⟨rfl, _, rfl⟩
  case rest =>
  obtain ⟨rfl, m, hm⟩ := hcut
  have HB6 := Lib.hid (show Below W5.heap.size W5 wc from by rw [hm]; exact below_draws _ HB6.out _)
  obtain ⟨w6, rfl⟩ : ∃ w6, w6 = wc := ⟨_, rfl⟩
  clear x0 x1 hm hlz
  have hb6 : Below w.heap.size w w6 := HB5.out.trans (HB6.out.mono HB5.out.size)
  have hp6 := HPX.out.below hb6 HPX.out.lt
  have hv6 := HV.out.below hb6 HV.out.lt
  have F6 := Lib.hid (F5.out.below HB6.out F5.out.lt); have K6 := Lib.hid (K5.out.below HB6.out K5.out.lt); have O6 := Lib.hid (O5.out.below HB6.out O5.out.lt)
  obtain ⟨x0, _⟩ := hp6.at_ 0 _ rfl
  obtain ⟨x1, _⟩ := hp6.at_ 1 _ rfl
  obtain ⟨y0, _⟩ := K6.out.at_ 0 _ rfl
  obtain ⟨y1, _⟩ := K6.out.at_ 1 _ rfl
  obtain ⟨z0, _⟩ := F6.out.at_ 0 _ rfl
  obtain ⟨z1, _⟩ := F6.out.at_ 1 _ rfl
  have hd : Below w6.heap.size w6 w6.drew := Below.drew (Below.refl _ _)
  have HBW6 := Lib.hid hb6
  have P6 := Lib.hid hp6; have V6 := Lib.hid hv6
  obtain ⟨w7, hrun, hv7, hg7⟩ := (hv6.below hd hv6.lt).put Try.underlying71 (v, g) HKO.out (.agg #[.bool e, .slice no (sasc A).length nc]) (by unfold maxLen; omega)
  have hrun' : (Instr.mapUpdate 71 (.map (some b)) (.agg #[.int .i64 v, .string (bstr g)]) (.agg #[.bool e, .slice no (sasc A).length nc])).run Try.prog w6.drew = .ok () w7 := hrun
  replace hrun := hrun'; clear hrun' hb6 hp6 hv6
  go_upto_region 7 with fail
  replace hg7 := hg7.grown
  have hb07 : w.grownBy w7 (some b) := (grown_below (World.grownBy.refl w (some b)) (HBW6.out.trans (hd.mono HBW6.out.size))).trans hg7
  have hc67 : CKeep w6 w7 := (CKeep.of_below hd).trans (CKeep.of_map (V6.out.below hd V6.out.lt) hg7)
  have hso7 := hc67.strs (HSO.out.mono HBW6.out)
  have hns7 := hc67.strs (NS5.out.mono HB6.out)
  have HDI := Lib.hid (diff_any g old.1 e _ _ old.2 (sasc A) w7 (isGrp_max HGR.out) hso7 hns7 (by have := HO60.out; have := sasc_length A; omega))
  have F7 := Lib.hid (hc67.box F6.out); have O7 := Lib.hid (hc67.box O6.out); have K7 := Lib.hid (hc67.box K6.out); have P7 := Lib.hid (hc67.box P6.out); have V7 := Lib.hid hv7; have HG7 := Lib.hid hb07; have HC7 := Lib.hid ((CKeep.of_below HBW6.out).trans hc67); have NS7 := Lib.hid hns7
  clear hb07 hc67 hso7 hns7 hv7 hg7 hd
  go_region
  clear hrun x0 x1 y0 y1 z0 z1
  obtain ⟨x0, _⟩ := F7.out.at_ 0 _ rfl
  obtain ⟨x1, _⟩ := F7.out.at_ 1 _ rfl
  obtain ⟨y0, _⟩ := O7.out.at_ 0 _ rfl
  obtain ⟨y1, _⟩ := O7.out.at_ 1 _ rfl
  go_wp2_with ((with_reducible refine HDI.out.mono ?_); rintro x w8 ⟨rv, rfl, hrv, hb8⟩; have HRV := Lib.hid hrv; have HB8 := Lib.hid hb8; clear hrv hb8 HDI)
  refine bodyPost_ret (v := .tuple #[rv, .int .i64 0]) (by simp [results, Try.results17, go_sem]) rfl ⟨rv, rfl, HRV.out, ?_, HC7.out.trans (CKeep.of_below HB8.out), grown_below HG7.out HB8.out⟩
  exact (Px.of P7.out V7.out ((HH.out.keep HC7.out).upd (v, g) (e, sasc A) _ NS7.out)).below HB8.out
set_option maxHeartbeats 4000000 in
theorem tell_put2 (p b n : Nat) (room v : Int) (g : Str) (e : Bool) (u : Value) (A : List Str) (G : Told) (w : World) (h : Px w p b n room G) (_hn : n < 1000000) (h1 : 1 ≤ v) (h2 : v ≤ 4094) (hg : isGrp g = true) (hv : Strs w u A) (hA : A.length ≤ 60) (hG : SmallT G) (hE : (!e && decide (sasc A = [])) = false) (hS : (G (v, g)).isSome = false) (hR : ∀ L, TKeys G L → (L.length : Int) < room) :
    Calls Try.prog 17 #[.pointer (some ⟨p, 0, none⟩), .int .i64 v, .string (bstr g), .agg #[.bool e, u]] w (RetTell w p b n room (pdiff g (oldT G (v, g)).1 (oldT G (v, g)).2 e (sasc A), 0, updT G (v, g) (e, sasc A))) := by
  have hz : ∀ w, (zeroValue 28).run Try.prog w = .ok (.agg #[.bool false, .slice none 0 0]) w := fun w => Try.zeroValue28 w
  have d1 : decide (v < 1) = false := decide_eq_false (by omega)
  have d2 : decide (4094 < v) = false := decide_eq_false (by omega)
  have hk : okK (v, g) := ⟨by simp [Lit.wf, IntKind.min, IntKind.max, IntKind.bits, IntKind.signed]; omega, isGrp_max hg⟩
  obtain ⟨uo, uc, rfl⟩ := hv.shape
  obtain ⟨hpx, V, hV, hH⟩ := h.parts
  have hlt := h.lt
  obtain ⟨ov, ho, hso, hoi⟩ := hH.at_ (v, g)
  obtain ⟨oo, oc, rfl⟩ := hso.shape
  obtain ⟨LK, hLK, hLn, hlen⟩ := hV.count Try.underlying71
  have hLT := hH.keys hLK
  obtain ⟨W0, hW0⟩ : ∃ W0, W0 = w.alloc (.cells #[.bool e, .slice uo A.length uc] 28) := ⟨_, rfl⟩
  have hb0 : Below w.heap.size w W0 := by rw [hW0]; exact (Below.refl _ _).alloc (Nat.le_refl _) _
  have hs0 : W0.heap.size = w.heap.size + 1 := by rw [hW0]; simp
  have f0 : CBox W0 w.heap.size 28 #[.bool e, .slice uo A.length uc] := by rw [hW0]; exact CBox.new _ rfl
  have HE := Lib.hid (egroup_any g W0)
  rw [hg] at HE
  simp only [if_true] at HE
  have HPX := Lib.hid hpx; have HV := Lib.hid hV; have HH := Lib.hid hH; have HSO := Lib.hid hso; have HUA := Lib.hid hv; have HLT := Lib.hid hlt; have HKO := Lib.hid hk; have HGR := Lib.hid hg; have HSM := Lib.hid hG
  have HB0 := Lib.hid hb0; have F0 := Lib.hid f0; have HS0 := Lib.hid hs0; have HW0 := Lib.hid hW0; have HLT' := Lib.hid hLT; have HO := Lib.hid ho; have HOI := Lib.hid hoi; have HLN := Lib.hid hLn; have HLK := Lib.hid hLK
  obtain ⟨old, hold⟩ : ∃ f, f = oldT G (v, g) := ⟨_, rfl⟩
  have HOLD := Lib.hid hold
  have HO60 := Lib.hid (hG.old (v, g))
  rw [← hold] at HSO HO HO60
  clear h hpx hV hH hb0 hs0 f0 hv hW0 hg hk hlt hG h1 h2 ho hso hoi hLK hLn hlen hLT
  try rw [← hold]
  clear hold
  go_enter Try.func17, Try.ntmps17
  go_upto_region 1 with fail
  rw [← HW0.out]
  clear HW0
  go_wp2_with ((with_reducible refine HE.out.mono ?_); rintro x w1 ⟨m, rfl, hb1⟩; have HB1 := Lib.hid hb1; clear hb1 HE)
  obtain ⟨W2, hW2⟩ : ∃ W2, W2 = w1.alloc (.cells #[.int .i64 v, .string (bstr g)] 78) := ⟨_, rfl⟩
  have hlt := HLT.out; have hs0 := HS0.out; have hs1 : w.heap.size + 1 ≤ w1.heap.size := by have := HB1.out.size; omega
  have hb1 : Below w.heap.size w w1 := HB0.out.trans (HB1.out.mono HB0.out.size)
  have hb2 : Below w.heap.size w W2 := by rw [hW2]; exact hb1.alloc hb1.size _
  have hs2 : W2.heap.size = w1.heap.size + 1 := by rw [hW2]; simp
  have k2 : CBox W2 w1.heap.size 78 #[.int .i64 v, .string (bstr g)] := by rw [hW2]; exact CBox.new _ rfl
  have f2 : CBox W2 w.heap.size 28 #[.bool e, .slice uo A.length uc] := by rw [hW2]; exact (F0.out.below HB1.out F0.out.lt).old _
  have hp2 := HPX.out.below hb2 HPX.out.lt
  have hd : Below W2.heap.size W2 W2.drew := Below.drew (Below.refl _ _)
  have hlk := (HV.out.below (hb2.trans (hd.mono hb2.size)) HV.out.lt).getOk Try.underlying71 (hz W2.drew) (v, g) HKO.out
  rw [HO.out, HOI.out] at hlk
  have hlk' : (Instr.lookup 71 (.map (some b)) (.agg #[.int .i64 v, .string (bstr g)]) true).run Try.prog W2.drew = .ok (.tuple #[.agg #[.bool old.1, .slice oo old.2.length oc], .bool (G (v, g)).isSome]) W2.drew := hlk
  obtain ⟨x0, _⟩ := hp2.at_ 0 _ rfl
  obtain ⟨x1, _⟩ := hp2.at_ 1 _ rfl
  obtain ⟨y0, _⟩ := k2.at_ 0 _ rfl
  obtain ⟨y1, _⟩ := k2.at_ 1 _ rfl
  obtain ⟨W3, hW3⟩ : ∃ W3, W3 = (W2.alloc (.cells #[.bool old.1, .slice oo old.2.length oc] 28)).drew := ⟨_, rfl⟩
  have hb23 : Below W2.heap.size W2 W3 := by rw [hW3]; exact Below.drew ((Below.refl _ _).alloc (Nat.le_refl _) _)
  have hb3 : Below w.heap.size w W3 := hb2.trans (hb23.mono hb2.size)
  have hs3 : W3.heap.size = W2.heap.size + 1 := by rw [hW3]; simp
  have O3 := Lib.hid (show CBox W3 W2.heap.size 28 #[.bool old.1, .slice oo old.2.length oc] from by rw [hW3]; exact (show CBox (W2.alloc _) _ _ _ from CBox.new _ rfl))
  have F3 := Lib.hid (f2.below hb23 f2.lt); have K3 := Lib.hid (k2.below hb23 k2.lt)
  have HB3 := Lib.hid hb3; have HS2 := Lib.hid hs2; have HS3 := Lib.hid hs3; have HS1 := Lib.hid hs1
  have HNO := Lib.hid (norm_any e _ A W3 (HUA.out.mono hb3) (by omega))
  have HW3 := Lib.hid hW3; have HW2 := Lib.hid hW2
  have hd2 : Below W2.heap.size W2 (W2.alloc (.cells #[.bool false, .slice none 0 0] 28)).drew := Below.drew ((Below.refl _ _).alloc (Nat.le_refl _) _)
  have hlk2 := (HV.out.below (hb2.trans (hd2.mono hb2.size)) HV.out.lt).getOk Try.underlying71 (hz (W2.alloc (.cells #[.bool false, .slice none 0 0] 28)).drew) (v, g) HKO.out
  rw [HO.out, HOI.out] at hlk2
  have hlk3 : (Instr.lookup 71 (.map (some b)) (.agg #[.int .i64 v, .string (bstr g)]) true).run Try.prog (W2.alloc (.cells #[.bool false, .slice none 0 0] 28)).drew = .ok (.tuple #[.agg #[.bool old.1, .slice oo old.2.length oc], .bool (G (v, g)).isSome]) (W2.alloc (.cells #[.bool false, .slice none 0 0] 28)).drew := hlk2
  have q1 : p < W2.heap.size := hp2.lt
  have q2 : w1.heap.size < W2.heap.size := k2.lt
  clear hb1 hb2 hs2 k2 f2 hp2 hlk hlk2 hd2 hb23 hb3 hs3 hW3 hW2 F0 HS0 hd hlt hs0 hs1 HOI
  rw [← HW2.out]
  go_cut [13, 14] (fun s13 s14 w' => s13 = .pointer (some ⟨W2.heap.size, 0, none⟩) ∧ s14 = .bool (G (v, g)).isSome ∧ W3 = w')
  case first =>
    clear HPX HV HH HSO HUA HLT HKO HGR HSM HO HLN HOLD HO60 O3 F3 K3 HB3 HS2 HS3 HS1 HNO HW2
    go_region
    all_goals
      go_wp2_with fail
      go_meet
      case rel => exact ⟨rfl, by first | rfl | rw [hS], HW3.out⟩
  case rest =>
  obtain ⟨rfl, rfl, rfl⟩ := hcut
  clear hlk' hlk3 q1 q2 x0 x1 y0 y1 HW3 HW2
  obtain ⟨x0, xf0⟩ := F3.out.at_ 0 _ rfl
  obtain ⟨x1, xf1⟩ := F3.out.at_ 1 _ rfl
  go_upto_region 8 with ((with_reducible refine HNO.out.mono ?_); rintro x w4 ⟨nv, rfl, hns, hb4, hnl⟩; obtain ⟨no, nc, rfl⟩ := hns.shape; have f4 := F3.out.below hb4 F3.out.lt; obtain ⟨z0, zf0⟩ := f4.at_ 0 _ rfl; obtain ⟨z1, zf1⟩ := f4.at_ 1 _ rfl; have HB4 := Lib.hid hb4; have HNS := Lib.hid hns; have HNL := Lib.hid hnl; have F4 := Lib.hid f4; clear hb4 hns hnl f4 x0 x1 xf0 xf1)
  obtain ⟨W5, hW5⟩ : ∃ W5, W5 = (w4.setCell ⟨w.heap.size, 0, none⟩ (.bool e)).setCell ⟨w.heap.size, 1, none⟩ (.slice no (sasc A).length nc) := ⟨_, rfl⟩
  have h1 := HS1.out; have h2 := HS2.out; have h3 := HS3.out; have hlt := HLT.out; have h4 := HB4.out.size; have h5 := HB0.out.size
  have hb5 : Below w.heap.size w W5 := by rw [hW5]; exact ((HB3.out.trans (HB4.out.mono HB3.out.size)).setCell (by simp) _).setCell (by simp) _
  have hs5 : W5.heap.size = w4.heap.size := by rw [hW5]; simp
  have F5 := Lib.hid (show CBox W5 w.heap.size 28 #[.bool e, .slice no (sasc A).length nc] from by rw [hW5]; simpa using (F4.out.set 0 (.bool e)).set 1 (.slice no (sasc A).length nc))
  have K5 := Lib.hid (show CBox W5 w1.heap.size 78 #[.int .i64 v, .string (bstr g)] from by rw [hW5]; exact ((K3.out.below HB4.out K3.out.lt).far (p := ⟨w.heap.size, 0, none⟩) (by simp; omega) _).far (p := ⟨w.heap.size, 1, none⟩) (by simp; omega) _)
  have O5 := Lib.hid (show CBox W5 W2.heap.size 28 #[.bool old.1, .slice oo old.2.length oc] from by rw [hW5]; exact ((O3.out.below HB4.out O3.out.lt).far (p := ⟨w.heap.size, 0, none⟩) (by simp; omega) _).far (p := ⟨w.heap.size, 1, none⟩) (by simp; omega) _)
  have hns5 : Strs W5 (.slice no (sasc A).length nc) (sasc A) := by rw [hW5]; exact (HNS.out.far HNL.out (p := ⟨w.heap.size, 0, none⟩) (by simp; omega) _).far HNL.out (p := ⟨w.heap.size, 1, none⟩) (by simp; omega) _
  have HB5 := Lib.hid hb5; have NS5 := Lib.hid hns5; have HW5 := Lib.hid hW5; have HS5 := Lib.hid hs5
  have HEM := Lib.hid (empty_any e _ (sasc A) W5 hns5)
  have LT := Lib.hid (show w.heap.size < w1.heap.size ∧ w1.heap.size < W2.heap.size ∧ W2.heap.size < W5.heap.size from by omega)
  clear hb5 hs5 hns5 hW5 h1 h2 h3 hlt h4 h5
  rw [← HW5.out]
  clear z0 z1 zf0 zf1 HW5 F3 K3 O3 F4 HNS HNL HB4 HB3 HS1 HS2 HS3 HS5 HB1 HNO HB0
  obtain ⟨x0, _⟩ := F5.out.at_ 0 _ rfl
  obtain ⟨x1, _⟩ := F5.out.at_ 1 _ rfl
  have hR' : decide (room ≤ (LK.length : Int)) = false := decide_eq_false (by have := hR LK HLT'.out; omega)
  clear hR
  go_wp2_with ((with_reducible refine HEM.out.mono ?_); rintro x wE ⟨rfl, hb6⟩; rw [hE]; have HB6 := Lib.hid hb6; clear hb6 HEM x0 x1)
  have hb6 : Below w.heap.size w wE := HB5.out.trans (HB6.out.mono HB5.out.size)
  have hp6 := HPX.out.below hb6 HPX.out.lt
  have hv6 := HV.out.below hb6 HV.out.lt
  have F6 := Lib.hid (F5.out.below HB6.out F5.out.lt); have K6 := Lib.hid (K5.out.below HB6.out K5.out.lt); have O6 := Lib.hid (O5.out.below HB6.out O5.out.lt)
  obtain ⟨x0, _⟩ := hp6.at_ 0 _ rfl
  obtain ⟨x1, _⟩ := hp6.at_ 1 _ rfl
  obtain ⟨y0, _⟩ := K6.out.at_ 0 _ rfl
  obtain ⟨y1, _⟩ := K6.out.at_ 1 _ rfl
  obtain ⟨z0, _⟩ := F6.out.at_ 0 _ rfl
  obtain ⟨z1, _⟩ := F6.out.at_ 1 _ rfl
  have hd : Below wE.heap.size wE wE.drew := Below.drew (Below.refl _ _)
  have HBW6 := Lib.hid hb6
  have P6 := Lib.hid hp6; have V6 := Lib.hid hv6
  clear hd hb6 F6 K6 O6 HBW6 P6 y0 y1 z0 z1
  have hlz : ∀ ty, (Builtin.len_ #[71] ty #[.map (some b)]).run Try.prog wE = .ok (.int .i64 LK.length) wE := fun ty => hv6.len_at Try.underlying71 HLK.out ty
  have hly : ∀ ty a, (Builtin.len_ #[71] ty #[.map (some b)]).run Try.prog (wE.drewN a) = .ok (.int .i64 LK.length) (wE.drewN a) := fun ty a => (hv6.below (below_draws _ (Below.refl _ _) a) hv6.lt).len_at Try.underlying71 HLK.out ty
  clear hp6 hv6 V6
  go_upto_region 10 with fail
  go_cut [62] (fun s62 w' => s62 = .bool false ∧ Drawn wE w')
  case first =>
    clear HPX HV HH HSO HUA HKO HGR HSM HO HLN HOLD HO60 HB5 F5 K5 O5 NS5 HB6 LT HLT' HLK
    go_quiet (fail)
    all_goals
      go_wp2_with fail
      go_meet
      case rel => exact ⟨rfl, _, rfl⟩
  case rest =>
  obtain ⟨rfl, m, hm⟩ := hcut
  have HB6 := Lib.hid (show Below W5.heap.size W5 wc from by rw [hm]; exact below_draws _ HB6.out _)
  obtain ⟨w6, rfl⟩ : ∃ w6, w6 = wc := ⟨_, rfl⟩
  clear x0 x1 hm hlz
  have hb6 : Below w.heap.size w w6 := HB5.out.trans (HB6.out.mono HB5.out.size)
  have hp6 := HPX.out.below hb6 HPX.out.lt
  have hv6 := HV.out.below hb6 HV.out.lt
  have F6 := Lib.hid (F5.out.below HB6.out F5.out.lt); have K6 := Lib.hid (K5.out.below HB6.out K5.out.lt); have O6 := Lib.hid (O5.out.below HB6.out O5.out.lt)
  obtain ⟨x0, _⟩ := hp6.at_ 0 _ rfl
  obtain ⟨x1, _⟩ := hp6.at_ 1 _ rfl
  obtain ⟨y0, _⟩ := K6.out.at_ 0 _ rfl
  obtain ⟨y1, _⟩ := K6.out.at_ 1 _ rfl
  obtain ⟨z0, _⟩ := F6.out.at_ 0 _ rfl
  obtain ⟨z1, _⟩ := F6.out.at_ 1 _ rfl
  have hd : Below w6.heap.size w6 w6.drew := Below.drew (Below.refl _ _)
  have HBW6 := Lib.hid hb6
  have P6 := Lib.hid hp6; have V6 := Lib.hid hv6
  obtain ⟨w7, hrun, hv7, hg7⟩ := (hv6.below hd hv6.lt).put Try.underlying71 (v, g) HKO.out (.agg #[.bool e, .slice no (sasc A).length nc]) (by unfold maxLen; omega)
  have hrun' : (Instr.mapUpdate 71 (.map (some b)) (.agg #[.int .i64 v, .string (bstr g)]) (.agg #[.bool e, .slice no (sasc A).length nc])).run Try.prog w6.drew = .ok () w7 := hrun
  replace hrun := hrun'; clear hrun' hb6 hp6 hv6
  go_upto_region 7 with fail
  replace hg7 := hg7.grown
  have hb07 : w.grownBy w7 (some b) := (grown_below (World.grownBy.refl w (some b)) (HBW6.out.trans (hd.mono HBW6.out.size))).trans hg7
  have hc67 : CKeep w6 w7 := (CKeep.of_below hd).trans (CKeep.of_map (V6.out.below hd V6.out.lt) hg7)
  have hso7 := hc67.strs (HSO.out.mono HBW6.out)
  have hns7 := hc67.strs (NS5.out.mono HB6.out)
  have HDI := Lib.hid (diff_any g old.1 e _ _ old.2 (sasc A) w7 (isGrp_max HGR.out) hso7 hns7 (by have := HO60.out; have := sasc_length A; omega))
  have F7 := Lib.hid (hc67.box F6.out); have O7 := Lib.hid (hc67.box O6.out); have K7 := Lib.hid (hc67.box K6.out); have P7 := Lib.hid (hc67.box P6.out); have V7 := Lib.hid hv7; have HG7 := Lib.hid hb07; have HC7 := Lib.hid ((CKeep.of_below HBW6.out).trans hc67); have NS7 := Lib.hid hns7
  clear hb07 hc67 hso7 hns7 hv7 hg7 hd
  go_region
  clear hrun x0 x1 y0 y1 z0 z1
  obtain ⟨x0, _⟩ := F7.out.at_ 0 _ rfl
  obtain ⟨x1, _⟩ := F7.out.at_ 1 _ rfl
  obtain ⟨y0, _⟩ := O7.out.at_ 0 _ rfl
  obtain ⟨y1, _⟩ := O7.out.at_ 1 _ rfl
  go_wp2_with ((with_reducible refine HDI.out.mono ?_); rintro x w8 ⟨rv, rfl, hrv, hb8⟩; have HRV := Lib.hid hrv; have HB8 := Lib.hid hb8; clear hrv hb8 HDI)
  refine bodyPost_ret (v := .tuple #[rv, .int .i64 0]) (by simp [results, Try.results17, go_sem]) rfl ⟨rv, rfl, HRV.out, ?_, HC7.out.trans (CKeep.of_below HB8.out), grown_below HG7.out HB8.out⟩
  exact (Px.of P7.out V7.out ((HH.out.keep HC7.out).upd (v, g) (e, sasc A) _ NS7.out)).below HB8.out
set_option maxHeartbeats 4000000 in
theorem tell_full (p b n : Nat) (room v : Int) (g : Str) (e : Bool) (u : Value) (A : List Str) (G : Told) (w : World) (h : Px w p b n room G) (_hn : n < 1000000) (h1 : 1 ≤ v) (h2 : v ≤ 4094) (hg : isGrp g = true) (hv : Strs w u A) (hA : A.length ≤ 60) (hG : SmallT G) (hE : (!e && decide (sasc A = [])) = false) (hS : (G (v, g)).isSome = false) (hR : ∃ L, TKeys G L ∧ room ≤ (L.length : Int)) :
    Calls Try.prog 17 #[.pointer (some ⟨p, 0, none⟩), .int .i64 v, .string (bstr g), .agg #[.bool e, u]] w (RetTell w p b n room ([], 5, G)) := by
  have hz : ∀ w, (zeroValue 28).run Try.prog w = .ok (.agg #[.bool false, .slice none 0 0]) w := fun w => Try.zeroValue28 w
  have d1 : decide (v < 1) = false := decide_eq_false (by omega)
  have d2 : decide (4094 < v) = false := decide_eq_false (by omega)
  have hk : okK (v, g) := ⟨by simp [Lit.wf, IntKind.min, IntKind.max, IntKind.bits, IntKind.signed]; omega, isGrp_max hg⟩
  obtain ⟨uo, uc, rfl⟩ := hv.shape
  obtain ⟨hpx, V, hV, hH⟩ := h.parts
  have hlt := h.lt
  obtain ⟨ov, ho, hso, hoi⟩ := hH.at_ (v, g)
  obtain ⟨oo, oc, rfl⟩ := hso.shape
  obtain ⟨LK, hLK, hLn, hlen⟩ := hV.count Try.underlying71
  have hLT := hH.keys hLK
  obtain ⟨W0, hW0⟩ : ∃ W0, W0 = w.alloc (.cells #[.bool e, .slice uo A.length uc] 28) := ⟨_, rfl⟩
  have hb0 : Below w.heap.size w W0 := by rw [hW0]; exact (Below.refl _ _).alloc (Nat.le_refl _) _
  have hs0 : W0.heap.size = w.heap.size + 1 := by rw [hW0]; simp
  have f0 : CBox W0 w.heap.size 28 #[.bool e, .slice uo A.length uc] := by rw [hW0]; exact CBox.new _ rfl
  have HE := Lib.hid (egroup_any g W0)
  rw [hg] at HE
  simp only [if_true] at HE
  have HPX := Lib.hid hpx; have HV := Lib.hid hV; have HH := Lib.hid hH; have HSO := Lib.hid hso; have HUA := Lib.hid hv; have HLT := Lib.hid hlt; have HKO := Lib.hid hk; have HGR := Lib.hid hg; have HSM := Lib.hid hG
  have HB0 := Lib.hid hb0; have F0 := Lib.hid f0; have HS0 := Lib.hid hs0; have HW0 := Lib.hid hW0; have HLT' := Lib.hid hLT; have HO := Lib.hid ho; have HOI := Lib.hid hoi; have HLN := Lib.hid hLn; have HLK := Lib.hid hLK
  obtain ⟨old, hold⟩ : ∃ f, f = oldT G (v, g) := ⟨_, rfl⟩
  have HOLD := Lib.hid hold
  have HO60 := Lib.hid (hG.old (v, g))
  rw [← hold] at HSO HO HO60
  clear h hpx hV hH hb0 hs0 f0 hv hW0 hg hk hlt hG h1 h2 ho hso hoi hLK hLn hlen hLT
  try rw [← hold]
  clear hold
  go_enter Try.func17, Try.ntmps17
  go_upto_region 1 with fail
  rw [← HW0.out]
  clear HW0
  go_wp2_with ((with_reducible refine HE.out.mono ?_); rintro x w1 ⟨m, rfl, hb1⟩; have HB1 := Lib.hid hb1; clear hb1 HE)
  obtain ⟨W2, hW2⟩ : ∃ W2, W2 = w1.alloc (.cells #[.int .i64 v, .string (bstr g)] 78) := ⟨_, rfl⟩
  have hlt := HLT.out; have hs0 := HS0.out; have hs1 : w.heap.size + 1 ≤ w1.heap.size := by have := HB1.out.size; omega
  have hb1 : Below w.heap.size w w1 := HB0.out.trans (HB1.out.mono HB0.out.size)
  have hb2 : Below w.heap.size w W2 := by rw [hW2]; exact hb1.alloc hb1.size _
  have hs2 : W2.heap.size = w1.heap.size + 1 := by rw [hW2]; simp
  have k2 : CBox W2 w1.heap.size 78 #[.int .i64 v, .string (bstr g)] := by rw [hW2]; exact CBox.new _ rfl
  have f2 : CBox W2 w.heap.size 28 #[.bool e, .slice uo A.length uc] := by rw [hW2]; exact (F0.out.below HB1.out F0.out.lt).old _
  have hp2 := HPX.out.below hb2 HPX.out.lt
  have hd : Below W2.heap.size W2 W2.drew := Below.drew (Below.refl _ _)
  have hlk := (HV.out.below (hb2.trans (hd.mono hb2.size)) HV.out.lt).getOk Try.underlying71 (hz W2.drew) (v, g) HKO.out
  rw [HO.out, HOI.out] at hlk
  have hlk' : (Instr.lookup 71 (.map (some b)) (.agg #[.int .i64 v, .string (bstr g)]) true).run Try.prog W2.drew = .ok (.tuple #[.agg #[.bool old.1, .slice oo old.2.length oc], .bool (G (v, g)).isSome]) W2.drew := hlk
  obtain ⟨x0, _⟩ := hp2.at_ 0 _ rfl
  obtain ⟨x1, _⟩ := hp2.at_ 1 _ rfl
  obtain ⟨y0, _⟩ := k2.at_ 0 _ rfl
  obtain ⟨y1, _⟩ := k2.at_ 1 _ rfl
  obtain ⟨W3, hW3⟩ : ∃ W3, W3 = (W2.alloc (.cells #[.bool old.1, .slice oo old.2.length oc] 28)).drew := ⟨_, rfl⟩
  have hb23 : Below W2.heap.size W2 W3 := by rw [hW3]; exact Below.drew ((Below.refl _ _).alloc (Nat.le_refl _) _)
  have hb3 : Below w.heap.size w W3 := hb2.trans (hb23.mono hb2.size)
  have hs3 : W3.heap.size = W2.heap.size + 1 := by rw [hW3]; simp
  have O3 := Lib.hid (show CBox W3 W2.heap.size 28 #[.bool old.1, .slice oo old.2.length oc] from by rw [hW3]; exact (show CBox (W2.alloc _) _ _ _ from CBox.new _ rfl))
  have F3 := Lib.hid (f2.below hb23 f2.lt); have K3 := Lib.hid (k2.below hb23 k2.lt)
  have HB3 := Lib.hid hb3; have HS2 := Lib.hid hs2; have HS3 := Lib.hid hs3; have HS1 := Lib.hid hs1
  have HNO := Lib.hid (norm_any e _ A W3 (HUA.out.mono hb3) (by omega))
  have HW3 := Lib.hid hW3; have HW2 := Lib.hid hW2
  have hd2 : Below W2.heap.size W2 (W2.alloc (.cells #[.bool false, .slice none 0 0] 28)).drew := Below.drew ((Below.refl _ _).alloc (Nat.le_refl _) _)
  have hlk2 := (HV.out.below (hb2.trans (hd2.mono hb2.size)) HV.out.lt).getOk Try.underlying71 (hz (W2.alloc (.cells #[.bool false, .slice none 0 0] 28)).drew) (v, g) HKO.out
  rw [HO.out, HOI.out] at hlk2
  have hlk3 : (Instr.lookup 71 (.map (some b)) (.agg #[.int .i64 v, .string (bstr g)]) true).run Try.prog (W2.alloc (.cells #[.bool false, .slice none 0 0] 28)).drew = .ok (.tuple #[.agg #[.bool old.1, .slice oo old.2.length oc], .bool (G (v, g)).isSome]) (W2.alloc (.cells #[.bool false, .slice none 0 0] 28)).drew := hlk2
  have q1 : p < W2.heap.size := hp2.lt
  have q2 : w1.heap.size < W2.heap.size := k2.lt
  clear hb1 hb2 hs2 k2 f2 hp2 hlk hlk2 hd2 hb23 hb3 hs3 hW3 hW2 F0 HS0 hd hlt hs0 hs1 HOI
  rw [← HW2.out]
  go_cut [13, 14] (fun s13 s14 w' => s13 = .pointer (some ⟨W2.heap.size, 0, none⟩) ∧ s14 = .bool (G (v, g)).isSome ∧ W3 = w')
  case first =>
    clear HPX HV HH HSO HUA HLT HKO HGR HSM HO HLN HOLD HO60 O3 F3 K3 HB3 HS2 HS3 HS1 HNO HW2
    go_region
    all_goals
      go_wp2_with fail
      go_meet
      case rel => exact ⟨rfl, by first | rfl | rw [hS], HW3.out⟩
  case rest =>
  obtain ⟨rfl, rfl, rfl⟩ := hcut
  clear hlk' hlk3 q1 q2 x0 x1 y0 y1 HW3 HW2
  obtain ⟨x0, xf0⟩ := F3.out.at_ 0 _ rfl
  obtain ⟨x1, xf1⟩ := F3.out.at_ 1 _ rfl
  go_upto_region 8 with ((with_reducible refine HNO.out.mono ?_); rintro x w4 ⟨nv, rfl, hns, hb4, hnl⟩; obtain ⟨no, nc, rfl⟩ := hns.shape; have f4 := F3.out.below hb4 F3.out.lt; obtain ⟨z0, zf0⟩ := f4.at_ 0 _ rfl; obtain ⟨z1, zf1⟩ := f4.at_ 1 _ rfl; have HB4 := Lib.hid hb4; have HNS := Lib.hid hns; have HNL := Lib.hid hnl; have F4 := Lib.hid f4; clear hb4 hns hnl f4 x0 x1 xf0 xf1)
  obtain ⟨W5, hW5⟩ : ∃ W5, W5 = (w4.setCell ⟨w.heap.size, 0, none⟩ (.bool e)).setCell ⟨w.heap.size, 1, none⟩ (.slice no (sasc A).length nc) := ⟨_, rfl⟩
  have h1 := HS1.out; have h2 := HS2.out; have h3 := HS3.out; have hlt := HLT.out; have h4 := HB4.out.size; have h5 := HB0.out.size
  have hb5 : Below w.heap.size w W5 := by rw [hW5]; exact ((HB3.out.trans (HB4.out.mono HB3.out.size)).setCell (by simp) _).setCell (by simp) _
  have hs5 : W5.heap.size = w4.heap.size := by rw [hW5]; simp
  have F5 := Lib.hid (show CBox W5 w.heap.size 28 #[.bool e, .slice no (sasc A).length nc] from by rw [hW5]; simpa using (F4.out.set 0 (.bool e)).set 1 (.slice no (sasc A).length nc))
  have K5 := Lib.hid (show CBox W5 w1.heap.size 78 #[.int .i64 v, .string (bstr g)] from by rw [hW5]; exact ((K3.out.below HB4.out K3.out.lt).far (p := ⟨w.heap.size, 0, none⟩) (by simp; omega) _).far (p := ⟨w.heap.size, 1, none⟩) (by simp; omega) _)
  have O5 := Lib.hid (show CBox W5 W2.heap.size 28 #[.bool old.1, .slice oo old.2.length oc] from by rw [hW5]; exact ((O3.out.below HB4.out O3.out.lt).far (p := ⟨w.heap.size, 0, none⟩) (by simp; omega) _).far (p := ⟨w.heap.size, 1, none⟩) (by simp; omega) _)
  have hns5 : Strs W5 (.slice no (sasc A).length nc) (sasc A) := by rw [hW5]; exact (HNS.out.far HNL.out (p := ⟨w.heap.size, 0, none⟩) (by simp; omega) _).far HNL.out (p := ⟨w.heap.size, 1, none⟩) (by simp; omega) _
  have HB5 := Lib.hid hb5; have NS5 := Lib.hid hns5; have HW5 := Lib.hid hW5; have HS5 := Lib.hid hs5
  have HEM := Lib.hid (empty_any e _ (sasc A) W5 hns5)
  have LT := Lib.hid (show w.heap.size < w1.heap.size ∧ w1.heap.size < W2.heap.size ∧ W2.heap.size < W5.heap.size from by omega)
  clear hb5 hs5 hns5 hW5 h1 h2 h3 hlt h4 h5
  rw [← HW5.out]
  clear z0 z1 zf0 zf1 HW5 F3 K3 O3 F4 HNS HNL HB4 HB3 HS1 HS2 HS3 HS5 HB1 HNO HB0
  obtain ⟨x0, _⟩ := F5.out.at_ 0 _ rfl
  obtain ⟨x1, _⟩ := F5.out.at_ 1 _ rfl
  have hR' : decide (room ≤ (LK.length : Int)) = true := decide_eq_true (by obtain ⟨L, h1, h2⟩ := hR; have := h1.len HLT'.out; omega)
  clear hR
  go_wp2_with ((with_reducible refine HEM.out.mono ?_); rintro x wE ⟨rfl, hb6⟩; rw [hE]; have HB6 := Lib.hid hb6; clear hb6 HEM x0 x1)
  have hb6 : Below w.heap.size w wE := HB5.out.trans (HB6.out.mono HB5.out.size)
  have hp6 := HPX.out.below hb6 HPX.out.lt
  have hv6 := HV.out.below hb6 HV.out.lt
  have F6 := Lib.hid (F5.out.below HB6.out F5.out.lt); have K6 := Lib.hid (K5.out.below HB6.out K5.out.lt); have O6 := Lib.hid (O5.out.below HB6.out O5.out.lt)
  obtain ⟨x0, _⟩ := hp6.at_ 0 _ rfl
  obtain ⟨x1, _⟩ := hp6.at_ 1 _ rfl
  obtain ⟨y0, _⟩ := K6.out.at_ 0 _ rfl
  obtain ⟨y1, _⟩ := K6.out.at_ 1 _ rfl
  obtain ⟨z0, _⟩ := F6.out.at_ 0 _ rfl
  obtain ⟨z1, _⟩ := F6.out.at_ 1 _ rfl
  have hd : Below wE.heap.size wE wE.drew := Below.drew (Below.refl _ _)
  have HBW6 := Lib.hid hb6
  have P6 := Lib.hid hp6; have V6 := Lib.hid hv6
  clear hd hb6 F6 K6 O6 HBW6 P6 y0 y1 z0 z1
  have hlz : ∀ ty, (Builtin.len_ #[71] ty #[.map (some b)]).run Try.prog wE = .ok (.int .i64 LK.length) wE := fun ty => hv6.len_at Try.underlying71 HLK.out ty
  have hly : ∀ ty a, (Builtin.len_ #[71] ty #[.map (some b)]).run Try.prog (wE.drewN a) = .ok (.int .i64 LK.length) (wE.drewN a) := fun ty a => (hv6.below (below_draws _ (Below.refl _ _) a) hv6.lt).len_at Try.underlying71 HLK.out ty
  clear hp6 hv6 V6
  go_upto_region 10 with fail
  go_cut [62] (fun s62 w' => s62 = .bool true ∧ Drawn wE w')
  case first =>
    clear HPX HV HH HSO HUA HKO HGR HSM HO HLN HOLD HO60 HB5 F5 K5 O5 NS5 HB6 LT HLT' HLK
    go_quiet (fail)
    all_goals
      go_wp2_with fail
      go_meet
      case rel => exact ⟨rfl, _, rfl⟩
  case rest =>
  obtain ⟨rfl, m, hm⟩ := hcut
  have HB6 := Lib.hid (show Below W5.heap.size W5 wc from by rw [hm]; exact below_draws _ HB6.out _)
  obtain ⟨w6, rfl⟩ : ∃ w6, w6 = wc := ⟨_, rfl⟩
  clear x0 x1 hm hlz
  have hb6 : Below w.heap.size w w6 := HB5.out.trans (HB6.out.mono HB5.out.size)
  have HBW6 := Lib.hid hb6
  clear hb6
  go_wp2_with fail
  refine bodyPost_ret (v := .tuple #[.slice none 0 0, .int .i64 5]) (by simp [results, Try.results17, go_sem]) rfl ⟨_, rfl, Recs.nil _, ?_, CKeep.of_below HBW6.out, grown_below (World.grownBy.refl _ _) HBW6.out⟩
  exact (Px.of HPX.out (HV.out.up (Nat.le_succ n)) HH.out).below HBW6.out
end Go.Proofs.Ytfloipdkhmgibaa

/- (*proxy.Proxy).of: the keys of a VLAN, by group. -/
namespace Go.Proofs.Ytfloipdkhmgibaa
open Go.RowKit Go.Lib Go.Maps Go.Sort Go.Shelf
set_option maxRecDepth 20000
attribute [local go_sem] Oper.semAt_some

theorem infoPk : (Try.prog.info? 78).map (fun i => (i.zero, i.size, i.bytes)) = some (some (.agg #[.int .i64 0, .string ⟨#[]⟩]), 2, 24) := by kernel_rfl

theorem pkeys_in (n : Nat) (mb : Option Nat) (w : World) :
    CallsIn Fence.wide n Try.prog 63 #[.map mb] w fun e w' => e = .returned (.func (.func 76) #[] #[.pointer (some ⟨w.heap.size, 0, none⟩)]) ∧ w' = w.alloc (.cells #[.map mb] 71) := by
  refine callsIn_of_wp Try.func63 rfl trivial ?_ rfl
  simp only [Try.ntmps63, List.size_toArray, List.length_cons, List.length_nil, Nat.reduceAdd, Nat.reduceSub, Array.replicate_succ, Array.replicate_zero, List.push_toArray, List.append_toArray, List.nil_append, List.cons_append]
  gi_wp2
  go_ret
  exact ⟨rfl, rfl⟩

def sel (v : Int) (l : List (Int × Str)) : List (Int × Str) := l.filter fun k => k.1 == v
theorem sel_yes (v : Int) (l : List (Int × Str)) (x : Int × Str) (h : (x.1 == v) = true) : sel v (l ++ [x]) = sel v l ++ [x] := by simp [sel, List.filter_append, h]
theorem sel_no (v : Int) (l : List (Int × Str)) (x : Int × Str) (h : (x.1 == v) = false) : sel v (l ++ [x]) = sel v l := by simp [sel, List.filter_append, h]
theorem sel_len (v : Int) (l : List (Int × Str)) : (sel v l).length ≤ l.length := List.length_filter_le _ _
theorem sel_groups {v : Int} {l : List (Int × Str)} (h : l.Nodup) : ((sel v l).map (·.2)).Nodup := by
  unfold List.Nodup
  rw [List.pairwise_map]
  refine (List.Pairwise.filter _ h).imp_of_mem fun {a b} ha hb hne e => hne ?_
  have h1 := (List.mem_filter.1 ha).2
  have h2 := (List.mem_filter.1 hb).2
  rw [beq_iff_eq] at h1 h2
  exact Prod.ext (h1.trans h2.symm) e

/-- the keys of a VLAN of which something is told, by group -/
def OfK (G : Told) (v : Int) (K : List (Int × Str)) : Prop := K.Pairwise (fun x y => x.2 < y.2) ∧ ∀ k, k ∈ K ↔ k.1 = v ∧ G k ≠ none

theorem kcells_new (W : World) (x : Int × Str) (T : TypeId) : ∀ (j : Nat) (u : Value), (kcells x)[j]? = some u → (W.alloc (.cells #[.int .i64 x.1, .string (bstr x.2)] T)).cell? ((⟨W.heap.size, 0, none⟩ : Addr).add j) = some u := by
  intro j u hj
  have hb : CBox (W.alloc (.cells #[.int .i64 x.1, .string (bstr x.2)] T)) W.heap.size T #[.int .i64 x.1, .string (bstr x.2)] := CBox.new _ rfl
  rw [add_lit]
  match j with
  | 0 => simp [kcells] at hj; subst hj; exact (hb.at_ 0 _ rfl).1
  | 1 => simp [kcells] at hj; subst hj; exact (hb.at_ 1 _ rfl).1
  | j + 2 => simp [kcells] at hj
theorem kcells_one (x : Int × Str) : ∀ u ∈ kcells x, u.oneCell' = true := by
  intro u hu
  simp [kcells] at hu
  rcases hu with rfl | rfl <;> rfl
theorem cbox_own (B : Nat) (T : TypeId) (cs : Array Value) : Own (fun (_ : Unit) W => CBox W B T cs) := fun _ X Y row hs hg hrow =>
  hs.grown hg (fun e' => by obtain ⟨o, ho, hc⟩ := hrow B e'.symm; rw [show X.heap[B]? = _ from hs] at ho; cases ho; cases hc)
theorem ckeep_putObj {W : World} {l : Nat} {o : Obj} (o' : Obj) (hl : W.heap[l]? = some o) (ho : o.isCells = false) : CKeep W (W.putObj l o') :=
  ⟨by simp, fun j cs T fr e => by
    by_cases h : j = l
    · subst h; rw [hl] at e; injection e with e; subst e; cases ho
    · exact (World.putObj_heap_other h).trans e⟩

/-- what has come so far of a VLAN lies in a slice of the call's own -/
def OfRow (b0 B : Nat) (v : Int) (pre : List (Int × Str)) (W : World) : Prop := ∃ u, Boxed W B 86 u ∧ W.ownsRow b0 78 2 u (sel v pre).length ((sel v pre).flatMap kcells) ∧ True
theorem OfRow.own (b0 B : Nat) (v : Int) : Own (OfRow b0 B v) := holdsRow_own b0 B 86 78 2 (fun pre => (sel v pre).length) (fun pre => (sel v pre).flatMap kcells) (fun _ _ => True)
theorem OfRow.no {b0 B : Nat} {v : Int} {pre : List (Int × Str)} {x : Int × Str} {W : World} (h : OfRow b0 B v pre W) (hx : (x.1 == v) = false) : OfRow b0 B v (pre ++ [x]) W := by unfold OfRow; rw [sel_no v pre x hx]; exact h
theorem OfRow.yes {b0 B : Nat} {v : Int} {pre : List (Int × Str)} {x : Int × Str} {W : World} {u : Value} (hx : (x.1 == v) = true) (hu : Boxed W B 86 u) (hr : W.ownsRow b0 78 2 u ((sel v pre).length + 1) ((sel v pre).flatMap kcells ++ kcells x)) : OfRow b0 B v (pre ++ [x]) W := by
  unfold OfRow
  rw [sel_yes v pre x hx]
  exact ⟨u, hu, by simpa using hr, trivial⟩

def RetOf (G : Told) (v : Int) (n : Nat) (w : World) (e : Ending) (w' : World) : Prop := ∃ u K, e = .returned u ∧ Kys w' u K ∧ OfK G v K ∧ K.length ≤ n ∧ Below w.heap.size w w'

set_option maxRecDepth 100000 in
set_option maxHeartbeats 4000000 in
theorem of_any (p b n : Nat) (room v : Int) (G : Told) (w : World) (h : Px w p b n room G) (hn : n ≤ 1000000) :
    Calls Try.prog 42 #[.pointer (some ⟨p, 0, none⟩), .int .i64 v] w (RetOf G v n w) := by
  obtain ⟨hpx, V, hV, hH⟩ := h.parts
  obtain ⟨i0, hi, hz0, hz1, hz2⟩ := info_parts infoPk
  have hlt := h.lt
  obtain ⟨LK, hLK, hLn, hLx⟩ := hV.count Try.underlying71
  have HLEN := Lib.hid (show ∀ L, KeysV V L → L.length ≤ n from fun L hL => by rw [((List.perm_ext_iff_of_nodup hL.1 hLK.1).2 fun k => (hL.2 k).trans (hLK.2 k).symm).length_eq]; exact hLn)
  have HKG := Lib.hid (show ∀ L, KeysV V L → TKeys G L from fun L hL => hH.keys hL)
  have HV := Lib.hid hV
  have hmm : maxLen = 9223372036854775807 := rfl
  have hp := hlt.1
  obtain ⟨x1, xf1⟩ := hpx.at_ 1 _ rfl
  clear h hpx hH hLK hLn hLx LK hlt
  refine (callsIn_wide (n := 6)).1 ?_
  refine callsIn_of_wp_marks Try.func42 rfl trivial ?_ rfl
  simp only [Try.ntmps42, List.size_toArray, List.length_cons, List.length_nil, Nat.reduceAdd, Nat.reduceSub, Array.replicate_succ, Array.replicate_zero, List.push_toArray, List.append_toArray, List.nil_append, List.cons_append]
  gi_wp2_with (refine ⟨trivial, ?_⟩; gi_at_call 63; refine (pkeys_in _ _ _).mono ?_; rintro e w' ⟨rfl, rfl⟩)
  have bV := Boxed.new w 3 (.int .i64 v)
  have hB1 : Below w.heap.size w (w.alloc (.cells #[.int .i64 v] 3)) := (Below.refl _ w).alloc (Nat.le_refl _) _
  have bS := Boxed.new (w.alloc (.cells #[.int .i64 v] 3)) 86 (.slice none 0 0)
  have bM := Boxed.new ((w.alloc (.cells #[.int .i64 v] 3)).alloc (.cells #[.slice none 0 0] 86)) 71 (.map (some b))
  have hB0 : Below w.heap.size w (((w.alloc (.cells #[.int .i64 v] 3)).alloc (.cells #[.slice none 0 0] 86)).alloc (.cells #[.map (some b)] 71)) := (hB1.alloc hB1.size _).alloc (by rw [World.size_alloc, World.size_alloc]; omega) _
  replace bS := bS.alloc (.cells #[.map (some b)] 71)
  replace bV := (bV.alloc (.cells #[.slice none 0 0] 86)).alloc (.cells #[.map (some b)] 71)
  have hsz : (((w.alloc (.cells #[.int .i64 v] 3)).alloc (.cells #[.slice none 0 0] 86)).alloc (.cells #[.map (some b)] 71)).heap.size = w.heap.size + 3 := by rw [World.size_alloc, World.size_alloc, World.size_alloc]
  simp only [World.size_alloc] at bS bM
  obtain ⟨W0, hW0⟩ : ∃ W0, ((w.alloc (.cells #[.int .i64 v] 3)).alloc (.cells #[.slice none 0 0] 86)).alloc (.cells #[.map (some b)] 71) = W0 := ⟨_, rfl⟩
  rw [hW0] at bV bS bM hB0 hsz ⊢
  clear hW0 hB1
  have hV0 := hV.below hB0 hV.lt
  refine wpIn_rangeFunc_ownH rfl (by decide) (gf := 76) (lb := #[.pointer (some ⟨w.heap.size + 1 + 1, 0, none⟩)]) rfl trivial (enters_of Try.func76 (by kernel_rfl) rfl)
    (pkeys_stops _ (by decide) (w.heap.size + 1 + 1) b n V W0 (by omega) bM.cell hV0) walksK_t walksK_b (Below.refl _ _) (fun _ => rfl)
    (fun pre W => (OfRow w.heap.size (w.heap.size + 1) v pre W ∧ Boxed W w.heap.size 3 (.int .i64 v)) ∧ Below w.heap.size w W)
    (fun _ _ _ => False)
    (OwnFrom.and (OwnFrom.and (Own.from (OfRow.own _ _ _) _) (Own.from (boxed_own _ _ _) _)) (ownFrom_below (Nat.le_refl _) (by omega)))
    (fun _ _ _ _ _ hs _ _ => hs)
    ⟨⟨⟨_, bS, World.ownsRow_nil _ _ _ _, trivial⟩, bV⟩, hB0⟩
    (fun x a' W => ∃ Bx, w.heap.size + 1 < Bx ∧ CBox W Bx 78 #[.int .i64 x.1, .string (bstr x.2)] ∧ a' = { tmps := #[.pointer (some ⟨p, 0, none⟩), .int .i64 v, undef, .pointer (some ⟨w.heap.size, 0, none⟩), .slice none 0 0, .pointer (some ⟨w.heap.size + 1, 0, none⟩), .pointer (some ⟨Bx, 0, none⟩), .pointer (some ⟨p, 0, none⟩), .bool false, .pointer (some ⟨p, 0, none⟩), .pointer (some ⟨p, 0, none⟩), .pointer (some ⟨p, 1, none⟩), .map (some b), .func (.func 76) #[] #[.pointer (some ⟨w.heap.size + 1 + 1, 0, none⟩)], encK x, undef, undef, undef, undef, undef, undef, undef, undef, undef, undef, undef], defers := [] })
    (fun x a' _ X Y row hs hg hr => by obtain ⟨Bx, h1, h2, h3⟩ := hs; exact ⟨Bx, h1, cbox_own Bx _ _ () X Y row h2 hg (fun r e => (hr r e).2), h3⟩)
    ?assign ?body ?done ?stop
  case assign =>
    rintro l pre ⟨xv, xg⟩ W K ⟨⟨⟨u, hu, hrow, _⟩, hbv⟩, hW⟩ hK
    have hWs := hW.size
    have hul := hu.lt
    simp only [encK]
    gi_wp2
    exact hK _ _ ((KeepsOthers.alloc _ _).from _) (KeepsOthers.alloc _ _).walks ⟨⟨⟨u, hu.alloc _, hrow.alloc _, trivial⟩, hbv.alloc _⟩, hW.alloc hWs _⟩ ⟨W.heap.size, hul, CBox.new _ rfl, rfl⟩
  case body =>
    rintro l pre ⟨xv, xg⟩ a' W hl hr ⟨⟨⟨u, hu, hrow, _⟩, hbv⟩, hW⟩ ⟨Bx, hBx, bX, rfl⟩ hlt
    have cv := hbv.cell
    have cu := hu.cell
    obtain ⟨k0, _⟩ := bX.at_ 0 _ rfl
    obtain ⟨k1, _⟩ := bX.at_ 1 _ rfl
    have HSL := Lib.hid (show (sel v pre).length + 1 ≤ 1000000 from by have := sel_len v pre; omega)
    have HWS := Lib.hid hW.size
    clear hlt hr
    cases he : (xv == v)
    · have HN := Lib.hid (OfRow.no (x := (xv, xg)) ⟨u, hu, hrow, trivial⟩ he)
      gi_wp2
      exact ⟨KeepsFrom.refl _ _, (KeepsOthers.refl W).walks, ⟨⟨HN.out, hbv⟩, hW⟩⟩
    · have HE := Lib.hid he
      gi_wp2_with (gi_at_builtin; refine wpListIn_append_own _ rfl _ _ 86 rfl w.heap.size 78 i0 (.agg #[.int .i64 0, .string ⟨#[]⟩]) 2 24 Try.underlying86 hi hz0 hz1 hz2 rfl (by decide) _ _ _ rfl (hrow.alloc _) ⟨W.heap.size, 0, none⟩ 1 1 (kcells (xv, xg)) rfl rfl (kcells_new _ (xv, xg) _) (kcells_one _) (by have := HSL.out; omega) (by have := HSL.out; omega) (by have := HWS.out; simp; omega) ?_; intro v' w1 hown' hgrow _; obtain ⟨g', cap', rfl⟩ := ownsRow_succ hown'; obtain ⟨hv1, hv2, hr2, hk2, hb2⟩ := hu.appended (by decide) hrow HWS.out (by omega) hown' hgrow; have hc1 := hv1.cell; have hf1 := hv1.frozen)
      exact ⟨hk2.from _, hk2.walks, ⟨OfRow.yes (x := (xv, xg)) HE.out hv2 hr2, ((hbv.alloc _).kept hgrow (hbv.not_row (by decide) hrow)).other (by omega) _⟩, hW.trans hb2⟩
  case done =>
    rintro D ys W hD hys ⟨⟨⟨u, hu, hrow, _⟩, hbv⟩, hW⟩ hK
    have HS := Lib.hid (ksort_any hrow (by have := HLEN.out ys hys; have := sel_len v ys; omega) (sel_groups hys.1))
    have hne : some D ≠ u.ownBlock := by
      rcases hrow.2 with ⟨e, _⟩ | ⟨g, cap', cur, e, _, hgb, _⟩
      · rw [e]; simp [Value.ownBlock]
      · rw [e]
        intro e'
        simp [Value.ownBlock] at e'
        subst e'
        rw [hgb] at hK
        cases hK
    have HO := Lib.hid (fun w2 (hg : W.grownBy w2 u.ownBlock) => And.intro (hu.kept hg (hu.not_row (by decide) hrow)) (And.intro ((hg.block D (Array.getElem?_eq_some_iff.1 hK).1 hne).trans hK) (hW.grown hg hW.size (fun k e => (hrow.lt k e).1))))
    have HM := Lib.hid (show ∀ K', K'.Perm (sel v ys) → K'.Pairwise (fun x y => x.2 < y.2) → OfK G v K' ∧ K'.length ≤ n from fun K' h1 h2 => ⟨⟨h2, fun k => by
      have hk := (HKG.out ys hys).2 k
      rw [h1.mem_iff, sel, List.mem_filter, hk, beq_iff_eq]
      exact And.comm⟩, by rw [h1.length_eq]; exact Nat.le_trans (sel_len v ys) (HLEN.out ys hys)⟩)
    have cu := hu.cell
    obtain ⟨ao, cap, rfl⟩ : ∃ ao cap, u = .slice ao (sel v ys).length cap := by
      rcases hrow.2 with ⟨e, h0⟩ | ⟨g, cap', cur, e, _⟩
      · exact ⟨none, 0, by rw [e, h0]⟩
      · exact ⟨_, _, e⟩
    clear hys hu hbv hW hK hne hrow
    gi_wp2_with (refine ⟨trivial, ?_⟩; gi_at_call 64; refine (callsIn_wide.2 HS.out).mono ?_; rintro e w2 ⟨rfl, hg, K', hp1, hp2, hk⟩; obtain ⟨hu2, hK2, hW2⟩ := HO.out w2 hg; have HK := Lib.hid (And.intro hk (HM.out K' hp1 hp2)); have cu2 := hu2.cell; clear hg hp1 hp2 hk HS HO HM cu)
    refine ⟨by simp, .inl ⟨_, _, rfl, run_takeDeferred hK2, ?_⟩⟩
    exact ⟨_, results_tmp rfl _ _ _, _, K', rfl, HK.out.1.keep (ckeep_putObj _ hK2 rfl), HK.out.2.1, HK.out.2.2, hW2.trans (belowK_b (w := w) (Nat.le_refl _) w2 D _ _ (by omega) hK2 rfl rfl)⟩
  case stop =>
    rintro D c pre W _ _ h _
    exact h.elim

theorem of_nil (v : Int) (w : World) : Calls Try.prog 42 #[.pointer none, .int .i64 v] w fun e w' => e = .returned (.slice none 0 0) ∧ Below w.heap.size w w' := by
  have hB0 : Below w.heap.size w (w.alloc (.cells #[.int .i64 v] 3)) := (Below.refl _ w).alloc (Nat.le_refl _) _
  have HB := Lib.hid hB0
  clear hB0
  go_enter Try.func42, Try.ntmps42
  go_wp2
  go_ret
  exact ⟨rfl, HB.out⟩
end Go.Proofs.Ytfloipdkhmgibaa
