/- RouterStays' body, walked. -/
import Derived.Test.YtmhldokaphlppaaRForget
import Derived.Deep.DeepCutAuto
import Derived.Deep.RegionHeld3
import Derived.IntWalk
namespace Go.Proofs.Ytmhldokaphlppaa
open Go.RowKit Go.Maps Go.Sort

/-- the calls of a script, in memory -/
def Ops (w : World) (v : Value) (L : List (Int × Int × Int × Int)) : Prop :=
  ∃ ao cap b off, v = .slice ao L.length cap ∧ (L = [] ∨ ao = some ⟨b, off, none⟩) ∧
    (∀ k, k < L.length → b < w.heap.size ∧ w.cell? ⟨b, off + k * 4, none⟩ = some (.int .i64 (L.getD k (0, 0, 0, 0)).1) ∧ w.cell? ⟨b, off + k * 4 + 1, none⟩ = some (.int .i64 (L.getD k (0, 0, 0, 0)).2.1) ∧
      w.cell? ⟨b, off + k * 4 + 2, none⟩ = some (.int .i64 (L.getD k (0, 0, 0, 0)).2.2.1) ∧ w.cell? ⟨b, off + k * 4 + 3, none⟩ = some (.int .i64 (L.getD k (0, 0, 0, 0)).2.2.2))

theorem Ops.facts {w : World} {v : Value} {L : List (Int × Int × Int × Int)} (h : Ops w v L) :
    ∃ b off, (∀ ty w', (Builtin.len_ #[35] ty #[v]).run Try.prog w' = .ok (.int .i64 L.length) w') ∧
      (∀ k, k < L.length → ∀ w', (Instr.indexAt 35 v (.int .i64 k)).run Try.prog w' = .ok (.pointer (some ⟨b, off + k * 4, none⟩)) w') ∧
      (∀ k, k < L.length → ∃ d x y z, b < w.heap.size ∧ w.cell? ⟨b, off + k * 4, none⟩ = some (.int .i64 d) ∧ w.cell? ⟨b, off + k * 4 + 1, none⟩ = some (.int .i64 x) ∧ w.cell? ⟨b, off + k * 4 + 2, none⟩ = some (.int .i64 y) ∧ w.cell? ⟨b, off + k * 4 + 3, none⟩ = some (.int .i64 z)) := by
  obtain ⟨ao, cap, b, off, rfl, h0, h3⟩ := h
  refine ⟨b, off, fun ty w' => run_len_any Try.underlying35 ao L.length cap ty w', fun k hk w' => ?_, fun k hk => ⟨_, _, _, _, h3 k hk⟩⟩
  rcases h0 with h0 | rfl
  · subst h0; exact absurd hk (by simp)
  · exact run_index_any (P := Try.prog) (s := 4) Try.underlying35 (fun w => by kernel_rfl) b off L.length cap k hk w'

noncomputable def fixF (v port : Int) : DataW Unit := (.map [] : DataW Unit).put (plKey v port) (.lit (.bool true))

theorem fixF_same (v port : Int) : has (fixF v port) (plKey v port) = true := has_put_same isMap_empty (plKey_isKey v port) _
theorem fixF_other (v port : Int) {k : Lit} (h : k ≠ plKey v port) : has (fixF v port) k = false := by
  unfold fixF
  rw [has_put_other h]; rfl

/-- a list that is told, asked for one port -/
theorem told_any {B p bf bh nf nh : Nat} {age : Int} {F D : DataW Unit} (v now x : Int) (w : World) (h : PS B w p bf bh nf nh age F D) (hn : nf + nh ≤ 1000) (hv : (Lit.int .i64 v).wf = true) (hx : (Lit.int .i64 x).wf = true) :
    Calls Try.prog 8 #[.pointer (some ⟨p, 0, none⟩), .int .i64 v, .int .i64 now] w fun e w' => ∃ o L, e = .returned o ∧ Ints w' o L ∧ L.contains x = (has F (plKey v x) || fresh D age now (plKey v x)) ∧ Below w.heap.size w w' :=
  (list_any p bf bh nf nh age v now F D w h.box h.fix h.hrd hn hv).mono fun _ _ ⟨o, L, h1, h2, _, h4, h5⟩ => ⟨o, L, h1, h2, by
    rw [Bool.eq_iff_iff, List.contains_iff_mem, h4 x hx, Bool.or_eq_true], h5⟩

theorem told_drew {B p bf bh nf nh : Nat} {age : Int} {F D : DataW Unit} (q : Bool) (v now x : Int) (w : World) (h : PS B w p bf bh nf nh age F D) (hn : nf + nh ≤ 1000) (hv : (Lit.int .i64 v).wf = true) (hx : (Lit.int .i64 x).wf = true) (hq : (has F (plKey v x) || fresh D age now (plKey v x)) = q) :
    Calls Try.prog 8 #[.pointer (some ⟨p, 0, none⟩), .int .i64 v, .int .i64 now] w.drew fun e w' => ∃ o L, e = .returned o ∧ Ints w' o L ∧ L.contains x = q ∧ Below w.heap.size w w' :=
  (told_any v now x w.drew (h.mono (Below.drew (Below.refl _ w))) hn hv hx).mono fun _ _ ⟨o, L, h1, h2, h3, h4⟩ => ⟨o, L, h1, h2, h3.trans hq, (Below.drew (Below.refl _ w)).trans h4⟩

theorem has_true (o : Value) (L : List Int) (x : Int) (w : World) (h : Ints w o L) (hx : L.contains x = true) : Calls Try.prog 12 #[o, .int .i64 x] w fun e w' => e = .returned (.bool true) ∧ w = w' := by
  have := has_any o L x w h
  rwa [hx] at this
theorem has_false (o : Value) (L : List Int) (x : Int) (w : World) (h : Ints w o L) (hx : L.contains x = false) : Calls Try.prog 12 #[o, .int .i64 x] w fun e w' => e = .returned (.bool false) ∧ w = w' := by
  have := has_any o L x w h
  rwa [hx] at this

theorem PS.base {B B' : Nat} {w : World} {p bf bh nf nh : Nat} {age : Int} {F D : DataW Unit} (h : PS B w p bf bh nf nh age F D) (hB : B' ≤ B) : PS B' w p bf bh nf nh age F D :=
  ⟨h.box, h.fix, h.hrd, h.ne, Nat.le_trans hB h.bp, Nat.le_trans hB h.bbf, Nat.le_trans hB h.bbh⟩

set_option maxHeartbeats 8000000 in
set_option maxRecDepth 100000 in
theorem law_stays (age v port : Int) (vs : Value) (L : List (Int × Int × Int × Int)) (w : World) (h : Ops w vs L) (hwv : (Lit.int .i64 v).wf = true) (hwp : (Lit.int .i64 port).wf = true) :
    Calls Try.prog 4 #[.agg #[.int .i64 age, .int .i64 v, .int .i64 port, vs]] w (RetV w (.bool true)) := by
  obtain ⟨b, off, hlen, hidx, hc⟩ := h.facts
  obtain ⟨so, sn, sc, rfl⟩ : ∃ so sn sc, vs = .slice so sn sc := by obtain ⟨ao, cap, _, _, e, _⟩ := h; exact ⟨_, _, _, e⟩
  clear h
  have HI := Lib.hid hidx
  have HC := Lib.hid hc
  clear hidx hc
  have hb0 : ∀ n, Below w.heap.size w ((w.alloc (.cells #[.int .i64 age, .int .i64 v, .int .i64 port, .slice so sn sc] 37)).drewN n) := fun n => below_draws _ ((Below.refl _ _).alloc (Nat.le_refl _) _) n
  have HB0 := Lib.hid hb0
  clear hb0
  by_cases ha : 1 ≤ age ∧ age ≤ 1000000
  · obtain ⟨ha1, ha2⟩ := ha
    go_enter Try.func4, Try.ntmps4
    go_wp2
    go_quiet (fail)
    go_wp2_with ((with_reducible refine (new_ok age _ ha1 ha2).mono ?_); rintro e w1 ⟨p, bf, bh, rfl, hps, hb⟩; have H1 := Lib.hid (LS.mk (w := w) (hps.base (HB0.out nq).size) ((HB0.out nq).trans (hb.mono (HB0.out nq).size))); clear hps hb)
    cases hm : mayB v port
    · refine (fix_bad v port _ hm).mono ?_
      rintro e w2 ⟨rfl, hb⟩
      have H2 := Lib.hid (H1.out.step hb)
      clear hb
      go_wp2_with fail
      refine (live_any _).mono ?_
      rintro e w3 ⟨rfl, hb⟩
      have H3 := Lib.hid (H2.out.step hb)
      clear hb
      go_wp2
      go_ret
      exact ⟨rfl, H3.out.bel⟩
    · refine (fix_ok v port _ H1.out.ps (by decide) hm).mono ?_
      rintro e w2 ⟨rfl, hps, hb⟩
      have H2 : Hid (LS w w2 p bf bh 1 0 age (fixF v port) (.map [])) := Lib.hid (H1.out.turn hps hb)
      clear hps hb
      go_wp2_with fail
      go_loopw [10] (fun i wr => ∃ (k nh : Nat) (D : DataW Unit), i = .int .i64 k ∧ k ≤ L.length ∧ k ≤ 60 ∧ nh ≤ k ∧ LS w wr p bf bh 1 nh age (fixF v port) D) (fun i _ => L.length - (intOf i).toNat)
      case atStart => exact ⟨0, 0, _, rfl, Nat.zero_le _, by omega, Nat.le_refl _, H2.out⟩
      case round =>
        obtain ⟨k, nh, D, rfl, hk, hk60, hnk, hls⟩ := hrel
        have HS := Lib.hid hls
        clear hls
        by_cases hlt : k < L.length ∧ k < 60
        · obtain ⟨hlt, h60⟩ := hlt
          obtain ⟨d, x, y, z, hbb, c0, c1, c2, c3⟩ := HC.out k hlt
          have hp := HI.out k hlt
          have c0 := (HS.out.bel.cell (p := ⟨b, off + k * 4, none⟩) hbb).trans c0
          have c1 := (HS.out.bel.cell (p := ⟨b, off + k * 4 + 1, none⟩) hbb).trans c1
          have c2 := (HS.out.bel.cell (p := ⟨b, off + k * 4 + 2, none⟩) hbb).trans c2
          have c3 := (HS.out.bel.cell (p := ⟨b, off + k * 4 + 3, none⟩) hbb).trans c3
          -- THE WAYS
          have hb1 : Below wr.heap.size wr (wr.alloc (.cells #[.int .i64 d, .int .i64 x, .int .i64 y, .int .i64 z] 23)) := (Below.refl _ _).alloc (Nat.le_refl _) _
          have H1 := Lib.hid (HS.out.step hb1)
          have hbox := heap_alloc_new wr (.cells #[.int .i64 d, .int .i64 x, .int .i64 y, .int .i64 z] 23)
          have hlt1 : wr.heap.size < (wr.alloc (.cells #[.int .i64 d, .int .i64 x, .int .i64 y, .int .i64 z] 23)).heap.size := by simp
          have hnb : wr.heap.size ≠ bh := fun e => by have := HS.out.ps.hrd.lt; omega
          have d1 := cell_of hbox 1 _ rfl
          have d2 := cell_of hbox 2 _ rfl
          have d3 := cell_of hbox 3 _ rfl
          have HK := Lib.hid (fun (w' : World) (hb : (wr.alloc (.cells #[.int .i64 d, .int .i64 x, .int .i64 y, .int .i64 z] 23)).grownBy w' (some bh)) => And.intro (And.intro ((kept_cell hb hlt1 hnb (k := 1)).trans d1) (And.intro ((kept_cell hb hlt1 hnb (k := 2)).trans d2) ((kept_cell hb hlt1 hnb (k := 3)).trans d3))) ((kept_cell hb hlt1 hnb (k := 3)).trans d3))
          clear hb1 hbox hlt1 hnb d1 d2 d3
          by_cases hd1 : d = 1
          · have e1 : (d == 1) = true := by simp [hd1]
            clear hd1
            by_cases hok : mayB x y = true ∧ 0 ≤ z ∧ z ≤ 1099511627776
            · obtain ⟨hm1, hz0, hz1⟩ := hok
              obtain ⟨hwx, hwy⟩ := mayB_wf hm1
              have hS := seen_ok x y z _ H1.out.ps (by omega) hm1 hz0 hz1
              have HSE := Lib.hid hS
              clear hS
              go_wp2_with fail
              refine HSE.out.mono ?_
              rintro e w6 ⟨rfl, hps6, hg6⟩
              have H6 := Lib.hid (H1.out.turn hps6 (H1.out.ps.below hg6))
              have hcells := (HK.out w6 hg6).1
              obtain ⟨c61, c62, c63⟩ := hcells
              have hlt6 : wr.heap.size < w6.heap.size := Nat.lt_of_lt_of_le (by simp) hg6.size
              have HK6 := Lib.hid (fun (w' : World) (hb : Below w6.heap.size w6 w') => And.intro (And.intro ((hb.cell (p := ⟨wr.heap.size, 1, none⟩) hlt6).trans c61) (And.intro ((hb.cell (p := ⟨wr.heap.size, 2, none⟩) hlt6).trans c62) ((hb.cell (p := ⟨wr.heap.size, 3, none⟩) hlt6).trans c63))) hlt6)
              have hD := HS.out.ps.hrd.isMap
              have hw64 : wrap64 (z + age) = z + age := by simp only [wrap64]; omega
              have HB17 := Lib.hid (told_drew true x (z + age - 1) y w6 H6.out.ps (by omega) hwx hwy (by rw [fresh_put_same hD, hw64, decide_eq_true (show z + age - 1 < z + age by omega), Bool.or_true]))
              have s1 : IntKind.i64.wrap (z + age) = z + age := IntWalk.i64_in _ (by omega)
              have s2 : IntKind.i64.wrap (z + age - 1) = z + age - 1 := IntWalk.i64_in _ (by omega)
              have s3 : wrap64 (z + age - 1) = z + age - 1 := by simp only [wrap64]; omega
              clear hps6 hg6 hlt6
              go_wp2_with fail
              go_region_held3 (fun w' => w'.cell? ⟨wr.heap.size, 1, none⟩ = some (.int .i64 x) ∧ w'.cell? ⟨wr.heap.size, 2, none⟩ = some (.int .i64 y) ∧ w'.cell? ⟨wr.heap.size, 3, none⟩ = some (.int .i64 z)) (first | exact (HK6.out _ (Below.drew (Below.refl _ w6))).1 | exact (HK6.out _ HB7.out).1) (first | ((with_reducible refine HB17.out.mono ?_); rintro e w7 ⟨o7, L7, rfl, hi7, hc7, hb7⟩; have HH7 := Lib.hid (has_true o7 L7 y w7 hi7 hc7); have HB7 := Lib.hid hb7; clear hi7 hc7 hb7) | ((with_reducible refine HH7.out.mono ?_); rintro e w8 ⟨rfl, rfl⟩))
              have H9 := Lib.hid (H6.out.step HB7.out)
              have HK9 := Lib.hid (fun (w' : World) (hb : Below w7.heap.size w7 w') => have h := HK6.out w' (HB7.out.trans (hb.mono HB7.out.size)); And.intro h.1 h.1.2.2)
              have hcells := (HK6.out w7 HB7.out).1
              obtain ⟨c71, c72, c73⟩ := hcells
              clear c61 c62 c63
              by_cases hxv : x = v
              · have q1 : (x != v) = false := by simp [hxv]
                by_cases hyp : y = port
                · have q2 : (y != port) = false := by simp [hyp]
                  clear hxv hyp
                  go_wp2_with fail
                  go_quiet (fail)
                  have HT := Lib.hid (And.intro (H9.out.step (below_draws _ (Below.refl _ w7) nq)) (And.intro (show nh + 1 ≤ k + 1 by omega) (HK9.out _ (below_draws _ (Below.refl _ w7) nq)).2))
                  have cz := HT.out.2.2
                  go_wp2_with fail
                  refine (told_any v z port _ HT.out.1.ps (by omega) hwv hwp).mono ?_
                  rintro e w17 ⟨o17, L17, rfl, hi17, hc17, hb17⟩
                  have H17 := Lib.hid (HT.out.1.step hb17)
                  rw [fixF_same, Bool.true_or] at hc17
                  have HH := Lib.hid (has_true o17 L17 port w17 hi17 hc17)
                  clear hi17 hc17 hb17
                  go_wp2_with fail
                  refine HH.out.mono ?_
                  rintro e w18 ⟨rfl, rfl⟩
                  go_wp2
                  go_roundw
                  case rel => exact ⟨k + 1, _, _, by go_num, by omega, by omega, HT.out.2.1, H17.out⟩
                  case measure => simp [intOf]; omega
                · have q2 : (y != port) = true := by simp [hyp]
                  have hne : plKey x y ≠ plKey v port := fun e => by
                    obtain ⟨e1, e2⟩ := key_inj hwx hwy hwv hwp e
                    omega
                  have HB20 := Lib.hid (told_drew false x (z + age) y w7 H9.out.ps (by omega) hwx hwy (by rw [fixF_other v port hne, fresh_put_same hD, hw64]; simp))
                  clear hne hxv hyp
                  go_wp2_with fail
                  go_region_held3 (fun w' => w'.cell? ⟨wr.heap.size, 1, none⟩ = some (.int .i64 x) ∧ w'.cell? ⟨wr.heap.size, 2, none⟩ = some (.int .i64 y) ∧ w'.cell? ⟨wr.heap.size, 3, none⟩ = some (.int .i64 z)) (first | exact (HK9.out _ (Below.drew (Below.refl _ w7))).1 | exact (HK9.out _ HB10.out).1) (first | ((with_reducible refine HB20.out.mono ?_); rintro e w10 ⟨o10, L10, rfl, hi10, hc10, hb10⟩; have HH10 := Lib.hid (has_false o10 L10 y w10 hi10 hc10); have HB10 := Lib.hid hb10; clear hi10 hc10 hb10) | ((with_reducible refine HH10.out.mono ?_); rintro e w11 ⟨rfl, rfl⟩))
                  have HT := Lib.hid (And.intro (H9.out.step HB10.out) (And.intro (show nh + 1 ≤ k + 1 by omega) (HK9.out _ HB10.out).2))
                  have cz := HT.out.2.2
                  go_wp2_with fail
                  refine (told_any v z port _ HT.out.1.ps (by omega) hwv hwp).mono ?_
                  rintro e w17 ⟨o17, L17, rfl, hi17, hc17, hb17⟩
                  have H17 := Lib.hid (HT.out.1.step hb17)
                  rw [fixF_same, Bool.true_or] at hc17
                  have HH := Lib.hid (has_true o17 L17 port w17 hi17 hc17)
                  clear hi17 hc17 hb17
                  go_wp2_with fail
                  refine HH.out.mono ?_
                  rintro e w18 ⟨rfl, rfl⟩
                  go_wp2
                  go_roundw
                  case rel => exact ⟨k + 1, _, _, by go_num, by omega, by omega, HT.out.2.1, H17.out⟩
                  case measure => simp [intOf]; omega
              · have q1 : (x != v) = true := by simp [hxv]
                have hne : plKey x y ≠ plKey v port := fun e => by
                  obtain ⟨e1, e2⟩ := key_inj hwx hwy hwv hwp e
                  omega
                have HB20 := Lib.hid (told_drew false x (z + age) y w7 H9.out.ps (by omega) hwx hwy (by rw [fixF_other v port hne, fresh_put_same hD, hw64]; simp))
                clear hne hxv
                go_wp2_with fail
                go_region_held3 (fun w' => w'.cell? ⟨wr.heap.size, 1, none⟩ = some (.int .i64 x) ∧ w'.cell? ⟨wr.heap.size, 2, none⟩ = some (.int .i64 y) ∧ w'.cell? ⟨wr.heap.size, 3, none⟩ = some (.int .i64 z)) (first | exact (HK9.out _ (Below.drew (Below.refl _ w7))).1 | exact (HK9.out _ HB10.out).1) (first | ((with_reducible refine HB20.out.mono ?_); rintro e w10 ⟨o10, L10, rfl, hi10, hc10, hb10⟩; have HH10 := Lib.hid (has_false o10 L10 y w10 hi10 hc10); have HB10 := Lib.hid hb10; clear hi10 hc10 hb10) | ((with_reducible refine HH10.out.mono ?_); rintro e w11 ⟨rfl, rfl⟩))
                have HT := Lib.hid (And.intro (H9.out.step HB10.out) (And.intro (show nh + 1 ≤ k + 1 by omega) (HK9.out _ HB10.out).2))
                have cz := HT.out.2.2
                go_wp2_with fail
                refine (told_any v z port _ HT.out.1.ps (by omega) hwv hwp).mono ?_
                rintro e w17 ⟨o17, L17, rfl, hi17, hc17, hb17⟩
                have H17 := Lib.hid (HT.out.1.step hb17)
                rw [fixF_same, Bool.true_or] at hc17
                have HH := Lib.hid (has_true o17 L17 port w17 hi17 hc17)
                clear hi17 hc17 hb17
                go_wp2_with fail
                refine HH.out.mono ?_
                rintro e w18 ⟨rfl, rfl⟩
                go_wp2
                go_roundw
                case rel => exact ⟨k + 1, _, _, by go_num, by omega, by omega, HT.out.2.1, H17.out⟩
                case measure => simp [intOf]; omega
            · have HSB := Lib.hid (fun q w' => seen_bad (p := q) x y z w' hok)
              clear hok
              go_wp2_with fail
              refine (HSB.out _ _).mono ?_
              rintro e w6 ⟨rfl, hb6⟩
              have HT := Lib.hid (And.intro (H1.out.step hb6) (And.intro (show nh ≤ k + 1 by omega) (HK.out _ ((grown_below hb6).but _)).2))
              have cz := HT.out.2.2
              clear hb6
              go_wp2_with fail
              refine (told_any v z port _ HT.out.1.ps (by omega) hwv hwp).mono ?_
              rintro e w17 ⟨o17, L17, rfl, hi17, hc17, hb17⟩
              have H17 := Lib.hid (HT.out.1.step hb17)
              rw [fixF_same, Bool.true_or] at hc17
              have HH := Lib.hid (has_true o17 L17 port w17 hi17 hc17)
              clear hi17 hc17 hb17
              go_wp2_with fail
              refine HH.out.mono ?_
              rintro e w18 ⟨rfl, rfl⟩
              go_wp2
              go_roundw
              case rel => exact ⟨k + 1, _, _, by go_num, by omega, by omega, HT.out.2.1, H17.out⟩
              case measure => simp [intOf]; omega
          · have e1 : (d == 1) = false := by simpa using hd1
            clear hd1
            by_cases hd2 : d = 2
            · have e2 : (d == 2) = true := by simp [hd2]
              clear hd2
              go_wp2_with fail
              refine (drop_any y _ H1.out.ps (by omega)).mono ?_
              rintro e w6 ⟨n6, D6, rfl, hps6, hg6⟩
              have HT := Lib.hid (And.intro (H1.out.turn hps6 (H1.out.ps.below hg6)) (And.intro (show nh ≤ k + 1 by omega) (HK.out _ hg6).2))
              have cz := HT.out.2.2
              clear hps6 hg6
              go_wp2_with fail
              refine (told_any v z port _ HT.out.1.ps (by omega) hwv hwp).mono ?_
              rintro e w17 ⟨o17, L17, rfl, hi17, hc17, hb17⟩
              have H17 := Lib.hid (HT.out.1.step hb17)
              rw [fixF_same, Bool.true_or] at hc17
              have HH := Lib.hid (has_true o17 L17 port w17 hi17 hc17)
              clear hi17 hc17 hb17
              go_wp2_with fail
              refine HH.out.mono ?_
              rintro e w18 ⟨rfl, rfl⟩
              go_wp2
              go_roundw
              case rel => exact ⟨k + 1, _, _, by go_num, by omega, by omega, HT.out.2.1, H17.out⟩
              case measure => simp [intOf]; omega
            · have e2 : (d == 2) = false := by simpa using hd2
              clear hd2
              by_cases hd3 : d = 3
              · have e3 : (d == 3) = true := by simp [hd3]
                clear hd3
                go_wp2_with fail
                refine (expire_any z _ H1.out.ps (by omega)).mono ?_
                rintro e w6 ⟨n6, D6, rfl, hps6, hg6⟩
                have HT := Lib.hid (And.intro (H1.out.turn hps6 (H1.out.ps.below hg6)) (And.intro (show nh ≤ k + 1 by omega) (HK.out _ hg6).2))
                have cz := HT.out.2.2
                clear hps6 hg6
                go_wp2_with fail
                refine (told_any v z port _ HT.out.1.ps (by omega) hwv hwp).mono ?_
                rintro e w17 ⟨o17, L17, rfl, hi17, hc17, hb17⟩
                have H17 := Lib.hid (HT.out.1.step hb17)
                rw [fixF_same, Bool.true_or] at hc17
                have HH := Lib.hid (has_true o17 L17 port w17 hi17 hc17)
                clear hi17 hc17 hb17
                go_wp2_with fail
                refine HH.out.mono ?_
                rintro e w18 ⟨rfl, rfl⟩
                go_wp2
                go_roundw
                case rel => exact ⟨k + 1, _, _, by go_num, by omega, by omega, HT.out.2.1, H17.out⟩
                case measure => simp [intOf]; omega
              · have e3 : (d == 3) = false := by simpa using hd3
                clear hd3
                have HT := Lib.hid (And.intro H1.out (And.intro (show nh ≤ k + 1 by omega) (HK.out _ ((grown_below (Below.refl _ _)).but _)).2))
                go_wp2_with fail
                refine (told_any v z port _ HT.out.1.ps (by omega) hwv hwp).mono ?_
                rintro e w17 ⟨o17, L17, rfl, hi17, hc17, hb17⟩
                have H17 := Lib.hid (HT.out.1.step hb17)
                rw [fixF_same, Bool.true_or] at hc17
                have HH := Lib.hid (has_true o17 L17 port w17 hi17 hc17)
                clear hi17 hc17 hb17
                go_wp2_with fail
                refine HH.out.mono ?_
                rintro e w18 ⟨rfl, rfl⟩
                go_wp2
                go_roundw
                case rel => exact ⟨k + 1, _, _, by go_num, by omega, by omega, HT.out.2.1, H17.out⟩
                case measure => simp [intOf]; omega
        · -- DONE
          by_cases hl : k < L.length
          · have g1 : decide ((k : Int) < 60) = false := by simp; omega
            clear hlt
            go_wp2_with fail
            refine (live_any _).mono ?_
            rintro e w3 ⟨rfl, hb⟩
            have H3 := Lib.hid (HS.out.step hb)
            clear hb
            go_wp2
            go_ret
            exact ⟨rfl, H3.out.bel⟩
          · have g1 : decide ((k : Int) < (L.length : Int)) = false := by simp; omega
            clear hlt
            go_wp2_with fail
            refine (live_any _).mono ?_
            rintro e w3 ⟨rfl, hb⟩
            have H3 := Lib.hid (HS.out.step hb)
            clear hb
            go_wp2
            go_ret
            exact ⟨rfl, H3.out.bel⟩
  · have HN := Lib.hid (fun w' => new_bad age w' (by omega))
    clear ha
    go_enter Try.func4, Try.ntmps4
    go_wp2
    go_quiet (fail)
    go_wp2_with ((with_reducible refine (HN.out _).mono ?_); rintro e w1 ⟨rfl, rfl⟩)
    refine (live_any _).mono ?_
    rintro e w2 ⟨rfl, hb⟩
    have HB2 := Lib.hid ((HB0.out nq).trans (hb.mono (HB0.out nq).size))
    clear hb
    go_wp2
    go_ret
    exact ⟨rfl, HB2.out⟩
end Go.Proofs.Ytmhldokaphlppaa
