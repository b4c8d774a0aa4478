/- Texts joined into one file: TLawTells, TStateL, TStates. -/
import Derived.Test.YtpibmjkbebkilaaA26
import Derived.Test.YtpibmjkbebkilaaA23

/- The walk of TableTells. -/
namespace Go.Proofs.Ytpibmjkbebkilaa
open Go.RowKit Go.Lib Go.Maps Go.Sort
set_option maxRecDepth 20000
set_option maxRecDepth 20000
attribute [local go_sem ↓] Go.wp_at_zero Go.wp_at_succ

theorem padm_live {s : Stt} {src : Str} {now : Int} (h : padmS s src now = true) : liveS s now = true := by
  unfold padmS padm at h
  rw [Bool.and_eq_true] at h
  obtain ⟨h1, h2⟩ := h
  unfold liveS pexp
  rw [if_pos h1]
  dsimp only
  cases hm : (s.1 && decide (now < s.2.1))
  · rw [hm] at h2
    have hA := asc_ex false now (pcheck_asc h1)
    cases hl : exL false now s.2.2
    · rw [hl] at hA
      have : exF false now (rd s.2.2) src = none := by
        have := (hA.1.2 src)
        simp at this
        exact this
      rw [this] at h2
      simp at h2
    · rfl
  · rfl
theorem tells_has {F : Tst} {K : List TK} (hK : KeysS F K) (v : Int) (g src : Str) (now p : Int) : (portsS F src now (K.filter (inOf v g))).contains p = ((F (v, g, p)).isSome && padmS (oldS F (v, g, p)) src now) := by
  rw [Bool.eq_iff_iff, List.contains_iff_mem, Bool.and_eq_true]
  unfold portsS
  rw [List.mem_map]
  constructor
  · rintro ⟨⟨xv, xg, xp⟩, hx, rfl⟩
    rw [List.mem_filter, List.mem_filter] at hx
    obtain ⟨⟨h1, h2⟩, h3⟩ := hx
    unfold inOf at h2
    simp at h2
    obtain ⟨rfl, rfl⟩ := h2
    exact ⟨Option.isSome_iff_ne_none.2 ((hK.2 _).1 h1), h3⟩
  · rintro ⟨h1, h2⟩
    exact ⟨(v, g, p), by rw [List.mem_filter, List.mem_filter]; exact ⟨⟨(hK.2 _).2 (Option.isSome_iff_ne_none.1 h1), by simp [inOf]⟩, h2⟩, rfl⟩
theorem tells_known {F : Tst} {K : List TK} (hK : KeysS F K) {v : Int} {g src : Str} {now p : Int} (h : ((F (v, g, p)).isSome && padmS (oldS F (v, g, p)) src now) = true) : ((K.filter (inOf v g)).any fun x => liveS (oldS F x) now) = true := by
  rw [Bool.and_eq_true] at h
  rw [List.any_eq_true]
  exact ⟨(v, g, p), by rw [List.mem_filter]; exact ⟨(hK.2 _).2 (Option.isSome_iff_ne_none.1 h.1), by simp [inOf]⟩, padm_live h.2⟩

set_option maxHeartbeats 8000000 in
theorem ttells_no (room M L : Int) (v : Value) (w : World) (hf : ¬ fitsT room M L) :
    Calls Try.prog 4 #[.int .i64 room, .agg #[.int .i64 M, .int .i64 L], v] w fun e w' => e = .returned (.bool true) ∧ Below w.heap.size w w' := by
  obtain ⟨W0, hW0⟩ : ∃ W0, W0 = w.alloc (.cells #[.int .i64 M, .int .i64 L] 23) := ⟨_, rfl⟩
  have hb0 : Below w.heap.size w W0 := by rw [hW0]; exact (Below.refl _ _).alloc (Nat.le_refl _) _
  have b0 : CBox W0 w.heap.size 23 #[.int .i64 M, .int .i64 L] := by rw [hW0]; exact CBox.new _ rfl
  have HN := Lib.hid (tnew_no room M L W0 hf)
  obtain ⟨x0, _⟩ := b0.at_ 0 _ rfl
  obtain ⟨x1, _⟩ := b0.at_ 1 _ rfl
  have HB1 := Lib.hid hb0; have HW := Lib.hid hW0
  clear hb0 b0 hW0
  go_enter Try.func4, Try.ntmps4
  go_upto_region 1 with fail
  rw [← HW.out]
  go_wp2_with fail
  refine HN.out.mono ?_
  rintro e w2 ⟨rfl, hb⟩
  have HB2 := Lib.hid (HB1.out.trans (hb.mono HB1.out.size))
  clear hb HN HB1 x0 x1
  have HL := Lib.hid (tlive_any w2)
  go_wp2_with ((with_reducible refine HL.out.mono ?_); rintro e w3 ⟨rfl, hb3⟩; have HB3 := Lib.hid hb3; clear hb3)
  go_ret
  exact ⟨rfl, HB2.out.trans (HB3.out.mono HB2.out.size)⟩

set_option maxHeartbeats 16000000 in
theorem law_ttells (room M L : Int) (v : Value) (R : List TOp) (w : World) (h : OpsT w v R) :
    Calls Try.prog 4 #[.int .i64 room, .agg #[.int .i64 M, .int .i64 L], v] w fun e w' => e = .returned (.bool true) ∧ Below w.heap.size w w' := by
  by_cases hf : ¬ fitsT room M L
  · exact ttells_no room M L v w hf
  replace hf : fitsT room M L := Classical.not_not.1 hf
  obtain ⟨so, sc, rfl⟩ := h.shape
  obtain ⟨bs, off, src, hm, hlen, hidx, hc⟩ := h.facts
  clear h
  obtain ⟨W0, hW0⟩ : ∃ W0, W0 = w.alloc (.cells #[.int .i64 M, .int .i64 L] 23) := ⟨_, rfl⟩
  have hb0 : Below w.heap.size w W0 := by rw [hW0]; exact (Below.refl _ _).alloc (Nat.le_refl _) _
  have b0 : CBox W0 w.heap.size 23 #[.int .i64 M, .int .i64 L] := by rw [hW0]; exact CBox.new _ rfl
  have HN := Lib.hid (tnew_yes room M L W0 hf)
  obtain ⟨x0, _⟩ := b0.at_ 0 _ rfl
  obtain ⟨x1, _⟩ := b0.at_ 1 _ rfl
  have HB1 := Lib.hid hb0; have HW := Lib.hid hW0
  clear hb0 b0 hW0
  go_enter Try.func4, Try.ntmps4
  go_upto_region 1 with fail
  rw [← HW.out]
  go_wp2_with fail
  refine HN.out.mono ?_
  rintro e w2 ⟨p, b, o, rfl, hT, hpb, hpo, hb⟩
  have HNE := Lib.hid (show w.heap.size ≤ b ∧ w.heap.size ≤ o from by have := HB1.out.size; omega)
  have HS0 := Lib.hid (show Scr w p b o room M L 0 w2 from ⟨_, _, [], hT, TInv.empty hf.1.1, HB1.out.trans (hb.mono HB1.out.size)⟩)
  have HR := Lib.hid hf
  clear hb hT hpb hpo HN HB1 hf x0 x1 HW
  go_wp2_with fail
  go_loopw [9] (fun i wr => ∃ k, k ≤ R.length ∧ k ≤ 40 ∧ i = .int .i64 (k : Nat) ∧ Scr w p b o room M L k wr) (fun i _ => R.length - (intOf i).toNat)
  case atStart => exact ⟨0, Nat.zero_le _, Nat.zero_le _, rfl, HS0.out⟩
  case round =>
    obtain ⟨k, hk, hk40, rfl, hsc⟩ := hrel
    have HSC := Lib.hid hsc
    clear hsc HS0
    by_cases hlt : k < R.length
    · by_cases h40 : k < 40
      · obtain ⟨hlb, hcs, hok⟩ := hc k hlt
        have hp := hidx k hlt
        obtain ⟨q, hq⟩ : ∃ q, q = R.getD k default := ⟨_, rfl⟩
        rw [← hq] at hcs hok
        have HQ := Lib.hid (And.intro (And.intro hok.gl hok.sl) hok.wvl)
        obtain ⟨F, O, K, hT, hI, hbr⟩ := HSC.out
        obtain ⟨ro, rc, hrs⟩ := hok.strs.shape
        obtain ⟨c0, c1, c2, c3, c4, c5, c6, c7⟩ := TOp.row hbr hlb hcs
        rw [hrs] at c5
        have HT := Lib.hid hT; have HI := Lib.hid hI; have HBR := Lib.hid hbr
        have HST := Lib.hid (show Strs wr (.slice ro q.S.length rc) q.S from hrs ▸ hok.strs.mono hbr)
        clear hidx hc hlb hcs hok hq hrs hT hI hbr HSC
        go_upto_region 10 with fail
        obtain ⟨W3, hW3⟩ : ∃ W3, W3 = wr.alloc (.cells #[.int .i64 q.d, .int .i64 q.vl, .int .i64 q.pt, .int .i64 q.kind, .string (bstr q.g), .slice ro q.S.length rc, .string (bstr q.src), .int .i64 q.now] 37) := ⟨_, rfl⟩
        have hb3 : Below wr.heap.size wr W3 := by rw [hW3]; exact (Below.refl _ _).alloc (Nat.le_refl _) _
        have HX := Lib.hid (show CBox W3 wr.heap.size 37 #[.int .i64 q.d, .int .i64 q.vl, .int .i64 q.pt, .int .i64 q.kind, .string (bstr q.g), .slice ro q.S.length rc, .string (bstr q.src), .int .i64 q.now] from by rw [hW3]; exact CBox.new _ rfl)
        have HT3 := Lib.hid (HT.out.mono hb3)
        have HRP := Lib.hid (report_all p b o k k room M L q.vl q.pt q.kind q.now q.g _ q.S F O K W3 HT3.out HI.out (HST.out.mono hb3) (by omega) (by omega))
        have HB3 := Lib.hid (HBR.out.trans (hb3.mono HBR.out.size))
        have HW3 := Lib.hid hW3
        clear hb3 hW3 HT HST HBR c0 c1 c2 c3 c4 c5 c6 c7 hp
        rw [← HW3.out]
        clear HW3
        obtain ⟨x1, _⟩ := HX.out.at_ 1 _ rfl
        obtain ⟨x2, _⟩ := HX.out.at_ 2 _ rfl
        obtain ⟨x3, _⟩ := HX.out.at_ 3 _ rfl
        obtain ⟨x4, _⟩ := HX.out.at_ 4 _ rfl
        obtain ⟨x5, _⟩ := HX.out.at_ 5 _ rfl
        obtain ⟨x7, _⟩ := HX.out.at_ 7 _ rfl
        have xl := HX.out.lt
        cases d60 : decide ((60 : Int) < (q.S.length : Int))
        · go_wp2_with fail
          refine HRP.out.mono ?_
          rintro e w4 ⟨u, f, rs, err, F', O', K', rfl, hu, hT4, hM4, hI4, _⟩
          have HX4 := Lib.hid ((HT3.out.ckeep hM4).box HX.out)
          have HT4 := Lib.hid hT4; have HI4 := Lib.hid hI4
          have HB4 := Lib.hid (HB3.out.trans (hM4.below HB3.out.size HNE.out.1 HNE.out.2))
          obtain ⟨y1, _⟩ := HX4.out.at_ 1 _ rfl
          obtain ⟨y4, _⟩ := HX4.out.at_ 4 _ rfl
          obtain ⟨y6, _⟩ := HX4.out.at_ 6 _ rfl
          obtain ⟨y7, _⟩ := HX4.out.at_ 7 _ rfl
          have HRD := Lib.hid (show ∀ W, Below w4.heap.size w4 W → TRead W (some ⟨p, 0, none⟩) (k + 1) F' K' from fun W hW => ⟨hI4.keys, .inr ⟨p, b, o, _, _, _, _, _, rfl, hT4.mono hW⟩⟩)
          have HP := Lib.hid (ports_any (some ⟨p, 0, none⟩) (k + 1) q.vl q.now q.g q.src F' K' w4 (HRD.out w4 (Below.refl _ _)) (by omega) HQ.out.1.2)
          clear hu hT4 hM4 hI4 HRP HX HT3 HB3 HI x1 x2 x3 x4 x5 x7 xl
          go_wp2_with fail
          refine HP.out.mono ?_
          rintro e w5 ⟨u5, rfl, hu5, hb5⟩
          have hI5 : Ints w5 u5 (portsS F' q.src q.now (K'.filter (inOf q.vl q.g))) := Ints.own hu5 (by
            have h1 := portsS_len F' q.src q.now (K'.filter (inOf q.vl q.g))
            have h2 := List.length_filter_le (inOf q.vl q.g) K'
            have h3 := HI4.out.few
            have h4 := HR.out.1.2
            omega) (fun x hx => by
            obtain ⟨y, hy, rfl⟩ := List.mem_map.1 hx
            obtain ⟨K2, hK2, _, hok2, _⟩ := HT4.out.keys
            have := hK2.unique HI4.out.keys
            subst this
            exact (hok2 y (List.mem_filter.1 (List.mem_filter.1 hy).1).1).2.2)
          obtain ⟨po, pc, rfl⟩ := own_form hu5
          have HI5 := Lib.hid hI5; have HB5 := Lib.hid hb5
          clear hu5 hI5 hb5 HP y1 y4 y6 y7
          go_wp2_with fail
          go_loopw [12] (fun i wq => ∃ j : Nat, j ≤ 16 ∧ i = .int .i64 (j : Nat) ∧ Below w4.heap.size w4 wq ∧ Below w5.heap.size w5 wq) (fun i _ => 16 - (intOf i).toNat)
          case atStart => exact ⟨0, by omega, rfl, HB5.out, Below.refl _ _⟩
          case round =>
            obtain ⟨j, hj, rfl, hb4q, hb5q⟩ := hrel
            by_cases hj16 : j < 16
            · have c4q := HX4.out.below hb4q HX4.out.lt
              have HXq := Lib.hid c4q
              obtain ⟨y1, _⟩ := c4q.at_ 1 _ rfl
              obtain ⟨y4, _⟩ := c4q.at_ 4 _ rfl
              have hxk : okT (q.vl, q.g, (j : Int)) := ⟨HQ.out.2, HQ.out.1.1, by simp [Lit.wf, IntKind.min, IntKind.max, IntKind.bits, IntKind.signed]; omega⟩
              have HS := Lib.hid (tstate_any p b o _ _ room M L F' O' (q.vl, q.g, (j : Int)) wr (HT4.out.mono hb4q) hxk)
              obtain ⟨⟨sa, st, sl⟩, hss⟩ : ∃ s, oldS F' (q.vl, q.g, (j : Int)) = s := ⟨_, rfl⟩
              obtain ⟨is, his⟩ : ∃ is, (F' (q.vl, q.g, (j : Int))).isSome = is := ⟨_, rfl⟩
              have hH := tells_has HI4.out.keys q.vl q.g q.src q.now (j : Int)
              have hK := fun h => tells_known (p := (j : Int)) HI4.out.keys (v := q.vl) (g := q.g) (src := q.src) (now := q.now) h
              rw [his, hss] at hH hK
              rw [his, hss] at HS
              unfold encT at HS
              dsimp only at HS
              have H4q := Lib.hid hb4q; have H5q := Lib.hid hb5q
              have HH := Lib.hid hH; have HK := Lib.hid hK
              clear hb4q hb5q c4q hxk hss his hH hK
              go_wp2_with fail
              refine HS.out.mono ?_
              rintro e w6 ⟨sv, rfl, hs6, hb6⟩
              obtain ⟨vo, vc, rfl⟩ := hs6.shape
              unfold encS
              dsimp only
              obtain ⟨W7, hW7⟩ : ∃ W7, W7 = w6.alloc (.cells #[.bool sa, .int .i64 st, .slice vo sl.length vc] 52) := ⟨_, rfl⟩
              have hb7 : Below wr.heap.size wr W7 := hb6.trans (by rw [hW7]; exact (Below.refl _ _).alloc hb6.size _)
              have hT7 : Tms W7 (.slice vo sl.length vc) sl := hs6.mono (by rw [hW7]; exact (Below.refl _ _).alloc (Nat.le_refl _) _)
              have S7 := Lib.hid (show CBox W7 w6.heap.size 52 #[.bool sa, .int .i64 st, .slice vo sl.length vc] from by rw [hW7]; exact CBox.new _ rfl)
              have HA := Lib.hid (admits_any sa st _ sl q.now q.src HQ.out.1.2 W7 hT7)
              have hx7 := HXq.out.below hb7 HXq.out.lt
              have HX7 := Lib.hid hx7
              have H47 := Lib.hid (H4q.out.trans (hb7.mono H4q.out.size))
              have H57 := Lib.hid (H5q.out.trans (hb7.mono H5q.out.size))
              have HW7 := Lib.hid hW7
              clear hb7 hT7 hW7 hs6 hb6 HS HXq H4q H5q y1 y4
              cases is
              · have hw : (portsS F' q.src q.now (K'.filter (inOf q.vl q.g))).contains (j : Int) = false := HH.out
                have HAS := Lib.hid (has_any _ _ (j : Int) W7 (HI5.out.mono H57.out))
                rw [hw] at HAS
                clear HH HK hw HA hx7
                go_upto_region 18 with fail
                rw [← HW7.out]
                go_wp2_with ((with_reducible refine HAS.out.mono ?_); rintro e w' ⟨rfl, hw'⟩; subst w')
                go_roundw
                case rel => exact ⟨j + 1, by omega, by go_num, H47.out, H57.out⟩
                case measure => simp [intOf]; omega
              · have hx7 := HX7.out
                obtain ⟨y6, _⟩ := hx7.at_ 6 _ rfl
                obtain ⟨y7, _⟩ := hx7.at_ 7 _ rfl
                obtain ⟨s0, _⟩ := S7.out.at_ 0 _ rfl
                obtain ⟨s1, _⟩ := S7.out.at_ 1 _ rfl
                obtain ⟨s2, _⟩ := S7.out.at_ 2 _ rfl
                clear hx7
                go_upto_region 18 with fail
                rw [← HW7.out]
                go_wp2_with fail
                refine HA.out.mono ?_
                rintro e w8 ⟨rfl, hb8⟩
                obtain ⟨wn, hwn⟩ : ∃ x, x = padm sa st sl q.now q.src := ⟨_, rfl⟩
                rw [← hwn]
                have hw : (portsS F' q.src q.now (K'.filter (inOf q.vl q.g))).contains (j : Int) = wn := by
                  rw [HH.out, hwn]
                  simp [padmS]
                have HAS := Lib.hid (has_any _ _ (j : Int) w8 (HI5.out.mono (H57.out.trans (hb8.mono H57.out.size))))
                rw [hw] at HAS
                have H48 := Lib.hid (H47.out.trans (hb8.mono H47.out.size))
                have H58 := Lib.hid (H57.out.trans (hb8.mono H57.out.size))
                have hx8 := HX7.out.below hb8 HX7.out.lt
                obtain ⟨z1, _⟩ := hx8.at_ 1 _ rfl
                obtain ⟨z4, _⟩ := hx8.at_ 4 _ rfl
                obtain ⟨z7, _⟩ := hx8.at_ 7 _ rfl
                have HKT := Lib.hid (show wn = true → ((K'.filter (inOf q.vl q.g)).any fun x => liveS (oldS F' x) q.now) = true from fun h => HK.out (by simp [padmS, ← hwn, h]))
                clear hx8 hb8 hw hwn HA HX7 S7 HH HK H47 H57 s0 s1 s2 y6 y7 HW7
                cases wn
                · clear HKT
                  go_wp2_with ((with_reducible refine HAS.out.mono ?_); rintro e w' ⟨rfl, hw'⟩; subst w')
                  go_roundw
                  case rel => exact ⟨j + 1, by omega, by go_num, H48.out, H58.out⟩
                  case measure => simp [intOf]; omega
                · have HKN := Lib.hid (known_any (some ⟨p, 0, none⟩) (k + 1) q.vl q.now q.g F' K' w8 (HRD.out w8 H48.out) (by omega))
                  rw [HKT.out rfl] at HKN
                  go_wp2_with ((with_reducible refine HAS.out.mono ?_); rintro e w' ⟨rfl, hw'⟩; subst w')
                  refine HKN.out.mono ?_
                  rintro e w9 ⟨rfl, hb9⟩
                  have H49 := Lib.hid (H48.out.trans (hb9.mono H48.out.size))
                  have H59 := Lib.hid (H58.out.trans (hb9.mono H58.out.size))
                  clear hb9 z1 z4 z7 HAS
                  go_wp2_with fail
                  go_roundw
                  case rel => exact ⟨j + 1, by omega, by go_num, H49.out, H59.out⟩
                  case measure => simp [intOf]; omega
            · have HEN := Lib.hid (show Scr w p b o room M L (k + 1) wr from ⟨F', O', K', HT4.out.mono hb4q, HI4.out, HB4.out.trans (hb4q.mono HB4.out.size)⟩)
              obtain rfl : j = 16 := by omega
              clear hb4q hb5q
              go_wp2_with fail
              go_roundw
              case rel => exact ⟨k + 1, by omega, by omega, by go_num, HEN.out⟩
              case measure => simp [intOf]; omega
        · clear HRP
          go_wp2_with fail
          refine (tlive_any _).mono ?_
          rintro e w4 ⟨rfl, hb⟩
          have HB := Lib.hid (HB3.out.trans (hb.mono HB3.out.size))
          clear hb
          go_wp2_with fail
          go_ret
          exact ⟨rfl, HB.out⟩
      · obtain rfl : k = 40 := by omega
        have HL := Lib.hid (tlive_any wr)
        obtain ⟨_, _, _, _, _, hbr⟩ := HSC.out
        have HBR := Lib.hid hbr
        clear hidx hc HSC hbr
        go_wp2_with ((with_reducible refine HL.out.mono ?_); rintro e w4 ⟨rfl, hb⟩; have HB := Lib.hid (HBR.out.trans (hb.mono HBR.out.size)); clear hb)
        go_ret
        exact ⟨rfl, HB.out⟩
    · have HL := Lib.hid (tlive_any wr)
      obtain ⟨_, _, _, _, _, hbr⟩ := HSC.out
      have HBR := Lib.hid hbr
      clear hidx hc HSC hbr
      go_wp2_with ((with_reducible refine HL.out.mono ?_); rintro e w4 ⟨rfl, hb⟩; have HB := Lib.hid (HBR.out.trans (hb.mono HBR.out.size)); clear hb)
      go_ret
      exact ⟨rfl, HB.out⟩
end Go.Proofs.Ytpibmjkbebkilaa

/- State once more: what it hands back lies in memory of the call's own. -/
namespace Go.Proofs.Ytpibmjkbebkilaa
open Go.RowKit Go.Lib Go.Maps Go.Sort
set_option maxRecDepth 20000
set_option maxRecDepth 20000

def RetTmL (w : World) (L : List Tmd) (e : Ending) (w' : World) : Prop := ∃ u, e = .returned u ∧ Tms w' u L ∧ Lies w.heap.size u ∧ Below w.heap.size w w'
set_option maxHeartbeats 2000000 in
theorem tcloneL_any (v : Value) (L : List Tmd) (w : World) (h : Tms w v L) : Calls Try.prog 49 #[v] w (RetTmL w L) := by
  obtain ⟨i0, hi, hz0, hz1, hz2⟩ := info_parts infoTmd
  have hm := h.few
  have q22 : ∀ (w : World) (a : Option Addr) (n c n' c' : Nat), (binOp .eql 50 (.slice a n c) (.slice none n' c')).run Try.prog w = .ok (.bool a.isNone) w := fun w a n c n' c' => Lib.run_eql_slice_nil w _ _ a n c n' c' Try.underlying50
  have HWF := Lib.hid h.wfs
  obtain ⟨ao, cap, rfl⟩ := h.shape
  cases ao with
  | none =>
    have hL : L = [] := by
      obtain ⟨_, _, _, _, e, h0, _⟩ := h
      injection e with e1 e2 e3
      rcases h0 with h0 | h0
      · exact h0
      · rw [h0] at e1; cases e1
    subst hL
    clear h HWF
    go_enter Try.func49, Try.ntmps49
    go_wp2_with fail
    go_ret
    exact ⟨_, rfl, Tms.nil _, (fun b hb => by cases hb), Below.refl _ _⟩
  | some a =>
    have hb0 : Below w.heap.size w (w.alloc (.cells #[] 88)) := (Below.refl _ _).alloc (Nat.le_refl _) _
    have HS := Lib.hid (h.mono hb0).sliceOf
    have HN := Lib.hid (World.ownsRow_made (base := w.heap.size) (e := 88) (size := 2) w #[] 0 (Nat.le_refl _) (by decide) rfl)
    have HB := Lib.hid hb0
    clear h hb0
    go_enter Try.func49, Try.ntmps49
    go_wp2_with (at_builtin; refine wpList_append_vals _ rfl _ _ 50 rfl w.heap.size 88 i0 (.agg #[.string ⟨#[]⟩, .int .i64 0]) 2 24 Try.underlying50 hi hz0 hz1 hz2 rfl (by decide) (.slice (some ⟨w.heap.size, 0, none⟩) 0 0) 0 [] rfl HN.out (.slice (some a) L.length cap) L.length _ rfl HS.out (by unfold maxLen; omega) (by omega) (by simp) ?_; intro v' w1 hown hg _; obtain ⟨ao', c', rfl⟩ := own_form hown; have HG := Lib.hid hg; have HO := Lib.hid hown; clear hg hown)
    go_ret
    have ho : w1.ownsRow w.heap.size 88 2 (.slice ao' L.length c') L.length (L.flatMap tcells) := by simpa using HO.out
    exact ⟨.slice ao' L.length c', by simp, Tms.own ho hm HWF.out, Lies.own ho, HB.out.grown HG.out (by simp) (fun k e => by simp [Value.ownBlock] at e; omega)⟩

def RetStL' (w : World) (s : Stt) (e : Ending) (w' : World) : Prop := ∃ v, e = .returned (encS s v) ∧ Tms w' v s.2.2 ∧ Lies w.heap.size v ∧ Below w.heap.size w w'
set_option maxHeartbeats 2000000 in
theorem tcopiedL_any (s : Stt) (v : Value) (w : World) (h : Tms w v s.2.2) : Calls Try.prog 29 #[encS s v] w (RetStL' w s) := by
  obtain ⟨ex, at', L⟩ := s
  dsimp only at h
  obtain ⟨ao, cap, rfl⟩ := h.shape
  obtain ⟨W0, hW0⟩ : ∃ W0, W0 = (w.alloc (.cells #[.bool ex, .int .i64 at', .slice ao L.length cap] 52)).alloc (.cells #[.bool false, .int .i64 0, .slice none 0 0] 52) := ⟨_, rfl⟩
  have hb0 : Below w.heap.size w W0 := by rw [hW0]; exact ((Below.refl _ _).alloc (Nat.le_refl _) _).alloc (by simp) _
  have b1 : CBox W0 w.heap.size 52 #[.bool ex, .int .i64 at', .slice ao L.length cap] := by rw [hW0]; exact (CBox.new _ rfl).old _
  have b2 : CBox W0 (w.heap.size + 1) 52 #[.bool false, .int .i64 0, .slice none 0 0] := by rw [hW0]; exact CBox.new _ (by simp)
  have HC := Lib.hid (tcloneL_any _ L W0 (h.mono hb0))
  have HB := Lib.hid hb0; have B1 := Lib.hid b1; have B2 := Lib.hid b2; have HW := Lib.hid hW0
  obtain ⟨x2, _⟩ := b1.at_ 2 _ rfl
  have HS0 := Lib.hid hb0.size
  clear h hb0 b1 b2 hW0
  unfold encS
  go_enter Try.func29, Try.ntmps29
  go_upto_region 1 with fail
  rw [← HW.out]
  clear HW
  go_wp2_with ((with_reducible refine HC.out.mono ?_); rintro e w1 ⟨u, rfl, hT, hl, hb1⟩; obtain ⟨uo, uc, rfl⟩ := hT.shape; have C1 := Lib.hid (B1.out.below hb1 B1.out.lt); have C2 := Lib.hid (B2.out.below hb1 B2.out.lt); obtain ⟨y0, _⟩ := C1.out.at_ 0 _ rfl; obtain ⟨y1, _⟩ := C1.out.at_ 1 _ rfl; obtain ⟨y2, _⟩ := C1.out.at_ 2 _ rfl; obtain ⟨z0, _⟩ := C2.out.at_ 0 _ rfl; obtain ⟨z1, _⟩ := C2.out.at_ 1 _ rfl; obtain ⟨z2, _⟩ := C2.out.at_ 2 _ rfl; have HT := Lib.hid hT; have HLI := Lib.hid hl; have HBB := Lib.hid (HB.out.trans (hb1.mono HB.out.size)); clear hT hb1 hl HC x2 HB)
  have R := fun u0 u1 u2 u3 => (((C2.out.far (p := ⟨w.heap.size, 2, none⟩) (by simp) u0).set 0 u1).set 1 u2).set 2 u3
  have r0 := fun u0 u1 u2 u3 => ((R u0 u1 u2 u3).at_ 0 _ rfl).1
  have r1 := fun u0 u1 u2 u3 => ((R u0 u1 u2 u3).at_ 1 _ rfl).1
  have r2 := fun u0 u1 u2 u3 => ((R u0 u1 u2 u3).at_ 2 _ rfl).1
  have a1 : L ≠ [] → ∀ c, (Value.slice uo L.length uc).ownBlock = some c → c ≠ w.heap.size := fun hL c hc => HT.out.ne_box C1.out (fun i s => ns3 _ _ _ _ _ i s) hL c hc
  have a2 : L ≠ [] → ∀ c, (Value.slice uo L.length uc).ownBlock = some c → c ≠ w.heap.size + 1 := fun hL c hc => HT.out.ne_box C2.out (fun i s => ns3 _ _ _ _ _ i s) hL c hc
  refine bodyPost_ret (v := .agg #[.bool ex, .int .i64 at', .slice uo L.length uc]) (by simp [results, Try.results29, go_sem, r0, r1, r2]) rfl ⟨_, rfl, ?_, HLI.out.mono HS0.out, ?_⟩
  · exact (((HT.out.apart (p := ⟨w.heap.size, 2, none⟩) a1 _).apart (p := ⟨w.heap.size + 1, 0, none⟩) a2 _).apart (p := ⟨w.heap.size + 1, 1, none⟩) a2 _).apart (p := ⟨w.heap.size + 1, 2, none⟩) a2 _
  · exact (((HBB.out.setCell (by simp) _).setCell (by simp) _).setCell (by simp) _).setCell (by simp) _

def RetStL (w : World) (s : Stt) (is : Bool) (e : Ending) (w' : World) : Prop := ∃ v, e = .returned (.tuple #[encS s v, .bool is]) ∧ Tms w' v s.2.2 ∧ Lies w.heap.size v ∧ Below w.heap.size w w'
set_option maxHeartbeats 4000000 in
theorem tstateL_any (p b o n m : Nat) (room M L : Int) (F : Tst) (O : Int → Option Int) (x : TK) (w : World) (h : Tb w p b o n m room M L F O) (hx : okT x) :
    Calls Try.prog 13 #[.pointer (some ⟨p, 0, none⟩), encT x] w (RetStL w (oldS F x) (F x).isSome) := by
  have hz : ∀ w, (zeroValue 52).run Try.prog w = .ok noState w := fun w => Try.zeroValue52 w
  obtain ⟨xv, xg, xp⟩ := x
  obtain ⟨V, hV, hH⟩ := h.states
  obtain ⟨sv, he, hT, hi, hw⟩ := hH.at_ (xv, xg, xp)
  obtain ⟨⟨ya, yt, yl⟩, hy⟩ : ∃ y, oldS F (xv, xg, xp) = y := ⟨_, rfl⟩
  rw [hy] at he hT hw ⊢
  dsimp only at hT hw
  obtain ⟨ao, cap, rfl⟩ := hT.shape
  obtain ⟨is, his⟩ : ∃ is, (F (xv, xg, xp)).isSome = is := ⟨_, rfl⟩
  rw [his] at hi ⊢
  obtain ⟨W0, hW0⟩ : ∃ W0, W0 = (w.alloc (.cells #[.int .i64 xv, .string (bstr xg), .int .i64 xp] 46)).alloc (.cells #[.bool false, .int .i64 0, .slice none 0 0] 52) := ⟨_, rfl⟩
  have hb0 : Below w.heap.size w W0 := by rw [hW0]; exact ((Below.refl _ _).alloc (Nat.le_refl _) _).alloc (by simp) _
  have b1 : CBox W0 w.heap.size 46 #[.int .i64 xv, .string (bstr xg), .int .i64 xp] := by rw [hW0]; exact (CBox.new _ rfl).old _
  have b2 : CBox W0 (w.heap.size + 1) 52 #[.bool false, .int .i64 0, .slice none 0 0] := by rw [hW0]; exact CBox.new _ (by simp)
  have hbp := h.box.below hb0 h.box.lt
  have hd : Below W0.heap.size W0 W0.drew := Below.drew (Below.refl _ _)
  have HF := Lib.hid (show ∀ wq, Below W0.heap.size W0 wq → wq.cell? ⟨w.heap.size, 0, none⟩ = some (.int .i64 xv) ∧ wq.cell? ⟨w.heap.size, 1, none⟩ = some (.string (bstr xg)) ∧ wq.cell? ⟨w.heap.size, 2, none⟩ = some (.int .i64 xp) ∧ wq.cell? ⟨p, 3, none⟩ = some (.map (some b)) ∧
      (Instr.lookup 65 (.map (some b)) (.agg #[.int .i64 xv, .string (bstr xg), .int .i64 xp]) true).run Try.prog wq = .ok (.tuple #[.agg #[.bool ya, .int .i64 yt, .slice ao yl.length cap], .bool is]) wq from fun wq hb =>
    ⟨(hb.cell (p := ⟨w.heap.size, 0, none⟩) b1.lt).trans (b1.at_ 0 _ rfl).1, (hb.cell (p := ⟨w.heap.size, 1, none⟩) b1.lt).trans (b1.at_ 1 _ rfl).1, (hb.cell (p := ⟨w.heap.size, 2, none⟩) b1.lt).trans (b1.at_ 2 _ rfl).1, (hb.cell (p := ⟨p, 3, none⟩) hbp.lt).trans (hbp.at_ 3 _ rfl).1, by
      have hVq := (hV.below hb0 hV.lt).below hb (hV.below hb0 hV.lt).lt
      have := hVq.getOk Try.underlying65 (hz wq) (xv, xg, xp) hx
      rw [he, hi] at this
      exact this⟩)
  have HB := Lib.hid hb0; have B2 := Lib.hid b2; have HW := Lib.hid hW0
  have HT := Lib.hid (hT.mono hb0)
  clear h hV hH he hT hi hw hy his hb0 b1 b2 hbp hx hz
  unfold encT
  dsimp only
  go_enter Try.func13, Try.ntmps13
  go_upto_region 3 with fail
  rw [← HW.out]
  clear HW hW0
  refine wp_region_held_drew (S := fun W' => Below W0.heap.size W0 W') (by kernel_rfl) hd (fun hHeld => ?_)
  refine takeL 0 (v := ?_) rfl (by kernel_rfl) (by kernel_rfl) (by kernel_rfl) (fun _ _ _ h => h) (Or.inl ⟨by rfl, ?_⟩) (by assumption) ?_
  rotate_left
  focus (intro wq hSq; obtain ⟨f0, f1, f2, f3, f4⟩ := HF.out wq hSq; go_simp <;> with_reducible rfl)
  simp only [Act.put, List.setIfInBounds_toArray, List.set_cons_zero, List.set_cons_succ]
  refine takeL 1 (v := ?_) rfl (by kernel_rfl) (by kernel_rfl) (by kernel_rfl) (fun _ _ _ h => h) (Or.inl ⟨by rfl, ?_⟩) (by assumption) ?_
  rotate_left
  focus (intro wq hSq; obtain ⟨f0, f1, f2, f3, f4⟩ := HF.out wq hSq; go_simp <;> with_reducible rfl)
  simp only [Act.put, List.setIfInBounds_toArray, List.set_cons_zero, List.set_cons_succ]
  refine takeL 2 (v := ?_) rfl (by kernel_rfl) (by kernel_rfl) (by kernel_rfl) (fun _ _ _ h => h) (Or.inl ⟨by rfl, ?_⟩) (by assumption) ?_
  rotate_left
  focus (intro wq hSq; obtain ⟨f0, f1, f2, f3, f4⟩ := HF.out wq hSq; go_simp <;> with_reducible rfl)
  simp only [Act.put, List.setIfInBounds_toArray, List.set_cons_zero, List.set_cons_succ]
  refine takeL 3 (v := ?_) rfl (by kernel_rfl) (by kernel_rfl) (by kernel_rfl) (fun _ _ _ h => h) (Or.inl ⟨by rfl, ?_⟩) (by assumption) ?_
  rotate_left
  focus (intro wq hSq; obtain ⟨f0, f1, f2, f3, f4⟩ := HF.out wq hSq; go_simp <;> with_reducible rfl)
  simp only [Act.put, List.setIfInBounds_toArray, List.set_cons_zero, List.set_cons_succ]
  refine takeL 4 (v := ?_) rfl (by kernel_rfl) (by kernel_rfl) (by kernel_rfl) (fun _ _ _ h => h) (Or.inl ⟨by rfl, ?_⟩) (by assumption) ?_
  rotate_left
  focus (intro wq hSq; obtain ⟨f0, f1, f2, f3, f4⟩ := HF.out wq hSq; go_simp <;> with_reducible rfl)
  simp only [Act.put, List.setIfInBounds_toArray, List.set_cons_zero, List.set_cons_succ]
  refine takeL 5 (v := ?_) rfl (by kernel_rfl) (by kernel_rfl) (by kernel_rfl) (fun _ _ _ h => h) (Or.inl ⟨by rfl, ?_⟩) (by assumption) ?_
  rotate_left
  focus (intro wq hSq; obtain ⟨f0, f1, f2, f3, f4⟩ := HF.out wq hSq; go_simp <;> with_reducible rfl)
  simp only [Act.put, List.setIfInBounds_toArray, List.set_cons_zero, List.set_cons_succ]
  refine takeL 6 (v := ?_) rfl (by kernel_rfl) (by kernel_rfl) (by kernel_rfl) (fun _ _ _ h => h) (Or.inl ⟨by rfl, ?_⟩) (by assumption) ?_
  rotate_left
  focus (intro wq hSq; obtain ⟨f0, f1, f2, f3, f4⟩ := HF.out wq hSq; go_simp <;> with_reducible rfl)
  simp only [Act.put, List.setIfInBounds_toArray, List.set_cons_zero, List.set_cons_succ]
  refine takeL 7 (v := ?_) rfl (by kernel_rfl) (by kernel_rfl) (by kernel_rfl) (fun _ _ _ h => h) (Or.inl ⟨by rfl, ?_⟩) (by assumption) ?_
  rotate_left
  focus (intro wq hSq; obtain ⟨f0, f1, f2, f3, f4⟩ := HF.out wq hSq; go_simp <;> with_reducible rfl)
  simp only [Act.put, List.setIfInBounds_toArray, List.set_cons_zero, List.set_cons_succ]
  refine takeL 8 (v := ?_) rfl (by kernel_rfl) (by kernel_rfl) (by kernel_rfl) (fun _ _ _ h => h) (Or.inl ⟨by rfl, ?_⟩) (by assumption) ?_
  rotate_left
  focus (intro wq hSq; obtain ⟨f0, f1, f2, f3, f4⟩ := HF.out wq hSq; go_simp <;> with_reducible rfl)
  simp only [Act.put, List.setIfInBounds_toArray, List.set_cons_zero, List.set_cons_succ]
  refine wpAnyH_ready (rs := [9]) (by kernel_rfl) (by simp) (nextL 9 rfl (fun Kr hKr => ?_) AllReadyH.nil)
  go_simp
  refine hKr.out _ _ (hd.alloc hd.size _) (fun hHeld2 => ?_)
  clear hKr hHeld
  refine wpAnyH_ready (rs := [10]) (by kernel_rfl) (by simp) (nextL 10 rfl (fun Kr hKr => ?_) AllReadyH.nil)
  go_simp
  refine hKr.out _ _ (hd.alloc hd.size _) (fun hEnd => ?_)
  clear hKr hHeld2
  refine takeL 11 (v := ?_) rfl (by kernel_rfl) (by kernel_rfl) (by kernel_rfl) (fun _ _ _ h => h) (Or.inl ⟨by rfl, ?_⟩) (by assumption) ?_
  rotate_left
  focus (intro wq hSq; obtain ⟨f0, f1, f2, f3, f4⟩ := HF.out wq hSq; go_simp <;> with_reducible rfl)
  simp only [Act.put, List.setIfInBounds_toArray, List.set_cons_zero, List.set_cons_succ]
  refine wpAnyH_done (by kernel_rfl) ?_ _
  obtain ⟨W1, hW1⟩ : ∃ W1, W1 = (W0.alloc (.cells #[.bool ya, .int .i64 yt, .slice ao yl.length cap] 52)).drew := ⟨_, rfl⟩
  have HE := Lib.hid hEnd
  have b3 : CBox W1 W0.heap.size 52 #[.bool ya, .int .i64 yt, .slice ao yl.length cap] := by rw [hW1]; exact (show CBox (W0.alloc _) _ _ _ from CBox.new _ rfl)
  rw [← hW1] at HE ⊢
  obtain ⟨s0, _⟩ := b3.at_ 0 _ rfl
  obtain ⟨s1, _⟩ := b3.at_ 1 _ rfl
  obtain ⟨s2, _⟩ := b3.at_ 2 _ rfl
  have HC := Lib.hid (tcopiedL_any (ya, yt, yl) _ W1 (HT.out.mono HE.out))
  have HBE := Lib.hid (HB.out.trans (HE.out.mono HB.out.size))
  have B2' := Lib.hid (B2.out.below HE.out B2.out.lt)
  clear hEnd b3 hd hW1 HF HT HB HE B2
  go_wp2_with fail
  refine HC.out.mono ?_
  rintro e w2 ⟨u, rfl, hT2, hl2, hb2⟩
  obtain ⟨uo, uc, rfl⟩ := hT2.shape
  have B3 := Lib.hid (B2'.out.below hb2 B2'.out.lt)
  obtain ⟨z0, _⟩ := B3.out.at_ 0 _ rfl
  obtain ⟨z1, _⟩ := B3.out.at_ 1 _ rfl
  obtain ⟨z2, _⟩ := B3.out.at_ 2 _ rfl
  have HT2 := Lib.hid hT2
  have HLI := Lib.hid (hl2.mono HBE.out.size)
  have HB2 := Lib.hid (HBE.out.trans (hb2.mono HBE.out.size))
  clear hT2 hb2 hl2 HC s0 s1 s2 B2' HBE
  unfold encS
  go_wp2
  have R := fun u1 u2 u3 => ((B3.out.set 0 u1).set 1 u2).set 2 u3
  have r0 := fun u1 u2 u3 => ((R u1 u2 u3).at_ 0 _ rfl).1
  have r1 := fun u1 u2 u3 => ((R u1 u2 u3).at_ 1 _ rfl).1
  have r2 := fun u1 u2 u3 => ((R u1 u2 u3).at_ 2 _ rfl).1
  have a2 : yl ≠ [] → ∀ c, (Value.slice uo yl.length uc).ownBlock = some c → c ≠ w.heap.size + 1 := fun hL c hc => HT2.out.ne_box B3.out (fun i s => ns3 _ _ _ _ _ i s) hL c hc
  refine bodyPost_ret (v := .tuple #[.agg #[.bool ya, .int .i64 yt, .slice uo yl.length uc], .bool is]) (by simp [results, Try.results13, go_sem, r0, r1, r2]) rfl ⟨_, rfl, ?_, HLI.out, ?_⟩
  · exact ((HT2.out.apart (p := ⟨w.heap.size + 1, 0, none⟩) a2 _).apart (p := ⟨w.heap.size + 1, 1, none⟩) a2 _).apart (p := ⟨w.heap.size + 1, 2, none⟩) a2 _
  · exact ((HB2.out.setCell (by simp) _).setCell (by simp) _).setCell (by simp) _
end Go.Proofs.Ytpibmjkbebkilaa

/- A slice of states: the call's own while it grows; then read. -/
namespace Go.Proofs.Ytpibmjkbebkilaa
open Go.RowKit Go.Lib Go.Maps Go.Sort
set_option maxRecDepth 20000

/-- a state and the value of its sources -/
abbrev SQ := Stt × Value
def scells (q : SQ) : List Value := [.bool q.1.1, .int .i64 q.1.2.1, q.2]
/-- a slice of states of the call's own -/
def SRow (w : World) (base : Nat) (v : Value) (Q : List SQ) : Prop :=
  w.ownsRow base 52 3 v Q.length (Q.flatMap scells) ∧ ∀ q ∈ Q, Tms w q.2 q.1.2.2 ∧ (q.1.2.2 ≠ [] → q.2.ownBlock ≠ v.ownBlock)
theorem SRow.nil (w : World) (base : Nat) : SRow w base (.slice none 0 0) [] := ⟨World.ownsRow_nil _ _ _ _, by simp⟩
theorem SRow.below {w w' : World} {base : Nat} {v : Value} {Q : List SQ} (h : SRow w base v Q) (hb : Below w.heap.size w w') : SRow w' base v Q :=
  ⟨own_below h.1 hb, fun q hq => ⟨(h.2 q hq).1.mono hb, (h.2 q hq).2⟩⟩
theorem Tms.block {w : World} {v : Value} {L : List Tmd} (h : Tms w v L) (hL : L ≠ []) : ∃ b, v.ownBlock = some b ∧ b < w.heap.size := by
  obtain ⟨ao, cap, b, off, rfl, h0, h1, h2, h3⟩ := h
  rcases h0 with h0 | rfl
  · exact absurd h0 hL
  · exact ⟨b, rfl, (h3 0 (List.length_pos_iff.2 hL)).1⟩
theorem Tms.grownR {w w' : World} {v : Value} {L : List Tmd} {row : Option Nat} (h : Tms w v L) (hg : w.grownBy w' row) (hne : L ≠ [] → v.ownBlock ≠ row) : Tms w' v L := by
  obtain ⟨ao, cap, b, off, rfl, h0, h1, h2, h3⟩ := h
  refine ⟨ao, cap, b, off, rfl, h0, h1, h2, fun k hk => ?_⟩
  obtain ⟨hlt, hc⟩ := h3 k hk
  have hL : L ≠ [] := by intro e; subst e; simp at hk
  rcases h0 with h0 | rfl
  · exact absurd h0 hL
  · have hb := hg.block b hlt (hne hL)
    refine ⟨Nat.lt_of_lt_of_le hlt hg.size, ?_, ?_⟩
    · rw [World.cell?_of_block (w := w) hb]
      exact hc.1
    · rw [World.cell?_of_block (w := w) hb]
      exact hc.2
theorem SRow.push {w w' : World} {base : Nat} {v v' : Value} {Q : List SQ} {q : SQ} (h : SRow w base v Q) (hs : Tms w q.2 q.1.2.2) (hne : q.1.2.2 ≠ [] → q.2.ownBlock ≠ v.ownBlock)
    (hown : w'.ownsRow base 52 3 v' (Q.length + 1) (Q.flatMap scells ++ scells q)) (hg : w.grownBy w' v.ownBlock) (hv : v'.ownBlock = v.ownBlock ∨ v'.ownBlock = some w.heap.size) : SRow w' base v' (Q ++ [q]) := by
  refine ⟨by simpa using hown, fun r hr => ?_⟩
  have key : Tms w r.2 r.1.2.2 ∧ (r.1.2.2 ≠ [] → r.2.ownBlock ≠ v.ownBlock) := by
    rcases List.mem_append.1 hr with hr | hr
    · exact h.2 r hr
    · rw [List.mem_singleton] at hr; subst hr; exact ⟨hs, hne⟩
  obtain ⟨k1, k4⟩ := key
  refine ⟨k1.grownR hg k4, fun hL => ?_⟩
  rcases hv with e | e
  · rw [e]; exact k4 hL
  · obtain ⟨b, hb, hlt⟩ := k1.block hL
    rw [e, hb]
    intro e'
    injection e' with e'
    omega
theorem sflat_get (Q : List SQ) (k : Nat) (hk : k < Q.length) (d : SQ) : (Q.flatMap scells)[k * 3]? = some (.bool (Q.getD k d).1.1) ∧ (Q.flatMap scells)[k * 3 + 1]? = some (.int .i64 (Q.getD k d).1.2.1) ∧ (Q.flatMap scells)[k * 3 + 2]? = some (Q.getD k d).2 := by
  induction Q generalizing k with
  | nil => simp at hk
  | cons q Q ih =>
    cases k with
    | zero => simp [scells]
    | succ k =>
      have := ih k (by simpa using hk)
      have e : ∀ j, (k + 1) * 3 + j = (k * 3 + j) + 3 := fun j => by omega
      have e0 : (k + 1) * 3 = (k * 3) + 3 := by omega
      rw [e, e, e0]
      simpa [scells] using this
/-- a slice of states that is read -/
def StsQ (w : World) (v : Value) (Q : List SQ) : Prop :=
  ∃ ao cap b off, v = .slice ao Q.length cap ∧ (Q = [] ∨ ao = some ⟨b, off, none⟩) ∧
    (∀ k, k < Q.length → b < w.heap.size ∧ w.cell? ⟨b, off + k * 3, none⟩ = some (.bool (Q.getD k default).1.1) ∧ w.cell? ⟨b, off + k * 3 + 1, none⟩ = some (.int .i64 (Q.getD k default).1.2.1) ∧ w.cell? ⟨b, off + k * 3 + 2, none⟩ = some (Q.getD k default).2 ∧
      Tms w (Q.getD k default).2 (Q.getD k default).1.2.2)
theorem SRow.read {w : World} {base : Nat} {v : Value} {Q : List SQ} (h : SRow w base v Q) : StsQ w v Q := by
  rcases h.1.2 with ⟨rfl, h0⟩ | ⟨g, cap, cur, rfl, hb, hg, hn, hm, hs, ht⟩
  · rw [List.length_eq_zero_iff] at h0
    subst h0
    exact ⟨none, 0, 0, 0, rfl, .inl rfl, fun k hk => by simp at hk⟩
  · refine ⟨_, cap, g, 0, rfl, .inr rfl, fun k hk => ?_⟩
    obtain ⟨x0, x1, x2⟩ := sflat_get Q k hk default
    have hc := h.1.cells (g := g) rfl
    have c0 := hc _ _ x0
    have c1 := hc _ _ x1
    have c2 := hc _ _ x2
    rw [add_lit] at c0 c1 c2
    have hq := h.2 (Q.getD k default) (by simp [List.getD_eq_getElem?_getD, hk])
    refine ⟨(Array.getElem?_eq_some_iff.1 hg).1, c0, ?_, ?_, hq.1⟩
    · rw [show 0 + k * 3 + 1 = 0 + (k * 3 + 1) from by omega]; exact c1
    · rw [show 0 + k * 3 + 2 = 0 + (k * 3 + 2) from by omega]; exact c2
theorem StsQ.keep {w w' : World} {v : Value} {Q : List SQ} (h : StsQ w v Q) (hk : CKeep w w') : StsQ w' v Q := by
  obtain ⟨ao, cap, b, off, rfl, h0, h1⟩ := h
  exact ⟨ao, cap, b, off, rfl, h0, fun k hlt => by obtain ⟨a, c0, c1, c2, ht⟩ := h1 k hlt; exact ⟨Nat.lt_of_lt_of_le a hk.1, hk.cell c0, hk.cell c1, hk.cell c2, hk.tms ht⟩⟩
theorem StsQ.shape {w : World} {v : Value} {Q : List SQ} (h : StsQ w v Q) : ∃ ao cap, v = .slice ao Q.length cap := by
  obtain ⟨ao, cap, _, _, h, _⟩ := h
  exact ⟨ao, cap, h⟩
theorem StsQ.facts {w : World} {v : Value} {Q : List SQ} (h : StsQ w v Q) :
    ∃ b off, (∀ k, k < Q.length → ∀ w', (Instr.indexAt 59 v (.int .i64 k)).run Try.prog w' = .ok (.pointer (some ⟨b, off + k * 3, none⟩)) w') ∧
      (∀ k, k < Q.length → b < w.heap.size ∧ w.cell? ⟨b, off + k * 3, none⟩ = some (.bool (Q.getD k default).1.1) ∧ w.cell? ⟨b, off + k * 3 + 1, none⟩ = some (.int .i64 (Q.getD k default).1.2.1) ∧ w.cell? ⟨b, off + k * 3 + 2, none⟩ = some (Q.getD k default).2 ∧
      Tms w (Q.getD k default).2 (Q.getD k default).1.2.2) := by
  obtain ⟨ao, cap, b, off, rfl, h0, h2⟩ := h
  refine ⟨b, off, fun k hk w' => ?_, h2⟩
  rcases h0 with h0 | rfl
  · subst h0; exact absurd hk (by simp)
  · exact run_index_any (P := Try.prog) (s := 3) Try.underlying59 (fun w => by kernel_rfl) b off Q.length cap k hk w'
theorem infoStt : (Try.prog.info? 52).map (fun i => (i.zero, i.size, i.bytes)) = some (some (.agg #[.bool false, .int .i64 0, .slice none 0 0]), 3, 40) := by kernel_rfl
end Go.Proofs.Ytpibmjkbebkilaa
