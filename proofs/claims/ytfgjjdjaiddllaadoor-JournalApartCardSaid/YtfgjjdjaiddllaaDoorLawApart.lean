/- JournalApart: the walk. Condition: the arguments are slices of strings as they are read. -/
import Derived.Test.YtfgjjdjaiddllaaDoorLawE
import Derived.Test.YtfgjjdjaiddllaaDoorLawEpochs
import Derived.Deep.DeepCutAuto
namespace Go.Proofs.YtfgjjdjaiddllaaDoor
set_option linter.unusedVariables false
set_option linter.unusedSimpArgs false
open Go Go.RowKit Go.Maps
set_option maxRecDepth 100000 in
set_option maxHeartbeats 8000000 in
theorem apart_any (n1 n2 : Int) (v1 v2 : Value) (xs ys : List ByteArray) (w : World) (h1 : 0 ≤ n1 ∧ n1 < 256) (h2 : 0 ≤ n2 ∧ n2 < 256) (hv1 : StrsC w v1 xs) (hv2 : StrsC w v2 ys) (hb1 : ∀ x ∈ xs, x.size ≤ 140737488355328) (hl1 : xs.length ≤ 140737488355328)
    (hb2 : ∀ x ∈ ys, x.size ≤ 140737488355328) (hl2 : ys.length ≤ 140737488355328) :
    Calls Tryd.prog 6 #[.int .u8 n1, .int .u8 n2, v1, v2] w fun e w' => e = .returned (.bool true) ∧ Below w.heap.size w w' := by
  obtain ⟨a1, cp1, rfl⟩ := hv1.len
  obtain ⟨a2, cp2, rfl⟩ := hv2.len
  have HV1 := Lib.hid hv1; have HV2 := Lib.hid hv2; have HS1 := Lib.hid hb1; have HS2 := Lib.hid hb2; clear hv1 hv2 hb1 hb2
  go_enter Tryd.func6, Tryd.ntmps6
  go_wp2_with fail
  refine (awake_any _).mono ?_
  rintro e1 w1 ⟨rfl, hb1⟩
  have HB1 := Lib.hid hb1; have HU1 := Lib.hid (HV1.out.below hb1); have HU2 := Lib.hid (HV2.out.below hb1); clear hb1
  go_wp2_with fail
  refine (few_any _ _ _ HU1.out HS1.out hl1).mono ?_
  rintro e2 w2 ⟨rfl, rfl⟩
  cases hf1 : few xs with
  | false =>
    go_wp2_with fail
    go_ret
    exact ⟨rfl, HB1.out⟩
  | true =>
    go_wp2_with fail
    refine (few_any _ _ _ HU2.out HS2.out hl2).mono ?_
    rintro e3 w3 ⟨rfl, rfl⟩
    cases hf2 : few ys with
    | false =>
      go_wp2_with fail
      go_ret
      exact ⟨rfl, HB1.out⟩
    | true =>
      obtain ⟨h16x, hzx⟩ := few_parts hf1
      obtain ⟨h16y, hzy⟩ := few_parts hf2
      clear hf1 hf2 HS1 HS2 HU1 HU2
      obtain ⟨A, hA⟩ : ∃ A : Nat, 1 + n1 % 6 = A := ⟨(1 + n1 % 6).toNat, by omega⟩
      obtain ⟨B, hB⟩ : ∃ B : Nat, 1 + n2 % 6 = B := ⟨(1 + n2 % 6).toNat, by omega⟩
      have hA1 : 1 ≤ A ∧ A ≤ 6 := by omega
      have hB1 : 1 ≤ B ∧ B ≤ 6 := by omega
      have HZX := Lib.hid hzx; have HZY := Lib.hid hzy; have HA := Lib.hid hA; have HB := Lib.hid hB; clear hzx hzy hA hB
      go_wp2_with fail
      rw [HA.out, HB.out]
      obtain ⟨M, hM⟩ : ∃ M : Nat, M = A + B + 2 := ⟨_, rfl⟩
      have hMi : (A : Int) + B + 2 = M := by omega
      rw [hMi]
      have HM := Lib.hid hM; clear hM hMi
      refine (pages_any M _ (by have := HM.out; omega) (by have := HM.out; omega)).mono ?_
      rintro e4 w4 ⟨d, rv, rfl, hd, hrv, hb4, hdf⟩
      obtain ⟨ra, rc, rfl⟩ := hrv.len
      rw [List.length_replicate] at *
      have hdk : Dk w [] w4 d (.blank M) := ⟨hd, blank_calm M, blank_sized M, (fun x hx => by cases hx), fun k hk => Nat.le_trans HB1.out.size (hdf k hk), HB1.out.trans (hb4.mono HB1.out.size)⟩
      have HDK := Lib.hid hdk; clear hd hrv hb4 hdf hdk
      unfold rDiskV
      go_wp2_with fail
      have HDK5 := Lib.hid (HDK.out.under ((Below.refl _ _).alloc (Nat.le_refl _) (.cells #[.slice ra M rc, .slice none 0 0] 29)))
      generalize w4.alloc (.cells #[.slice ra M rc, .slice none 0 0] 29) = w5 at *
      refine (open_clean 0 A 1 d (.blank M) _ _ _ _ _ rfl rfl rfl rfl HDK5.out.disk (blank_calm M) (blank_sized M) (blank_clean _ _ _ _) (by omega) (by have := HM.out; simp [DiskC.blank]; omega) (by omega)).mono ?_
      rintro e6 w6 ⟨x, rfl, hx, xf, xn, xe, xr, -, hxf, hb6⟩
      have xf : x.first = 0 := xf; have xn : x.count = A := xn; have xe : x.epoch = 1 := xe; have xr : x.recs = [] := xr
      have HX := Lib.hid hx; have XF := Lib.hid xf; have XN := Lib.hid xn; have XE := Lib.hid xe; have XR := Lib.hid xr; have HXF := Lib.hid hxf; have HB6 := Lib.hid hb6
      clear hx xf xn xe xr hxf hb6
      go_wp2_with fail
      refine (open_clean (A + 1) B 1 d (.blank M) w6 _ _ _ _ rfl (by omega) rfl rfl HX.out.jd.disk (blank_calm M) (blank_sized M) (blank_clean _ _ _ _) (by omega) (by have := HM.out; simp [DiskC.blank]; omega) (by omega)).mono ?_
      rintro e7 w7 ⟨y, rfl, hy, yf, yn, ye, yr, -, hyf, hb7⟩
      have yf : y.first = A + 1 := yf; have yn : y.count = B := yn; have ye : y.epoch = 1 := ye; have yr : y.recs = [] := yr
      have hap : Ap w 0 A (A + 1) B M A (A + B + 1) x.jb y.jb d.a (.slice none 0 0) (.slice none 0 0) [] [] w7 x y d (.blank M) := by
        have := HM.out
        exact ⟨Tw.make HDK5.out HX.out HB6.out HXF.out hy hb7 hyf, rfl, rfl, rfl, XF.out, XN.out, XE.out, yf, yn, ye, by simp [DiskC.blank], blank_read0 _ _ (by omega), blank_read0 _ _ (by omega)⟩
      have hgeo : Geo 0 A (A + 1) B M A (A + B + 1) := by
        have := HM.out
        exact ⟨by omega, by omega, by omega, by omega, by omega, by omega, by omega, by omega, by omega⟩
      have HAP := Lib.hid hap; have GEO := Lib.hid hgeo; have YR := Lib.hid yr
      clear hy yf yn ye yr hyf hb7 hap hgeo
      go_wp2_with fail
      obtain ⟨mx, hmx, hmx1, hmx2, hmx3⟩ : ∃ mx : Nat, max (xs.length : Int) ys.length = mx ∧ mx ≤ 16 ∧ xs.length ≤ mx ∧ ys.length ≤ mx := ⟨max xs.length ys.length, by omega, by omega, by omega, by omega⟩
      rw [hmx]
      clear hmx
      go_loopw [17, 18, 84] (fun P Q i wr => ∃ (k : Nat) (x' y' : Jour) (d' : DiskP) (c' : DiskC), k ≤ mx ∧ i = .int .i64 k ∧ Ap w 0 A (A + 1) B M A (A + B + 1) x.jb y.jb d.a P Q x'.recs y'.recs wr x' y' d' c' ∧ x'.recs.length ≤ k ∧ y'.recs.length ≤ k) (fun _ _ i _ => mx - (intOf i).toNat)
      case atStart => exact ⟨0, x, y, d, .blank M, by omega, rfl, by rw [XR.out, YR.out]; exact HAP.out, by rw [XR.out]; exact Nat.le_refl _, by rw [YR.out]; exact Nat.le_refl _⟩
      case round =>
        obtain ⟨k, x', y', d', c', hk, rfl, hap, hxl, hyl⟩ := hrel
        have HAPP := Lib.hid hap; have HXL := Lib.hid hxl; have HYL := Lib.hid hyl; clear hap hxl hyl
        by_cases hlt : k < mx
        · have dk : decide ((k : Int) < mx) = true := by simp; omega
          by_cases hq : k < xs.length
          · have dq : decide ((k : Int) < xs.length) = true := by simp; omega
            obtain ⟨b1, o1, rfl⟩ := HV1.out.addr hq
            have cex := (HV1.out.below HAPP.out.tw.below).cell_at hq
            have t3 := HZX.out k hq
            obtain ⟨s1, hs1⟩ : ∃ s, s = xs.getD k ⟨#[]⟩ := ⟨_, rfl⟩
            rw [← hs1] at t3 cex
            have HS1 := Lib.hid hs1; clear hs1
            go_wp2_with fail
            have hap1 := append_live x' d' c' s1 wr HAPP.out.tw.sx.live (by omega) (by have := HXL.out; omega)
            rw [HAPP.out.xj] at hap1
            refine hap1.mono ?_
            rintro e10 w10 ⟨x10, d10, c10, hst, hl10, ⟨hfit, rfl, rfl, hr10, -⟩ | ⟨hfull, rfl, rfl, hr10, -⟩⟩
            · have ha10 := Lib.hid (HAPP.out.wrote GEO.out hst hl10 (by omega) hfit)
              have cez := (HV1.out.below ha10.out.tw.below).cell_at hq
              rw [← HS1.out] at cez
              have HR10 := Lib.hid hr10
              have hlen10 : x'.recs.length ≤ 16 := by have := HXL.out; omega
              clear hst hl10 hap1 hr10 hfit cex
              obtain ⟨i1, hi, hz0, hz1, hz2⟩ := info_parts info_str
              have hrows := ha10.out.tw.sx.rows
              have HROWS := Lib.hid hrows; clear hrows
              go_wp2_with (at_builtin; go_must (refine wpList_append_own_at _ rfl _ _ 22 rfl w.heap.size 9 i1 _ 1 16 Tryd.underlying22 hi hz0 hz1 hz2 rfl (by omega) _ x'.recs.length (x'.recs.map Value.string) rfl (HROWS.out.alloc _) ⟨w10.heap.size, 0, none⟩ 1 1 [.string s1] rfl rfl ?c1 ?c2 ?c3 ?c4 ?c5 ?_))
              case c1 =>
                intro j u hj
                match j, hj with
                | 0, hj => simp at hj; subst hj; simp [Addr.add]
              case c2 => intro u hu; simp at hu; subst hu; rfl
              case c3 => unfold maxLen; omega
              case c4 => omega
              case c5 => have := ha10.out.tw.below.size; simp; omega
              intro v2 w15 how hg _ hb'
              have ha15 := ha10.out.grow (w1 := w10.alloc (.cells #[.string s1] 9)) (xs' := x'.recs ++ [s1]) ((Below.refl _ _).alloc (Nat.le_refl _) _) hg (by rw [List.length_append, List.map_append]; exact how) (hb'.imp id (fun h => ⟨_, h, by simp⟩))
              obtain ⟨g2, cap2, rfl, _⟩ := own_cell how (by omega)
              have hrx : x10.recs.length ≤ k + 1 := by rw [HR10.out, List.length_append]; have := HXL.out; show _ + 1 ≤ _; omega
              rw [← HR10.out] at ha15
              have HA15 := Lib.hid ha15; clear how hg hb' ha15 cez
              have HRX := Lib.hid hrx; clear hrx
              by_cases hr : k < ys.length
              · have dr : decide ((k : Int) < ys.length) = true := by simp; omega
                obtain ⟨b2, o2, rfl⟩ := HV2.out.addr hr
                have cey := (HV2.out.below HA15.out.tw.below).cell_at hr
                have t4 := HZY.out k hr
                obtain ⟨s2, hs2⟩ : ∃ s, s = ys.getD k ⟨#[]⟩ := ⟨_, rfl⟩
                rw [← hs2] at t4 cey
                have HS2 := Lib.hid hs2; clear hs2
                go_wp2_with fail
                have hap2 := append_live y' d10 (after x' s1 c') s2 w15 HA15.out.tw.sy.live (by omega) (by have := HYL.out; omega)
                rw [HA15.out.yj] at hap2
                refine hap2.mono ?_
                rintro e20 w20 ⟨y20, d20, c20, hst, hl20, ⟨hfit, rfl, rfl, hr20, -⟩ | ⟨hfull, rfl, rfl, hr20, -⟩⟩
                · have ha20 := Lib.hid (HA15.out.swap.wrote GEO.out.swap hst hl20 (by omega) hfit)
                  have cez := (HV2.out.below ha20.out.tw.below).cell_at hr
                  rw [← HS2.out] at cez
                  have HR20 := Lib.hid hr20
                  have hlen20 : y'.recs.length ≤ 16 := by have := HYL.out; omega
                  clear hst hl20 hap2 hr20 hfit cey
                  obtain ⟨i1, hi, hz0, hz1, hz2⟩ := info_parts info_str
                  have hrows := ha20.out.tw.sx.rows
                  have HROWS := Lib.hid hrows; clear hrows
                  go_wp2_with (at_builtin; go_must (refine wpList_append_own_at _ rfl _ _ 22 rfl w.heap.size 9 i1 _ 1 16 Tryd.underlying22 hi hz0 hz1 hz2 rfl (by omega) _ y'.recs.length (y'.recs.map Value.string) rfl (HROWS.out.alloc _) ⟨w20.heap.size, 0, none⟩ 1 1 [.string s2] rfl rfl ?c1 ?c2 ?c3 ?c4 ?c5 ?_))
                  case c1 =>
                    intro j u hj
                    match j, hj with
                    | 0, hj => simp at hj; subst hj; simp [Addr.add]
                  case c2 => intro u hu; simp at hu; subst hu; rfl
                  case c3 => unfold maxLen; omega
                  case c4 => omega
                  case c5 => have := ha20.out.tw.below.size; simp; omega
                  intro v22 w25 how hg _ hb'
                  have ha25 := (ha20.out.grow (w1 := w20.alloc (.cells #[.string s2] 9)) (xs' := y'.recs ++ [s2]) ((Below.refl _ _).alloc (Nat.le_refl _) _) hg (by rw [List.length_append, List.map_append]; exact how) (hb'.imp id (fun h => ⟨_, h, by simp⟩))).swap
                  obtain ⟨g22, cap22, rfl, _⟩ := own_cell how (by omega)
                  have hy20 : y20.recs.length ≤ k + 1 := by rw [HR20.out, List.length_append]; have := HYL.out; show _ + 1 ≤ _; omega
                  rw [← HR20.out] at ha25
                  have HA25 := Lib.hid ha25; have HY20 := Lib.hid hy20; clear how hg hb' ha25 hy20
                  go_wp2_with fail
                  exact ⟨⟨k + 1, x10, y20, d20, _, by omega, by go_num, HA25.out, HRX.out, HY20.out⟩, by simp [intOf]; omega⟩
                · have ha20 := Lib.hid (HA15.out.swap.full GEO.out.swap hst hl20).swap
                  have HR20 := Lib.hid hr20
                  clear hst hl20 hap2 hr20 hfull cey
                  go_wp2_with fail
                  exact ⟨⟨k + 1, x10, y20, d20, _, by omega, by go_num, by rw [HR20.out]; exact ha20.out, HRX.out, by rw [HR20.out]; have := HYL.out; omega⟩, by simp [intOf]; omega⟩
              · have dr : decide ((k : Int) < ys.length) = false := by simp; omega
                go_wp2_with fail
                exact ⟨⟨k + 1, x10, y', d10, (after x' s1 c'), by omega, by go_num, HA15.out, HRX.out, by have := HYL.out; omega⟩, by simp [intOf]; omega⟩
            · have ha10 := Lib.hid (HAPP.out.full GEO.out hst hl10)
              have hrx : x10.recs.length ≤ k + 1 := by rw [hr10]; have := HXL.out; omega
              rw [← hr10] at ha10
              clear hst hl10 hap1 hr10 hfull cex
              have HRX := Lib.hid hrx; clear hrx
              by_cases hr : k < ys.length
              · have dr : decide ((k : Int) < ys.length) = true := by simp; omega
                obtain ⟨b2, o2, rfl⟩ := HV2.out.addr hr
                have cey := (HV2.out.below ha10.out.tw.below).cell_at hr
                have t4 := HZY.out k hr
                obtain ⟨s2, hs2⟩ : ∃ s, s = ys.getD k ⟨#[]⟩ := ⟨_, rfl⟩
                rw [← hs2] at t4 cey
                have HS2 := Lib.hid hs2; clear hs2
                go_wp2_with fail
                have hap2 := append_live y' d10 c10 s2 w10 ha10.out.tw.sy.live (by omega) (by have := HYL.out; omega)
                rw [ha10.out.yj] at hap2
                refine hap2.mono ?_
                rintro e20 w20 ⟨y20, d20, c20, hst, hl20, ⟨hfit, rfl, rfl, hr20, -⟩ | ⟨hfull, rfl, rfl, hr20, -⟩⟩
                · have ha20 := Lib.hid (ha10.out.swap.wrote GEO.out.swap hst hl20 (by omega) hfit)
                  have cez := (HV2.out.below ha20.out.tw.below).cell_at hr
                  rw [← HS2.out] at cez
                  have HR20 := Lib.hid hr20
                  have hlen20 : y'.recs.length ≤ 16 := by have := HYL.out; omega
                  clear hst hl20 hap2 hr20 hfit cey
                  obtain ⟨i1, hi, hz0, hz1, hz2⟩ := info_parts info_str
                  have hrows := ha20.out.tw.sx.rows
                  have HROWS := Lib.hid hrows; clear hrows
                  go_wp2_with (at_builtin; go_must (refine wpList_append_own_at _ rfl _ _ 22 rfl w.heap.size 9 i1 _ 1 16 Tryd.underlying22 hi hz0 hz1 hz2 rfl (by omega) _ y'.recs.length (y'.recs.map Value.string) rfl (HROWS.out.alloc _) ⟨w20.heap.size, 0, none⟩ 1 1 [.string s2] rfl rfl ?c1 ?c2 ?c3 ?c4 ?c5 ?_))
                  case c1 =>
                    intro j u hj
                    match j, hj with
                    | 0, hj => simp at hj; subst hj; simp [Addr.add]
                  case c2 => intro u hu; simp at hu; subst hu; rfl
                  case c3 => unfold maxLen; omega
                  case c4 => omega
                  case c5 => have := ha20.out.tw.below.size; simp; omega
                  intro v22 w25 how hg _ hb'
                  have ha25 := (ha20.out.grow (w1 := w20.alloc (.cells #[.string s2] 9)) (xs' := y'.recs ++ [s2]) ((Below.refl _ _).alloc (Nat.le_refl _) _) hg (by rw [List.length_append, List.map_append]; exact how) (hb'.imp id (fun h => ⟨_, h, by simp⟩))).swap
                  obtain ⟨g22, cap22, rfl, _⟩ := own_cell how (by omega)
                  have hy20 : y20.recs.length ≤ k + 1 := by rw [HR20.out, List.length_append]; have := HYL.out; show _ + 1 ≤ _; omega
                  rw [← HR20.out] at ha25
                  have HA25 := Lib.hid ha25; have HY20 := Lib.hid hy20; clear how hg hb' ha25 hy20
                  go_wp2_with fail
                  exact ⟨⟨k + 1, x10, y20, d20, _, by omega, by go_num, HA25.out, HRX.out, HY20.out⟩, by simp [intOf]; omega⟩
                · have ha20 := Lib.hid (ha10.out.swap.full GEO.out.swap hst hl20).swap
                  have HR20 := Lib.hid hr20
                  clear hst hl20 hap2 hr20 hfull cey
                  go_wp2_with fail
                  exact ⟨⟨k + 1, x10, y20, d20, _, by omega, by go_num, by rw [HR20.out]; exact ha20.out, HRX.out, by rw [HR20.out]; have := HYL.out; omega⟩, by simp [intOf]; omega⟩
              · have dr : decide ((k : Int) < ys.length) = false := by simp; omega
                go_wp2_with fail
                exact ⟨⟨k + 1, x10, y', d10, c10, by omega, by go_num, ha10.out, HRX.out, by have := HYL.out; omega⟩, by simp [intOf]; omega⟩
          · have dq : decide ((k : Int) < xs.length) = false := by simp; omega
            have hrx : x'.recs.length ≤ k + 1 := by have := HXL.out; omega
            have HRX := Lib.hid hrx; clear hrx
            by_cases hr : k < ys.length
            · have dr : decide ((k : Int) < ys.length) = true := by simp; omega
              obtain ⟨b2, o2, rfl⟩ := HV2.out.addr hr
              have cey := (HV2.out.below HAPP.out.tw.below).cell_at hr
              have t4 := HZY.out k hr
              obtain ⟨s2, hs2⟩ : ∃ s, s = ys.getD k ⟨#[]⟩ := ⟨_, rfl⟩
              rw [← hs2] at t4 cey
              have HS2 := Lib.hid hs2; clear hs2
              go_wp2_with fail
              have hap2 := append_live y' d' c' s2 wr HAPP.out.tw.sy.live (by omega) (by have := HYL.out; omega)
              rw [HAPP.out.yj] at hap2
              refine hap2.mono ?_
              rintro e20 w20 ⟨y20, d20, c20, hst, hl20, ⟨hfit, rfl, rfl, hr20, -⟩ | ⟨hfull, rfl, rfl, hr20, -⟩⟩
              · have ha20 := Lib.hid (HAPP.out.swap.wrote GEO.out.swap hst hl20 (by omega) hfit)
                have cez := (HV2.out.below ha20.out.tw.below).cell_at hr
                rw [← HS2.out] at cez
                have HR20 := Lib.hid hr20
                have hlen20 : y'.recs.length ≤ 16 := by have := HYL.out; omega
                clear hst hl20 hap2 hr20 hfit cey
                obtain ⟨i1, hi, hz0, hz1, hz2⟩ := info_parts info_str
                have hrows := ha20.out.tw.sx.rows
                have HROWS := Lib.hid hrows; clear hrows
                go_wp2_with (at_builtin; go_must (refine wpList_append_own_at _ rfl _ _ 22 rfl w.heap.size 9 i1 _ 1 16 Tryd.underlying22 hi hz0 hz1 hz2 rfl (by omega) _ y'.recs.length (y'.recs.map Value.string) rfl (HROWS.out.alloc _) ⟨w20.heap.size, 0, none⟩ 1 1 [.string s2] rfl rfl ?c1 ?c2 ?c3 ?c4 ?c5 ?_))
                case c1 =>
                  intro j u hj
                  match j, hj with
                  | 0, hj => simp at hj; subst hj; simp [Addr.add]
                case c2 => intro u hu; simp at hu; subst hu; rfl
                case c3 => unfold maxLen; omega
                case c4 => omega
                case c5 => have := ha20.out.tw.below.size; simp; omega
                intro v22 w25 how hg _ hb'
                have ha25 := (ha20.out.grow (w1 := w20.alloc (.cells #[.string s2] 9)) (xs' := y'.recs ++ [s2]) ((Below.refl _ _).alloc (Nat.le_refl _) _) hg (by rw [List.length_append, List.map_append]; exact how) (hb'.imp id (fun h => ⟨_, h, by simp⟩))).swap
                obtain ⟨g22, cap22, rfl, _⟩ := own_cell how (by omega)
                have hy20 : y20.recs.length ≤ k + 1 := by rw [HR20.out, List.length_append]; have := HYL.out; show _ + 1 ≤ _; omega
                rw [← HR20.out] at ha25
                have HA25 := Lib.hid ha25; have HY20 := Lib.hid hy20; clear how hg hb' ha25 hy20
                go_wp2_with fail
                exact ⟨⟨k + 1, x', y20, d20, _, by omega, by go_num, HA25.out, HRX.out, HY20.out⟩, by simp [intOf]; omega⟩
              · have ha20 := Lib.hid (HAPP.out.swap.full GEO.out.swap hst hl20).swap
                have HR20 := Lib.hid hr20
                clear hst hl20 hap2 hr20 hfull cey
                go_wp2_with fail
                exact ⟨⟨k + 1, x', y20, d20, _, by omega, by go_num, by rw [HR20.out]; exact ha20.out, HRX.out, by rw [HR20.out]; have := HYL.out; omega⟩, by simp [intOf]; omega⟩
            · have dr : decide ((k : Int) < ys.length) = false := by simp; omega
              go_wp2_with fail
              exact ⟨⟨k + 1, x', y', d', c', by omega, by go_num, HAPP.out, HRX.out, by have := HYL.out; omega⟩, by simp [intOf]; omega⟩
        · have dk : decide ((k : Int) < mx) = false := by simp; omega
          go_wp2_with fail
          have hlen := HAPP.out.len
          have himg := image_any d' c' wr (by rw [HAPP.out.tw.sx.live.calm.pend]; exact Nat.zero_le _) (by have := HM.out; omega) HAPP.out.tw.sx.live.jd.disk
          rw [HAPP.out.da] at himg
          refine himg.mono ?_
          rintro e20 w20 ⟨v20, rfl, hs20, hb20⟩
          obtain ⟨a20, c20, rfl⟩ := hs20.len
          obtain ⟨b20, o20, rfl⟩ := hs20.addr (k := A) (by rw [List.length_map, List.length_range]; have := HM.out; omega)
          have z1 := hs20.cell_at (k := A) (by rw [List.length_map, List.length_range]; have := HM.out; omega)
          have z2 := hs20.cell_at (k := A + B + 1) (by rw [List.length_map, List.length_range]; have := HM.out; omega)
          rw [show ((List.range c'.durable.length).map (seen c')).getD A ⟨#[]⟩ = ⟨#[]⟩ by
            have := HM.out
            simp only [List.getD_eq_getElem?_getD, List.getElem?_map, List.getElem?_range (show A < c'.durable.length by omega), Option.map_some, Option.getD_some, seen, HAPP.out.b1]
            rfl] at z1
          rw [show ((List.range c'.durable.length).map (seen c')).getD (A + B + 1) ⟨#[]⟩ = ⟨#[]⟩ by
            have := HM.out
            have hb2 : c'.read ((A + B + 1 : Nat) : Int) = (⟨#[]⟩, 0) := HAPP.out.b2
            simp only [List.getD_eq_getElem?_getD, List.getElem?_map, List.getElem?_range (show A + B + 1 < c'.durable.length by omega), Option.map_some, Option.getD_some, seen, hb2]
            rfl] at z2
          rw [List.length_map, List.length_range, hlen]
          have HA20 := Lib.hid (HAPP.out.under hb20)
          have hMA := HM.out
          clear hs20 hb20 himg
          go_wp2_with fail
          clear hMA z1 z2
          refine (open_again x' d' c' w20 _ _ _ _ HA20.out.da (by rw [HA20.out.xf]; rfl) (by rw [HA20.out.xn]) (by rw [HA20.out.xe]; rfl) HA20.out.tw.sx.live (by rw [HA20.out.xn]; omega)).mono ?_
          rintro e21 w21 ⟨x2, rfl, hx2, -, -, -, xr2, -, -, hb21⟩
          have HA21 := Lib.hid (HA20.out.under hb21); have HX2 := Lib.hid hx2; have XR2 := Lib.hid xr2; clear hx2 xr2 hb21
          go_wp2_with fail
          refine (open_again y' d' c' w21 _ _ _ _ HA21.out.da (by rw [HA21.out.yf]; omega) (by rw [HA21.out.yn]) (by rw [HA21.out.ye]; rfl) HA21.out.tw.sy.live (by rw [HA21.out.yn]; omega)).mono ?_
          rintro e22 w22 ⟨y2, rfl, hy2, -, -, -, yr2, -, -, hb22⟩
          have HA22 := Lib.hid (HA21.out.under hb22); have HX22 := Lib.hid (HX2.out.below hb22); have HY2 := Lib.hid hy2; have YR2 := Lib.hid yr2; clear hy2 yr2 hb22
          go_wp2_with fail
          refine (records_live x2 w22 HX22.out.jd.jour).mono ?_
          rintro e23 w23 ⟨v23, rfl, hs23, hb23⟩
          rw [XR2.out] at hs23
          have HA23 := Lib.hid (HA22.out.under hb23); have HY23 := Lib.hid (HY2.out.below hb23); have HS23 := Lib.hid hs23; clear hs23 hb23
          have hxl := HXL.out; have hyl := HYL.out
          go_wp2_with fail
          refine (eqStrs_any _ _ _ _ _ HS23.out (StrsC.own HA23.out.tw.sx.rows) (by omega) (by omega)).mono ?_
          rintro e24 w24 ⟨rfl, n24, rfl⟩
          rw [show decide (x'.recs = x'.recs) = true by simp]
          have hb24 : Below w23.heap.size w23 (w23.drewN n24) := below_drewN (Below.refl _ _) n24
          have HA24 := Lib.hid (HA23.out.under hb24); have HY24 := Lib.hid (HY23.out.below hb24); clear hb24
          generalize w23.drewN n24 = w24 at *
          go_wp2_with fail
          refine (records_live y2 w24 HY24.out.jd.jour).mono ?_
          rintro e25 w25 ⟨v25, rfl, hs25, hb25⟩
          rw [YR2.out] at hs25
          have HA25 := Lib.hid (HA24.out.under hb25); have HS25 := Lib.hid hs25; clear hs25 hb25
          go_wp2_with fail
          refine (eqStrs_any _ _ _ _ _ HS25.out (StrsC.own HA25.out.tw.sy.rows) (by omega) (by omega)).mono ?_
          rintro e26 w26 ⟨rfl, n26, rfl⟩
          rw [show decide (y'.recs = y'.recs) = true by simp]
          have hb26 : Below w25.heap.size w25 (w25.drewN n26) := below_drewN (Below.refl _ _) n26
          have HA26 := Lib.hid (HA25.out.under hb26); clear hb26
          generalize w25.drewN n26 = w26 at *
          go_wp2_with fail
          go_ret
          exact ⟨by simp, HA26.out.tw.below⟩
end Go.Proofs.YtfgjjdjaiddllaaDoor
