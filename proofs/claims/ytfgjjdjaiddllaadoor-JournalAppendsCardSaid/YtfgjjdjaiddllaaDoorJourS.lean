/- The laws' example: it stands. No condition. -/
import Derived.Test.YtfgjjdjaiddllaaDoorJourR
import Derived.Test.YtfgjjdjaiddllaaDoorDiskF
namespace Go.Proofs.YtfgjjdjaiddllaaDoor
set_option linter.unusedVariables false
set_option linter.unusedSimpArgs false
open Go Go.RowKit Go.Maps
/-- An empty journal, as it is thought. -/
def ghost (first count epoch : Nat) : Jour := ⟨0, 0, first, count, epoch, .slice none 0 0, [], 0, chain0 epoch⟩
theorem chain0_size (e : Nat) : (chain0 e).size = 32 := Sha.sha_size _
theorem ghost_holds {e first count : Nat} {c : DiskC} (h : Clean e c first count) : Holds (ghost first count e) c := Clean.holds h rfl rfl rfl
theorem open_clean (first count epoch : Nat) (d : DiskP) (c : DiskC) (w : World) (a : Nat) (f n e : Int) (ha : d.a = a) (hf : f = first) (hn : n = count) (he : e = epoch) (h : DiskAt w d c) (hc : Calm c) (hz : Sized c) (hh : Clean epoch c first count) (h1 : 1 ≤ count) (hin : first + count ≤ c.durable.length) (hep : epoch ≤ 4611686018427387903) :
    Calls Tryd.prog 18 #[.pointer (some ⟨a, 0, none⟩), .agg #[.int .i64 f, .int .i64 n], .int .i64 e] w (LivePost w (ghost first count epoch) d c) := by
  subst ha; subst hf; subst hn; subst he
  exact open_live (ghost first count epoch) d c w h hc hz (ghost_holds hh) (Nat.zero_le _) h1 hin hep (chain0_size _)
theorem open_again (j : Jour) (d : DiskP) (c : DiskC) (w : World) (a : Nat) (f n e : Int) (ha : d.a = a) (hf : f = j.first) (hn : n = j.count) (he : e = j.epoch) (h : Live w j d c) (h1 : 1 ≤ j.count) :
    Calls Tryd.prog 18 #[.pointer (some ⟨a, 0, none⟩), .agg #[.int .i64 f, .int .i64 n], .int .i64 e] w (LivePost w j d c) := by
  subst ha; subst hf; subst hn; subst he
  exact open_live j d c w h.jd.disk h.calm h.sized h.holds h.jd.jour.next h1 h.jd.inn h.epoch h.chain
theorem append_fits (j : Jour) (d : DiskP) (c : DiskC) (s : ByteArray) (w : World) (b : Nat) (hb : j.jb = b) (h : Live w j d c) (hs : s.size ≤ 65536) (hfew : j.recs.length < 1000000) (hf : pagesOf s.size ≤ (j.count : Int) - j.next) :
    Calls Tryd.prog 19 #[.pointer (some ⟨b, 0, none⟩), .string s] w fun e w' => e = .returned (.int .i64 0) ∧ ∃ j' d', JDStep w w' j j' d d' (after j s c) ∧ Live w' j' d' (after j s c) ∧ j'.recs = j.recs ++ [s] ∧ (j'.next : Int) = j.next + pagesOf s.size := by
  subst hb
  refine (append_live j d c s w h hs hfew).mono ?_
  rintro e w' ⟨j', d', c', hst, hl, ⟨_, rfl, rfl, h1, h2⟩ | ⟨h1, _⟩⟩
  · exact ⟨rfl, j', d', hst, hl, h1, h2⟩
  · omega
theorem append_over (j : Jour) (s : ByteArray) (w : World) (b : Nat) (hb : j.jb = b) (h : JourAt w j) (hs : s.size ≤ 65536) (hf : (j.count : Int) - j.next < pagesOf s.size) :
    Calls Tryd.prog 19 #[.pointer (some ⟨b, 0, none⟩), .string s] w fun e w' => e = .returned (.int .i64 22) ∧ w' = w.drew := by
  subst hb
  exact jAppend_full j s w h hs hf
theorem free_live (j : Jour) (w : World) (b : Nat) (hb : j.jb = b) (h : JourAt w j) :
    Calls Tryd.prog 23 #[.pointer (some ⟨b, 0, none⟩)] w fun e w' => e = .returned (.int .i64 ((j.count : Int) - j.next)) ∧ w' = w.drew := by
  subst hb
  exact jFree_any j w h
theorem crash_calm (d : DiskP) (c : DiskC) (w : World) (a : Nat) (ha : d.a = a) (h : DiskAt w d c) (hc : Calm c) :
    Calls Tryd.prog 20 #[.pointer (some ⟨a, 0, none⟩), .slice none 0 0] w fun e w' => e = .returned (.tuple #[]) ∧ ∃ d', DStep w w' d d' c := by
  subst ha
  have e : { c with pending := [] } = c := by
    have := hc.pend
    cases c
    simp only at this
    subst this
    rfl
  refine (dCrash_nil d c w h hc.pend).mono ?_
  rintro e' w' ⟨rfl, h2⟩
  rw [e] at h2
  exact ⟨rfl, _, h2⟩
theorem Live.disked {w w' : World} {j : Jour} {d d' : DiskP} {c : DiskC} (h : Live w j d c) (hs : DStep w w' d d' c) : Live w' j d' c ∧ JDStep w w' j j d d' c :=
  ⟨⟨(h.jd.disked hs rfl).at_, h.holds, h.calm, h.sized, h.chain, h.epoch⟩, h.jd.disked hs rfl⟩
theorem Fr.below_of {F : Nat → Prop} {B : Nat} {w w' : World} (h : Fr F w w') (hF : ∀ k, F k → B ≤ k) (hB : B ≤ w.heap.size) : Below B w w' :=
  ⟨h.os, h.tape, h.output, h.size, fun k hk => h.keep k (Nat.lt_of_lt_of_le hk hB) (fun hf => by have := hF k hf; omega)⟩
set_option maxRecDepth 100000 in
set_option maxHeartbeats 4000000 in
theorem awake_any (w : World) : Calls Tryd.prog 9 #[] w fun e w' => e = .returned (.bool true) ∧ Below w.heap.size w w' := by
  go_enter Tryd.func9, Tryd.ntmps9
  go_wp2_with fail
  refine (dNew_any 3 _ (by omega) (by omega)).mono ?_
  rintro e w1 ⟨d, rfl, hd, hb1, hfoot⟩
  have HB1 := Lib.hid hb1; clear hb1
  have HF := Lib.hid hfoot; clear hfoot
  have HD := Lib.hid hd; clear hd
  go_wp2_with fail
  refine (open_clean 0 3 7 d (.blank 3) w1 _ _ _ _ rfl rfl rfl rfl HD.out (blank_calm 3) (blank_sized 3) (blank_clean _ _ _ _) (by omega) (by simp [DiskC.blank]) (by omega)).mono ?_
  rintro e w2 ⟨j, rfl, hl, e1, e2, e3, e4, e5, hjf, hb2⟩
  have e1 : j.first = 0 := e1; have e2 : j.count = 3 := e2; have e3 : j.epoch = 7 := e3; have e4 : j.recs = [] := e4; have e5 : j.next = 0 := e5
  have HL := Lib.hid hl; have HB2 := Lib.hid hb2; have HJF := Lib.hid hjf; clear hl hb2 hjf
  have E1 := Lib.hid e1; have E2 := Lib.hid e2; have E3 := Lib.hid e3; have E4 := Lib.hid e4; have E5 := Lib.hid e5; clear e1 e2 e3 e4 e5
  go_wp2_with fail
  refine (need_any _ _).mono ?_
  rintro e w3 ⟨rfl, rfl⟩
  rw [show pagesOf 437 = 1 by decide]
  go_wp2_with fail
  refine (need_any _ _).mono ?_
  rintro e w4 ⟨rfl, rfl⟩
  rw [show pagesOf 438 = 2 by decide]
  go_wp2_with fail
  refine (need_any _ _).mono ?_
  rintro e w5 ⟨rfl, rfl⟩
  rw [show pagesOf 0 = 1 by decide]
  go_wp2_with fail
  refine (jFree_any j _ HL.out.jd.jour).mono ?_
  rintro e w6 ⟨rfl, rfl⟩
  rw [E2.out, E5.out]
  go_wp2_with fail
  refine (Tryd.strings_Repeat ⟨#[120]⟩ 438 _ (by omega) (by decide)).mono ?_
  rintro e w7 ⟨rfl, hb7⟩
  obtain ⟨long, hlong⟩ : ∃ long : ByteArray, long = ⟨(Lib.repeatL (⟨#[120]⟩ : ByteArray).data.toList 438).toArray⟩ := ⟨_, rfl⟩
  have hlz : long.size = 438 := by
    rw [hlong]
    show (Lib.repeatL _ 438).toArray.size = 438
    simp [Lib.repeatL_length]
  rw [← hlong]
  have hl7 := (HL.out.drewN 1).below hb7
  have HL7 := Lib.hid hl7; have HB7 := Lib.hid hb7; have HZ := Lib.hid hlz; clear hl7 hb7 hlz hlong
  go_wp2_with fail
  refine (append_fits j d _ ⟨#[]⟩ w7 _ rfl HL7.out (by decide) (by rw [E4.out]; decide) (by rw [E2.out, E5.out]; decide)).mono ?_
  rintro e w8 ⟨rfl, j8, d8, hs8, hl8, r8, n8⟩
  rw [E4.out] at r8
  have n8 : j8.next = 1 := by
    rw [E5.out, show pagesOf ((⟨#[]⟩ : ByteArray).size : Nat) = 1 by decide] at n8
    omega
  have HS8 := Lib.hid hs8; have HL8 := Lib.hid hl8; have R8 := Lib.hid r8; have N8 := Lib.hid n8; clear hs8 hl8 r8 n8
  go_wp2_with fail
  refine (append_fits j8 d8 _ long w8 _ HS8.out.jb HL8.out (by rw [HZ.out]; decide) (by rw [R8.out]; decide) (by rw [HS8.out.count, E2.out, N8.out, HZ.out]; decide)).mono ?_
  rintro e w9 ⟨rfl, j9, d9, hs9, hl9, r9, n9⟩
  rw [R8.out] at r9
  have n9 : j9.next = 3 := by
    rw [N8.out, HZ.out, show pagesOf ((438 : Nat) : Int) = 2 by decide] at n9
    omega
  have HS9 := Lib.hid (HS8.out.trans hs9); have HL9 := Lib.hid hl9; have R9 := Lib.hid r9; have N9 := Lib.hid n9; clear hs9 hl9 r9 n9
  go_wp2_with fail
  refine (append_over j9 ⟨#[]⟩ w9 _ HS9.out.jb HL9.out.jd.jour (by decide) (by rw [HS9.out.count, E2.out, N9.out]; decide)).mono ?_
  rintro e w10 ⟨rfl, rfl⟩
  go_wp2_with fail
  obtain ⟨c9, hc9⟩ : ∃ c9, c9 = after j8 long (after j ⟨#[]⟩ (.blank 3)) := ⟨_, rfl⟩
  have hcl : Clean 8 c9 0 3 := by
    rw [hc9]
    refine Clean.after (Clean.after (blank_clean _ _ _ _) rfl (by simp [DiskC.blank]) ?_ (by decide) ?_) (after_calm (blank_calm 3)).pend ?_ ?_ (by decide) ?_
    · rw [E3.out]; decide
    · rw [E3.out]; decide
    · rw [after_durable]; simp [DiskC.blank]
    · rw [HS8.out.epoch, E3.out]; decide
    · rw [HS8.out.epoch, E3.out]; decide
  have hln : c9.durable.length = 3 := by
    rw [hc9, after_durable, after_durable]
    simp [DiskC.blank]
  rw [← hc9] at HS9 HL9
  have HCL := Lib.hid hcl; have HLN := Lib.hid hln; clear hcl hln hc9
  refine (crash_calm d9 c9 w9.drew _ HS9.out.a (HL9.out.drewN 1).jd.disk HL9.out.calm).mono ?_
  rintro e w11 ⟨rfl, d11, hs11⟩
  have hl11 := (HL9.out.drewN 1).disked hs11
  have HST := Lib.hid ((HS9.out.trans (HL9.out.jd.below (below_drewN (Below.refl _ _) 1))).trans hl11.2)
  have HL11 := Lib.hid hl11.1; clear hl11 hs11
  go_wp2_with fail
  refine (open_again j9 d11 c9 w11 _ _ _ _ HST.out.a (by rw [HST.out.first, E1.out]; rfl) (by rw [HST.out.count, E2.out]; rfl) (by rw [HST.out.epoch, E3.out]; rfl) HL11.out (by rw [HST.out.count, E2.out]; decide)).mono ?_
  rintro e w12 ⟨k, rfl, hk, -, -, -, rk, -, -, hb12⟩
  rw [R9.out] at rk
  have HK := Lib.hid hk; have RK := Lib.hid rk; have HB12 := Lib.hid hb12; clear hk rk hb12
  go_wp2_with fail
  refine (open_clean 0 3 8 d11 c9 w12 _ _ _ _ HST.out.a rfl rfl rfl HK.out.jd.disk HK.out.calm HK.out.sized HCL.out (by omega) (by rw [HLN.out]; decide) (by omega)).mono ?_
  rintro e w13 ⟨l, rfl, hl, -, -, -, rl, -, -, hb13⟩
  have rl : l.recs = [] := rl
  have HLL := Lib.hid hl; have RL := Lib.hid rl; have HK3 := Lib.hid (HK.out.below hb13); have HB13 := Lib.hid (HB12.out.trans (hb13.mono HB12.out.size)); clear hl rl hb13
  go_wp2_with fail
  refine (records_live k w13 HK3.out.jd.jour).mono ?_
  rintro e w14 ⟨v14, rfl, hs14, hb14⟩
  rw [RK.out] at hs14
  have HL14 := Lib.hid (HLL.out.below hb14); have HB14 := Lib.hid (HB13.out.trans (hb14.mono HB13.out.size)); have HS14 := Lib.hid hs14; clear hs14 hb14
  go_wp2_with fail
  have hn14 : At (w14.alloc (.cells #[.string ⟨#[]⟩, .string long] 9)) w14.heap.size 9 (([⟨#[]⟩, long] : List ByteArray).map Value.string).toArray := At.new _ _ _
  have ho14 : Below w14.heap.size w14 (w14.alloc (.cells #[.string ⟨#[]⟩, .string long] 9)) := (Below.refl _ _).alloc (Nat.le_refl _) _
  refine (eqStrs_any _ _ _ _ _ (HS14.out.below ho14) (StrsC.block hn14 rfl 2) (by show 2 ≤ 1000000; omega) (by show 2 ≤ 1000000; omega)).mono ?_
  rintro e w15 ⟨rfl, q, rfl⟩
  rw [show decide (([] ++ [⟨#[]⟩] ++ [long] : List ByteArray) = [⟨#[]⟩, long]) = true by simp]
  have HL15 := Lib.hid ((HL14.out.below ho14).drewN q); have HB15 := Lib.hid (HB14.out.trans ((below_drewN ho14 q).mono HB14.out.size)); clear hn14 ho14
  go_wp2_with fail
  refine (records_live l _ HL15.out.jd.jour).mono ?_
  rintro e w16 ⟨v16, rfl, hs16, hb16⟩
  rw [RL.out] at hs16
  obtain ⟨a16, c16, rfl⟩ := hs16.len
  have HB16 := Lib.hid (HB15.out.trans (hb16.mono HB15.out.size)); clear hs16 hb16
  go_wp2_with fail
  go_ret
  refine ⟨rfl, ?_⟩
  have b1 : Below w.heap.size w w7 := (HB1.out.trans ((HB2.out).mono HB1.out.size)).trans ((((Below.refl w5.heap.size w5).drew).trans HB7.out).mono (Nat.le_trans HB1.out.size HB2.out.size))
  have b2 : Below w.heap.size w7 w11 := HST.out.fr.below_of (fun k hk => by
    rcases hk with hk | hk
    · exact Nat.le_trans HB1.out.size (HJF.out k hk)
    · exact HF.out k hk) b1.size
  exact (b1.trans b2).trans (HB16.out.mono (Nat.le_trans b1.size b2.size))
end Go.Proofs.YtfgjjdjaiddllaaDoor
