/- JournalNeeds: the walk. No condition. -/
import Derived.Test.YtfgjjdjaiddllaaDoorJourS
namespace Go.Proofs.YtfgjjdjaiddllaaDoor
open Go Go.RowKit Go.Maps
theorem pagesOf_small {n : Int} (h0 : 0 ≤ n) (h1 : n ≤ 65536) : pagesOf n = if n = 0 then 1 else (n + 436) / 437 := by
  unfold pagesOf
  rw [if_neg (by omega)]
set_option maxRecDepth 100000 in
set_option maxHeartbeats 4000000 in
theorem needs_any (n : Int) (w : World) (h0 : 0 ≤ n) (h1 : n < 65536) : Calls Tryd.prog 7 #[.int .u16 n] w fun e w' => e = .returned (.bool true) ∧ Below w.heap.size w w' := by
  go_enter Tryd.func7, Tryd.ntmps7
  go_wp2_with fail
  refine (awake_any _).mono ?_
  rintro e w1 ⟨rfl, hb1⟩
  have HB1 := Lib.hid hb1; clear hb1
  by_cases hbig : n + 437 > 65536
  · have d1 : decide (n + 437 > 65536) = true := by simp; omega
    go_wp2_with fail
    refine (need_any _ _).mono ?_
    rintro e w2 ⟨rfl, rfl⟩
    rw [show pagesOf 65537 = 0 by decide]
    go_wp2_with fail
    go_ret
    exact ⟨rfl, HB1.out⟩
  · have d1 : decide (n + 437 > 65536) = false := by simp; omega
    have p0 := pagesOf_small (n := n) (by omega) (by omega)
    have p1 := pagesOf_small (n := n + 1) (by omega) (by omega)
    have p2 := pagesOf_small (n := n + 437) (by omega) (by omega)
    rw [if_neg (by omega)] at p1 p2
    have P0 := Lib.hid p0; have P1 := Lib.hid p1; have P2 := Lib.hid p2; clear p0 p1 p2
    go_wp2_with fail
    refine (need_any _ _).mono ?_
    rintro e w2 ⟨rfl, rfl⟩
    obtain ⟨a, ha⟩ : ∃ a, a = pagesOf n := ⟨_, rfl⟩
    rw [← ha]
    have HA := Lib.hid ha; clear ha
    go_wp2_with fail
    refine (need_any _ _).mono ?_
    rintro e w3 ⟨rfl, rfl⟩
    obtain ⟨b, hb⟩ : ∃ b, b = pagesOf (n + 1) := ⟨_, rfl⟩
    rw [← hb]
    have HB := Lib.hid hb; clear hb
    go_wp2_with fail
    refine (need_any _ _).mono ?_
    rintro e w4 ⟨rfl, rfl⟩
    obtain ⟨c, hc⟩ : ∃ c, c = pagesOf (n + 437) := ⟨_, rfl⟩
    rw [← hc]
    have q0 := P0.out; have q1 := P1.out; have q2 := P2.out
    rw [← HA.out] at q0; rw [← HB.out] at q1; rw [← hc] at q2
    clear hc
    have f1 : 1 ≤ a := by rw [q0]; split <;> omega
    have f2 : a ≤ b := by rw [q0, q1]; split <;> omega
    have f3 : b ≤ a + 1 := by rw [q0, q1]; split <;> omega
    have f4 : a ≤ c := by rw [q0, q2]; split <;> omega
    have f5 : n ≠ 0 → c = a + 1 := by intro h; rw [q0, q2, if_neg h]; omega
    have f6 : (a - 1) * 437 ≤ n := by rw [q0]; split <;> omega
    have f7 : n ≤ a * 437 := by rw [q0]; split <;> omega
    have f8 : a ≤ 200 := by rw [q0]; split <;> omega
    clear q0 q1 q2
    have g1 : decide (a ≥ 1) = true := decide_eq_true f1
    have g2 : decide (b ≥ a) = true := decide_eq_true f2
    have g3 : decide (b ≤ a + 1) = true := decide_eq_true f3
    have g4 : decide (c ≥ a) = true := decide_eq_true f4
    have g6 : decide ((a - 1) * 437 ≤ n) = true := decide_eq_true f6
    have g7 : decide (n ≤ a * 437) = true := decide_eq_true f7
    by_cases hn : n = 0
    · have g5 : (n == 0) = true := by simp [hn]
      have F5 := Lib.hid f5; have HN := Lib.hid hn; clear f5 hn
      go_wp2_with fail
      go_ret
      exact ⟨rfl, HB1.out⟩
    · have g5 : (n == 0) = false := by simp [hn]
      have f5' := f5 hn
      have g8 : (c == a + 1) = true := by simp [f5']
      have F5 := Lib.hid f5; have HN := Lib.hid hn; have F5' := Lib.hid f5'; clear f5 hn f5'
      go_wp2_with fail
      go_ret
      exact ⟨rfl, HB1.out⟩
end Go.Proofs.YtfgjjdjaiddllaaDoor
