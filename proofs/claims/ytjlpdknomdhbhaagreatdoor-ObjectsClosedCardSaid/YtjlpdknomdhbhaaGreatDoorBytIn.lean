/- A slice of bytes that came in, as the laws read it. No condition. -/
import Derived.Test.YtjlpdknomdhbhaaGreatDoorLawOBld
import Derived.Test.YtjlpdknomdhbhaaGreatDoorObjIn
namespace Go.Proofs.YtjlpdknomdhbhaaGreatDoor
set_option linter.unusedVariables false
set_option linter.unusedSimpArgs false
open Go Go.ChangeShapes Go.WideShapes Go.RowKit Go.Maps
theorem cellsU8 : Tryz.prog.cellsOf 5 = 1 := by kernel_rfl
theorem bytesU8 : Tryz.prog.bytesOf 5 = 1 := by kernel_rfl
theorem byts_in {H : Type} {enc : TypeId × Value → H} {W : World} {a : Option Addr} {len cap : Nat} {d : DataW H} {p : List MemPlace} (h : DataW.Trod enc Tryz.prog W 0 (fun _ => true) true 45 (.slice a len cap) d p) :
    ∃ bs : List Int, BytC W (.slice a len cap) bs := by
  obtain ⟨fuel, hf⟩ := h
  rcases open_ints Tryz.underlying45 Tryz.underlying5 cellsU8 hf with ⟨hcs, _⟩ | ⟨a', len', cap', zs, hcs, _, hl, hm, hz, hx, hcell, hwz⟩
  · have e : Value.slice a len cap = .slice none 0 0 := by simpa [Value.cells] using hcs
    rw [e]
    exact ⟨[], RowsC.nil 0 none, fun b hb => (by cases hb)⟩
  · have e : Value.slice a len cap = .slice (some a') len' cap' := by simpa [Value.cells] using hcs
    rw [e]
    have hz' : zs.length = cap' := by simpa using hz
    have hlen : (zs.take len').length = len' := by rw [List.length_take]; omega
    refine ⟨zs.take len', ⟨by rw [List.length_map, Nat.mul_one], some a', cap', by rw [hlen], ?_⟩, fun b hb => ?_⟩
    · rw [hlen]
      by_cases h0 : len' = 0
      · exact .inl h0
      · have hc0 := hcell 0 (by omega)
        obtain ⟨b, o, sp⟩ := a'
        have hspot : sp = none := by simpa [Addr.add] using World.cell?_spot hc0
        subst hspot
        have ad : ∀ q, (⟨b, o, none⟩ : Addr).add q = ⟨b, o + q, none⟩ := fun q => by unfold Addr.add; split <;> simp_all
        refine .inr ⟨b, o, rfl, ?_, fun j u hj => ?_⟩
        · rw [ad] at hc0
          exact block_lt hc0
        · have hjl : j < len' := by
            have := (List.getElem?_eq_some_iff.1 hj).1
            rw [List.length_map, hlen] at this
            exact this
          have hc := hcell j (by omega)
          rw [ad] at hc
          rw [hc]
          rw [List.getElem?_map, List.getElem?_take, if_pos hjl] at hj
          have hjz : j < zs.length := by omega
          rw [List.getElem?_eq_getElem hjz] at hj
          simp only [Option.map_some, Option.some.injEq] at hj
          rw [← hj]
          simp [List.getD_eq_getElem?_getD, hjz]
    · have hw := hwz b (List.mem_of_mem_take hb)
      simp [Lit.wf, IntKind.has] at hw
      have h1 : IntKind.u8.min = 0 := by decide
      have h2 : IntKind.u8.max = 255 := by decide
      omega
end Go.Proofs.YtjlpdknomdhbhaaGreatDoor
