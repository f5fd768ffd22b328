import Derived.Test.YtceiinlmblgdoaaGt2
import Derived.Test.YtceiinlmblgdoaaOc
set_option linter.unusedSimpArgs false
set_option linter.unusedVariables false
namespace Go.Proofs
open Go.RowKit

theorem gaugeTrue_walk (w : World) (V L M : Int) (A A2 : Option Addr) (ds : List Int) (ws : List (Int × Int)) (c c2 : Nat) (hat : At 1 Ic w A ds) (hat2 : At 2 Wc w A2 ws) (l0 l1 t : Int) :
    Calls Try.prog 3 #[.agg #[.int .i64 V, .int .i64 L, .int .i64 M, .slice A ds.length c, .slice A2 ws.length c2], .agg #[.int .i64 l0, .int .i64 l1], .int .i64 t] w fun e w' => e = .returned (.bool true) ∧ Below w.heap.size w w' := by
  by_cases h : Asked V L M l0 l1 t ds.length ws.length
  · have h5 : ds.length ≠ 0 := h.2.2.2.2.1
    have h7 : ds.length ≤ ws.length := h.2.2.2.2.2.2.1
    obtain ⟨d0, hd0⟩ : ∃ d, ds[0]? = some d := ⟨_, List.getElem?_eq_getElem (by omega)⟩
    obtain ⟨p0, hp0⟩ : ∃ p, ws[0]? = some p := ⟨_, List.getElem?_eq_getElem (by omega)⟩
    obtain ⟨bA, oA, rfl, hbA, -⟩ := hat 0 d0 hd0
    obtain ⟨bA2, oA2, rfl, hbA2, -⟩ := hat2 0 p0 hp0
    refine gaugeTrue_asked w V L M l0 l1 t bA oA bA2 oA2 ds ws c c2 hbA ?_ hbA2 ?_ h
    · intro k d hd
      obtain ⟨b, o, e, -, hc⟩ := hat k d hd
      simp only [Option.some.injEq, Addr.mk.injEq, and_true] at e
      obtain ⟨rfl, rfl⟩ := e
      have := hc 0 _ rfl
      rw [Nat.mul_one] at this
      exact this
    · intro k p hp
      obtain ⟨b, o, e, -, hc⟩ := hat2 k p hp
      simp only [Option.some.injEq, Addr.mk.injEq, and_true] at e
      obtain ⟨rfl, rfl⟩ := e
      exact ⟨hc 0 _ rfl, hc 1 _ rfl⟩
  · exact gaugeTrue_idle w V L M l0 l1 t A A2 ds ws c c2 h
end Go.Proofs
