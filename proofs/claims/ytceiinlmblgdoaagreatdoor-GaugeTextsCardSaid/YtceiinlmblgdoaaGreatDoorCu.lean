import Derived.Test.YtceiinlmblgdoaaGreatDoorR
import Derived.Test.YtceiinlmblgdoaaGreatDoorTx
import Derived.Lib.Split
set_option linter.unusedSimpArgs false
set_option linter.unusedVariables false
namespace Go.Proofs
open Go.RowKit

def bs (l : List UInt8) : ByteArray := ⟨l.toArray⟩
/-- The cell of a text. -/
def Sc (b : List UInt8) : List Value := [.string (bs b)]
theorem ext_eq (s : ByteArray) (f k : Nat) : s.extract f k = bs ((s.data.toList.drop f).take (k - f)) := by
  have h : (s.extract f k).data.toList = (s.data.toList.drop f).take (k - f) := by
    rw [Lib.extract_data]
    try simp [List.drop_take]
  cases hs : s.extract f k with
  | mk d =>
    rw [hs] at h
    unfold bs
    rw [← h]
theorem info9 : (Tryz.prog.info? 9).map (fun i => (i.zero, i.size, i.bytes)) = some (some (.string ByteArray.empty), 1, 16) := by kernel_rfl
theorem cells_new (w : World) (vs : List Value) (t : TypeId) : ∀ j u, vs[j]? = some u → (w.alloc (.cells vs.toArray t)).cell? (Addr.add ⟨w.heap.size, 0, none⟩ j) = some u := by
  intro j u h
  have e : (Addr.add ⟨w.heap.size, 0, none⟩ j) = ⟨w.heap.size, j, none⟩ := by
    unfold Addr.add
    split <;> simp_all
  rw [e, World.cell?_alloc_at _ _ _ _ rfl]
  simpa using h
theorem cut_step {l : List UInt8} {f k : Nat} {c : UInt8} (hf : f ≤ k) (hc : l[k]? = some c) (hno : ∀ c ∈ (l.drop f).take (k - f), c ≠ 32) :
    (c = 32 → cutL (l.drop f) = ((l.drop f).take (k - f)) :: cutL (l.drop (k + 1))) ∧ (c ≠ 32 → ∀ c ∈ (l.drop f).take (k + 1 - f), c ≠ 32) := by
  have hd : (l.drop f)[k - f]? = some c := by rw [List.getElem?_drop, show f + (k - f) = k by omega]; exact hc
  have hlt := (List.getElem?_eq_some_iff.1 hd).1
  constructor
  · intro h
    subst h
    have e : l.drop f = (l.drop f).take (k - f) ++ 32 :: (l.drop f).drop (k - f + 1) := by
      have e1 := List.getElem_cons_drop hlt
      rw [(List.getElem?_eq_some_iff.1 hd).2] at e1
      rw [e1, List.take_append_drop]
    have e2 : (l.drop f).drop (k - f + 1) = l.drop (k + 1) := by rw [List.drop_drop]; congr 1; omega
    conv => lhs; rw [e]
    rw [cutL_hit _ _ hno, e2]
  · intro h d hdm
    rw [show k + 1 - f = (k - f) + 1 by omega, List.take_add_one, hd] at hdm
    rcases List.mem_append.1 hdm with hdm | hdm
    · exact hno d hdm
    · simp at hdm; subst hdm; exact h
set_option maxRecDepth 100000 in
set_option maxHeartbeats 4000000 in
theorem cut_any (s : ByteArray) (w : World) (hs : s.size ≤ 1000) :
    Calls Tryz.prog 22 #[.string s, .int .u8 32] w fun e w' => (∃ A c, e = .returned (.slice A (cutL s.data.toList).length c) ∧ At 1 Sc w' A (cutL s.data.toList)) ∧ Below w.heap.size w w' := by
  have hlen : Hid (s.data.toList.length = s.size) := by simp [Hid]
  have hat : Hid (∀ (k : Nat) (h : k < s.size), s.data.toList[k]? = some (s[k]'h)) := fun k h => by
    rw [List.getElem?_eq_getElem (by simpa using h)]
    simp
    rfl
  have hex := Lib.hid (ext_eq s)
  obtain ⟨l, hl⟩ : ∃ l, s.data.toList = l := ⟨_, rfl⟩
  rw [hl] at hlen hat hex ⊢
  clear hl
  obtain ⟨i0, hi, hz0, hz1, hz2⟩ := info_parts info9
  go_enter Tryz.func22, Tryz.ntmps22
  go_wp2
  go_loopw [5, 6, 7] (fun v f i wr => ∃ (k m : Nat) (out : List (List UInt8)), m ≤ k ∧ k ≤ s.size ∧ i = .int .i64 (k : Int) ∧ f = .int .i64 (m : Int) ∧ out.length ≤ k ∧ wr.ownsRow w.heap.size 9 1 v out.length (out.flatMap Sc) ∧ Below w.heap.size w wr ∧ Hid (out ++ cutL (l.drop m) = cutL l ∧ ∀ c ∈ (l.drop m).take (k - m), c ≠ 32)) (fun _ _ i _ => s.size - (intOf i).toNat)
  case atStart => exact ⟨0, 0, [], by omega, by omega, rfl, rfl, by simp, World.ownsRow_nil _ _ _ _, Below.refl _ _, by simp, by simp⟩
  case round =>
    obtain ⟨k, m, out, hmk, hk, rfl, rfl, hol, hown, hbw, hcut⟩ := hrel
    have hown' := Lib.hid hown
    clear hown
    have hmI : (m : Int) ≤ (k : Int) := by omega
    by_cases hlt : k < s.size
    · have hltI : (k : Int) < (s.size : Int) := by omega
      obtain ⟨c, hc⟩ : ∃ c : UInt8, s[k]'hlt = c := ⟨_, rfl⟩
      have hst := Lib.hid (cut_step hmk (by rw [hat.out k hlt, hc]) hcut.out.2)
      by_cases h32 : c = 32
      · have d1 : ((c.toNat : Int) == 32) = true := by rw [h32]; rfl
        have h32' := Lib.hid h32
        clear h32
        go_wp2_with (at_builtin; refine wpList_append_own _ rfl _ _ 53 rfl w.heap.size 9 i0 (.string ByteArray.empty) 1 16 Tryz.underlying53 hi hz0 hz1 hz2 rfl (by decide) _ _ _ rfl (hown'.out.alloc _) ⟨wr.heap.size, 0, none⟩ 1 1 [.string (s.extract m k)] rfl rfl ?c1 ?c2 ?c3 ?c4 ?c5 ?_)
        case c1 => exact cells_new _ [_] _
        case c2 => intro u hu; simp at hu; subst hu; rfl
        case c3 => unfold maxLen; omega
        case c4 => omega
        case c5 => simp; have := hbw.size; omega
        intro v' w3 hown3 hg3 _
        have hbw3 : Below w.heap.size w w3 := (hbw.alloc hbw.size _).grown hg3 (by simp; have := hbw.size; omega) (fun r e => (hown'.out.lt r e).1)
        have hown4 : w3.ownsRow w.heap.size 9 1 v' (out ++ [(l.drop m).take (k - m)]).length ((out ++ [(l.drop m).take (k - m)]).flatMap Sc) := by
          rw [hex.out] at hown3
          simpa [List.flatMap_append, Sc] using hown3
        have hown5 := Lib.hid hown4
        clear hown3 hown4 hg3
        go_wp2
        go_roundw
        case rel =>
          refine ⟨k + 1, k + 1, _, by omega, by omega, by go_num, by go_num, by rw [List.length_append]; simp; omega, hown5.out, hbw3, ?_, ?_⟩
          · rw [List.append_assoc, List.singleton_append, ← (hst.out.1 h32'.out)]
            exact hcut.out.1
          · simp
        case measure => simp [intOf]; omega
      · have d1 : ((c.toNat : Int) == 32) = false := by
          have : c.toNat ≠ 32 := fun h => h32 (UInt8.toNat_inj.1 h)
          simp; omega
        have h32' := Lib.hid h32
        clear h32
        go_wp2
        go_roundw
        case rel => exact ⟨k + 1, m, out, by omega, by omega, by go_num, rfl, by omega, hown'.out, hbw, hcut.out.1, hst.out.2 h32'.out⟩
        case measure => simp [intOf]; omega
    · have hkk : k = s.size := by omega
      have hlI : ¬ (k : Int) < (s.size : Int) := by omega
      have hmI2 : (m : Int) ≤ (s.size : Int) := by omega
      have hms : m ≤ s.size := by omega
      have hlast : Hid (cutL l = out ++ [l.drop m]) := by
        unfold Hid
        rw [← hcut.out.1]
        congr 1
        refine cutL_none _ ?_
        have := hcut.out.2
        rwa [List.take_of_length_le (by rw [List.length_drop, hlen.out]; omega)] at this
      have hols : out.length ≤ s.size := by omega
      clear hkk hk hmk hlt
      go_wp2_with (at_builtin; refine wpList_append_own _ rfl _ _ 53 rfl w.heap.size 9 i0 (.string ByteArray.empty) 1 16 Tryz.underlying53 hi hz0 hz1 hz2 rfl (by decide) _ _ _ rfl (hown'.out.alloc _) ⟨wr.heap.size, 0, none⟩ 1 1 [.string (s.extract m s.size)] rfl rfl ?c1 ?c2 ?c3 ?c4 ?c5 ?_)
      case c2 => first | rfl | (intro u hu; simp at hu; subst hu; rfl)
      case c3 => unfold maxLen; omega
      case c4 => omega
      case c5 => have := hbw.size; first | omega | (simp; omega)
      intro v' w3 hown3 hg3 _
      have hbw3 : Below w.heap.size w w3 := (hbw.alloc hbw.size _).grown hg3 (by simp; have := hbw.size; omega) (fun r e => (hown'.out.lt r e).1)
      have hown4 : w3.ownsRow w.heap.size 9 1 v' (out ++ [l.drop m]).length ((out ++ [l.drop m]).flatMap Sc) := by
        rw [hex.out, List.take_of_length_le (by rw [List.length_drop, hlen.out]; omega)] at hown3
        simpa [List.flatMap_append, Sc] using hown3
      obtain ⟨A3, cap, rfl, hat3⟩ := at_of_owns (cs := Sc) (sz := 1) (fun _ => rfl) hown4
      have hat3' := Lib.hid hat3
      clear hown3 hown4 hg3 hat3
      go_wp2
      go_ret
      rw [hlast.out]
      exact ⟨⟨A3, cap, rfl, hat3'.out⟩, hbw3⟩
end Go.Proofs
