import Derived.Test.YtpmliaildjomeaaGreatDoorMg19
import Derived.Test.YtpmliaildjomeaaGreatDoorMg14
import Derived.Test.YtpmliaildjomeaaGreatDoorMg15
import Derived.Test.YtpmliaildjomeaaGreatDoorMg16
import Derived.Test.YtpmliaildjomeaaGreatDoorMg7
set_option linter.unusedSimpArgs false
set_option linter.unusedVariables false
namespace Go.Proofs

/-! What a proof of a basis is (plain). -/
theorem Asc.nodup {b : Nat} : ∀ {l : List Nat} {a : Nat}, Asc a b l → l.Nodup
  | [], _, _ => List.nodup_nil
  | x :: t, a, h => List.nodup_cons.2 ⟨fun hx => by have := (Asc.lt h.2.2 x hx).1; omega, h.2.2.nodup⟩
def inR (k n x : Nat) : Bool := decide (k ≤ x) && decide (x < k + n)
theorem inR_split (k n x : Nat) : (if inR k (n + 1) x = true then 1 else 0) = (if (x == k) = true then 1 else 0) + if inR (k + 1) n x = true then 1 else 0 := by
  simp only [inR, Bool.and_eq_true, decide_eq_true_eq, beq_iff_eq]
  split <;> split <;> split <;> omega
theorem countP_split (k n : Nat) : ∀ z : List Nat, z.countP (inR k (n + 1)) = z.count k + z.countP (inR (k + 1) n)
  | [] => rfl
  | x :: z => by
    have := countP_split k n z
    have h2 := inR_split k n x
    rw [List.countP_cons, List.countP_cons, List.count_cons, this]
    omega
theorem proofRows_len (es : List Ex) {z t : List Nat} (hz : z.Nodup) : ∀ (ws : List Int) (k : Nat), (proofRows es z t k ws).length + z.countP (inR k ws.length) = ws.length
  | [], k => by
    have : z.countP (inR k ([] : List Int).length) = 0 := by
      rw [List.countP_eq_zero]
      intro x _
      simp [inR]
    rw [this]
    rfl
  | w :: ws, k => by
    have ih := proofRows_len es hz ws (k + 1) (z := z) (t := t)
    rw [List.length_cons, countP_split, hz.count]
    unfold proofRows
    by_cases hk : k ∈ z
    · simp only [if_pos hk]
      omega
    · simp only [if_neg hk, List.length_cons]
      omega
theorem proofRows_mem (es : List Ex) {z t : List Nat} : ∀ (ws : List Int) (k0 j : Nat) (w : Int), ws[j]? = some w → k0 + j ∉ z → proofRow es t (k0 + j) w ∈ proofRows es z t k0 ws
  | [], _, j, w, h, _ => by simp at h
  | v :: ws, k0, 0, w, h, hz => by
    simp at h
    subst h
    unfold proofRows
    rw [if_neg (by simpa using hz)]
    exact List.mem_cons_self ..
  | v :: ws, k0, j + 1, w, h, hz => by
    have := proofRows_mem es (t := t) ws (k0 + 1) j w (by simpa using h) (by rwa [show k0 + 1 + j = k0 + (j + 1) by omega])
    rw [show k0 + 1 + j = k0 + (j + 1) by omega] at this
    unfold proofRows
    split
    · exact this
    · exact List.mem_cons_of_mem _ this
theorem proofRows_row (es : List Ex) {z t : List Nat} : ∀ (ws : List Int) (k : Nat), ∀ row ∈ proofRows es z t k ws, row.length = t.length + 2
  | [], k, row, h => by cases h
  | v :: ws, k, row, h => by
    unfold proofRows at h
    split at h
    · exact proofRows_row es ws _ row h
    · rcases List.mem_cons.1 h with rfl | h
      · simp [proofRow]
      · exact proofRows_row es ws _ row h
/-- What the tight entries' weights put on a part. -/
def tsum (es : List Ex) (l : List Int) (c : Nat) : Nat → List Nat → Int
  | _, [] => 0
  | k, i :: t => l.getD (k + 1) 0 * (es.getD i default).1.getD c 0 + tsum es l c (k + 1) t
theorem dotL_tsum (es : List Ex) (l : List Int) (c : Nat) (w : Int) : ∀ (t : List Nat) (k : Nat) (l' : List Int), l'.length = t.length → (∀ j, j < t.length → l'.getD j 0 = l.getD (k + 1 + j) 0) → dotL (t.map (fun i => -((es.getD i default).1.getD c 0)) ++ [w]) l' = -tsum es l c k t
  | [], k, l', h, _ => by
    have : l' = [] := List.eq_nil_of_length_eq_zero h
    subst this
    simp [dotL, tsum]
  | i :: t, k, [], h, _ => by simp at h
  | i :: t, k, x :: l', h, hl => by
    have h0 := hl 0 (by simp)
    simp only [List.getD_cons_zero, Nat.add_zero] at h0
    have := dotL_tsum es l c w t (k + 1) l' (by simpa using h) fun j hj => by
      have := hl (j + 1) (by simpa using hj)
      rw [List.getD_cons_succ] at this
      rw [this]
      congr 1
      omega
    simp only [List.map_cons, List.cons_append, dotL, tsum]
    rw [this, h0]
    grind
theorem putW_len (l : List Int) : ∀ (t : List Nat) (k : Nat) (W : List Int), (putW l k t W).length = W.length
  | [], _, _ => rfl
  | i :: t, k, W => by unfold putW; rw [putW_len l t]; simp
theorem putW_other (l : List Int) : ∀ (t : List Nat) (k : Nat) (W : List Int) (i : Nat), i ∉ t → (putW l k t W)[i]? = W[i]?
  | [], _, _, _, _ => rfl
  | j :: t, k, W, i, h => by
    unfold putW
    rw [putW_other l t _ _ _ (fun hh => h (List.mem_cons_of_mem _ hh)), List.getElem?_set_ne (by rintro rfl; exact h (List.mem_cons_self ..))]
theorem putsL_set (c : Nat) (v : Int) : ∀ (es : List Ex) (W : List Int) (i : Nat), i < es.length → i < W.length → putsL es (W.set i v) c = putsL es W c + (v - W.getD i 0) * (es.getD i default).1.getD c 0
  | [], _, _, h, _ => by simp at h
  | _ :: _, [], _, _, h => by simp at h
  | x :: es, w :: W, 0, _, _ => by simp only [List.set_cons_zero, putsL, List.getD_cons_zero]; grind
  | x :: es, w :: W, i + 1, h, h' => by
    simp only [List.set_cons_succ, putsL, List.getD_cons_succ]
    rw [putsL_set c v es W i (by simpa using h) (by simpa using h')]
    omega
theorem putsL_putW (es : List Ex) (l : List Int) (c : Nat) : ∀ (t : List Nat) (k : Nat) (W : List Int), W.length = es.length → t.Nodup → (∀ i ∈ t, i < es.length) → (∀ i ∈ t, W.getD i 0 = 0) → putsL es (putW l k t W) c = putsL es W c + tsum es l c k t
  | [], k, W, _, _, _, _ => by simp [putW, tsum]
  | i :: t, k, W, hW, hnd, ht, h0 => by
    obtain ⟨hi, hnd'⟩ := List.nodup_cons.1 hnd
    unfold putW
    rw [putsL_putW es l c t (k + 1) _ (by simpa using hW) hnd' (fun j hj => ht j (List.mem_cons_of_mem _ hj)) (fun j hj => by
      rw [List.getD_eq_getElem?_getD, List.getElem?_set_ne (by rintro rfl; exact hi hj), ← List.getD_eq_getElem?_getD]
      exact h0 j (List.mem_cons_of_mem _ hj)), putsL_set c _ es W i (ht i (List.mem_cons_self ..)) (by rw [hW]; exact ht i (List.mem_cons_self ..)), h0 i (List.mem_cons_self ..)]
    simp only [tsum, Int.sub_zero]
    omega
theorem putsL_zero (c n : Nat) : ∀ es : List Ex, putsL es (List.replicate n 0) c = 0 := by
  induction n with
  | zero => intro es; cases es <;> simp [putsL]
  | succ n ih =>
    intro es
    cases es with
    | nil => simp [putsL]
    | cons x es => simp only [List.replicate_succ, putsL]; rw [ih es]; simp
theorem putW_nn (l : List Int) : ∀ (t : List Nat) (k : Nat) (W : List Int), (∀ w ∈ W, 0 ≤ w) → (∀ j, j < t.length → 0 ≤ l.getD (k + 1 + j) 0) → ∀ w ∈ putW l k t W, 0 ≤ w
  | [], _, _, h, _, w, hw => h w hw
  | i :: t, k, W, h, hl, w, hw => by
    unfold putW at hw
    refine putW_nn l t (k + 1) _ (fun v hv => ?_) (fun j hj => ?_) w hw
    · rcases List.mem_or_eq_of_mem_set hv with hv | rfl
      · exact h v hv
      · exact hl 0 (by simp)
    · have := hl (j + 1) (by simpa using hj)
      rwa [show k + 1 + (j + 1) = k + 1 + 1 + j by omega] at this
theorem levOk_iff (es : List Ex) (den lev : Int) (W : List Int) : ∀ (ws : List Int) (k0 : Nat), levOk es den lev W k0 ws = true → ∀ j, j < ws.length → lev ≤ ws.getD j 0 * den + putsL es W (k0 + j)
  | [], _, _, j, h => by simp at h
  | w :: ws, k0, h, j, hj => by
    unfold levOk at h
    simp only [Bool.and_eq_true, decide_eq_true_eq] at h
    cases j with
    | zero => simpa using h.1
    | succ j =>
      have := levOk_iff es den lev W ws (k0 + 1) h.2 j (by simpa using hj)
      rwa [show k0 + 1 + j = k0 + (j + 1) by omega] at this
/-- What is said of a proof of a basis. -/
structure PrfOf (es : List Ex) (ws : List Int) (z t : List Nat) (p : Prf) : Prop where
  len : p.W.length = es.length
  den : 0 < p.den
  nn : ∀ w ∈ p.W, 0 ≤ w
  lev : ∀ k, k < ws.length → p.lev ≤ ws.getD k 0 * p.den + putsL es p.W k
  eq : ∀ k, k < ws.length → k ∉ z → p.lev = ws.getD k 0 * p.den + putsL es p.W k
  sup : ∀ i w, p.W[i]? = some w → w ≠ 0 → i ∈ t
theorem proofL_of {es : List Ex} {ws : List Int} {z t : List Nat} {p : Prf} (h : proofL es ws z t = some p) (h5 : ws.length ≤ 5)
    (hz : ∀ i ∈ z, i < ws.length) (hzn : z.Nodup) (ht : ∀ i ∈ t, i < es.length) (htn : t.Nodup) (hzt : z.length + t.length + 1 = ws.length) : PrfOf es ws z t p := by
  unfold proofL at h
  split at h
  · cases h
  rename_i l den hs
  split at h
  · cases h
  rename_i hnn
  dsimp only at h
  split at h
  case isFalse => cases h
  rename_i hlev
  have hrl : (proofRows es z t 0 ws).length = t.length + 1 := by
    have h1 := proofRows_len es (t := t) hzn ws 0
    have h2 : z.countP (inR 0 ws.length) = z.length := by
      rw [List.countP_eq_length]
      intro x hx
      have := hz x hx
      simp [inR]
      omega
    omega
  obtain ⟨hden, hlen, hsol⟩ := solL_row hs (by omega) (fun row hr => by rw [hrl, proofRows_row es ws 0 row hr])
  rw [hrl] at hlen hsol
  have hputs : ∀ c, putsL es (putW l 0 t (List.replicate es.length 0)) c = tsum es l c 0 t := fun c => by
    rw [putsL_putW es l c t 0 _ (by simp) htn ht (fun i hi => by simp [List.getD_eq_getElem?_getD, List.getElem?_replicate]; split <;> rfl), putsL_zero]
    omega
  have hWl : (putW l 0 t (List.replicate es.length 0)).length = es.length := by rw [putW_len]; simp
  have hWnn : ∀ w ∈ putW l 0 t (List.replicate es.length 0), 0 ≤ w := by
    refine putW_nn l t 0 _ (fun w hw => by rw [List.eq_of_mem_replicate hw]; exact Int.le_refl _) (fun j hj => ?_)
    simp only [List.any_eq_true, List.mem_range, decide_eq_true_eq, not_exists, not_and] at hnn
    have := hnn j hj
    rw [show 0 + 1 + j = j + 1 by omega]
    omega
  have hWo : ∀ i w, (putW l 0 t (List.replicate es.length 0))[i]? = some w → w ≠ 0 → i ∈ t := fun i w hw h0 => by
    by_cases hi : i ∈ t
    · exact hi
    · rw [putW_other l t 0 _ i hi, List.getElem?_replicate] at hw
      split at hw
      · cases hw; exact absurd rfl h0
      · cases hw
  have heq : ∀ k, k < ws.length → k ∉ z → l.getD 0 0 = ws.getD k 0 * den + tsum es l k 0 t := fun k hk hkz => by
    have hm := proofRows_mem es (t := t) ws 0 k (ws.getD k 0) (by rw [List.getD_eq_getElem?_getD, List.getElem?_eq_getElem hk]; rfl) (by simpa using hkz)
    have hr := hsol _ hm
    simp only [Nat.zero_add] at hr
    unfold proofRow at hr
    cases l with
    | nil => simp at hlen
    | cons x l =>
      simp only [dotL] at hr
      have ht2 := dotL_tsum es (x :: l) k (ws.getD k 0) t 0 l (by simpa using hlen) fun j hj => by
        rw [show 0 + 1 + j = j + 1 by omega, List.getD_cons_succ]
      rw [ht2] at hr
      have e : (1 :: (t.map (fun i => -((es.getD i default).1.getD k 0)) ++ [ws.getD k 0])).getD (t.length + 1) 0 = ws.getD k 0 := by
        rw [List.getD_cons_succ, List.getD_eq_getElem?_getD, List.getElem?_append_right (by simp)]
        simp
      rw [e] at hr
      simp only [List.getD_cons_zero]
      omega
  have hlv := levOk_iff _ _ _ _ _ _ hlev
  simp only [Nat.zero_add, hputs] at hlv
  have hg : 0 < gcdL 0 (den :: l.getD 0 0 :: putW l 0 t (List.replicate es.length 0)) := gcdL_pos den (by simp) (by omega)
  obtain ⟨-, hdv⟩ := gcdL_dvd (den :: l.getD 0 0 :: putW l 0 t (List.replicate es.length 0)) 0
  simp only [← hputs] at hlv heq
  generalize gcdL 0 (den :: l.getD 0 0 :: putW l 0 t (List.replicate es.length 0)) = g at *
  generalize putW l 0 t (List.replicate es.length 0) = W at *
  generalize l.getD 0 0 = lev at *
  have hgI : (0 : Int) < g := by omega
  obtain rfl : _ = p := by simpa using h
  have el := map_div_mul hgI (l := W) fun x hx => hdv x (by simp [hx])
  have ed : (g : Int) * (den / g) = den := Int.mul_ediv_cancel' (hdv den (by simp))
  have ev : (g : Int) * (lev / g) = lev := Int.mul_ediv_cancel' (hdv lev (by simp))
  have hlen' : (W.map (· / (g : Int))).length = es.length := by simpa using hWl
  clear h hdv hs hnn hsol hlen hputs hlev
  generalize W.map (· / (g : Int)) = V at *
  generalize den / (g : Int) = d at *
  generalize lev / (g : Int) = v at *
  subst el ed ev
  refine ⟨hlen', Int.lt_of_mul_lt_mul_left (a := (g : Int)) (by simpa using hden) (by omega), ?_, ?_, ?_, ?_⟩
  · intro w hw
    have := hWnn (g * w) (List.mem_map.2 ⟨w, hw, rfl⟩)
    exact Int.le_of_mul_le_mul_left (a := (g : Int)) (by simpa using this) hgI
  · intro k hk
    have := hlv k hk
    rw [putsL_scale] at this
    exact Int.le_of_mul_le_mul_left (a := (g : Int)) (by grind) hgI
  · intro k hk hkz
    have := heq k hk hkz
    rw [putsL_scale] at this
    exact Int.eq_of_mul_eq_mul_left (a := (g : Int)) (by omega) (by grind)
  · intro i w hw h0
    refine hWo i (g * w) (by rw [List.getElem?_map, hw]; rfl) (fun hh => ?_)
    rcases Int.mul_eq_zero.1 hh with hh | hh
    · omega
    · exact h0 hh
end Go.Proofs

set_option linter.unusedSimpArgs false
set_option linter.unusedVariables false
namespace Go.Proofs
open Go.RowKit

theorem exs_small {es : List En} {np : Nat} (h : RightE es np) (i c : Nat) : (((exs es).getD i default).1.getD c 0).natAbs ≤ 20 := by
  rw [List.getD_eq_getElem?_getD (l := exs es)]
  cases hi : (exs es)[i]? with
  | none => simp [default, instInhabitedProd]
  | some x => exact (h.exs_co x (List.mem_of_getElem? hi)).get c
theorem proofRows_small {es : List En} {np : Nat} (h : RightE es np) {z t : List Nat} : ∀ (ws : List Int) (k : Nat), Small 400 ws → SmallR (proofRows (exs es) z t k ws)
  | [], _, _, row, hr => by cases hr
  | w :: ws, k, hs, row, hr => by
    unfold proofRows at hr
    have ih := proofRows_small h (z := z) (t := t) ws (k + 1) fun x hx => hs x (by simp [hx])
    split at hr
    · exact ih row hr
    · rcases List.mem_cons.1 hr with rfl | hr
      · intro x hx
        unfold proofRow at hx
        rcases List.mem_cons.1 hx with rfl | hx
        · decide
        · rcases List.mem_append.1 hx with hx | hx
          · obtain ⟨i, -, rfl⟩ := List.mem_map.1 hx
            rw [Int.natAbs_neg]
            exact Nat.le_trans (exs_small h i k) (by decide)
          · rw [List.mem_singleton] at hx
            subst hx
            exact hs x (by simp)
      · exact ih row hr
def PrfGot (q : Option Prf) (en n0 : Nat) (e : Ending) (w' : World) : Prop := match q with
  | none => e = .returned (.tuple #[.agg #[.int .i64 0, .int .i64 0, .slice none 0 0], .bool false])
  | some p => ∃ A c, e = .returned (.tuple #[.agg #[.int .i64 p.den, .int .i64 p.lev, .slice A en c], .bool true]) ∧ w'.ownsRow n0 3 1 (.slice A en c) en (p.W.map (Value.int .i64))
theorem execOp_makeSlice {P : Program} {f : Operand → Value} {o : Oper} {t : TypeId} {p q : Operand} {v r : Value} {x x' : World} (ho : o.op = .makeSlice t p q) (hp : f p = v) (hq : f q = v) (h : (Instr.makeSlice t v v).run P x = .ok r x') : (execOp f o).run P x = .ok (.value r) x' := by
  unfold execOp
  rw [ho]
  simp only [hp, hq, Sem.run_bind, h, Result.andThen_ok, Sem.run_pure]
set_option maxRecDepth 100000 in
set_option maxHeartbeats 8000000 in
theorem proof_any (pA eA tA wA : Option Addr) (zv : Value) (np pc en ec tn tc wc : Nat) (es : List En) (ws : List Int) (z t : List Nat) (w : World) (hR : RightE es np) (hE : EnsAt w eA es) (hen : es.length = en) (hT : At 1 Zc w tA (natZ t)) (htn : t.length = tn)
    (hW : At 1 Zc w wA ws) (hwn : ws.length = np) (h5 : np ≤ 5) (hws : Small 400 ws) (hz : ∀ i ∈ z, i < np) (hzn : z.Nodup) (ht : ∀ i ∈ t, i < en) (htnd : t.Nodup) (hzt : z.length + t.length + 1 = np) (hzo : zv.oneCell' = true) :
    Calls Tryz.prog 83 #[.agg (basC (.slice pA np pc) (.slice eA en ec) zv (.slice tA tn tc) z t).toArray, .slice wA np wc] w fun e w' => PrfGot (proofL (exs es) ws z t) en w.heap.size e w' ∧ Below w.heap.size w w' := by
  obtain ⟨BA, hBA⟩ : ∃ BA, (basC (.slice pA np pc) (.slice eA en ec) zv (.slice tA tn tc) z t).toArray = BA := ⟨_, rfl⟩
  have hE8 := hR.n8
  have fT := Lib.hid fun W (hb : Below w.heap.size w W) k (hk : k < tn) => zc_cell (hT.below hb) (k := k) (by rw [natZ_len]; omega)
  have fW := Lib.hid fun W (hb : Below w.heap.size w W) k (hk : k < np) => zc_cell (hW.below hb) (k := k) (by omega)
  have fE := Lib.hid fun W (hb : Below w.heap.size w W) i c (hi : i < en) (hc : c < np) => (by
    have hi' : i < es.length := by omega
    obtain ⟨b, o, hA, hlt, hcc⟩ := (hE.below hb).1 i _ (List.getElem?_eq_getElem hi')
    have hx := List.getElem_mem hi'
    obtain ⟨h1, h2, -⟩ := hR.co _ hx
    obtain ⟨b2, o2, hA2, hlt2, hc2⟩ := zc_cell ((hE.below hb).2 _ hx) (k := c) (by omega)
    refine ⟨es[i], b, o, b2, o2, hA, hlt, hlt2, h1, ?_, hc2, h2.get c, exs_get (List.getElem?_eq_getElem hi')⟩
    have := hcc 1 _ rfl
    rw [hA2] at this
    exact this :
    ∃ x : En, ∃ b o b2 o2, eA = some ⟨b, o, none⟩ ∧ b < W.heap.size ∧ b2 < W.heap.size ∧ x.co.length = np ∧ W.cell? ⟨b, o + i * 3 + 1, none⟩ = some (.slice (some ⟨b2, o2, none⟩) x.co.length x.c) ∧
      W.cell? ⟨b2, o2 + c, none⟩ = some (.int .i64 (x.co.getD c 0)) ∧ (x.co.getD c 0).natAbs ≤ 20 ∧ (exs es).getD i default = (x.co, x.mo))
  have hR' := Lib.hid hR
  have hE' := Lib.hid hE
  have hen' := Lib.hid hen
  have htn' := Lib.hid htn
  have hwn' := Lib.hid hwn
  have hws' := Lib.hid hws
  have hz' := Lib.hid hz
  have ht' := Lib.hid ht
  have hzn' := Lib.hid hzn
  have htnd' := Lib.hid htnd
  have hzt' := Lib.hid hzt
  have hzo' := Lib.hid hzo
  have hBA' := Lib.hid hBA
  have htl : tn ≤ 4 := by omega
  rw [hBA]
  obtain ⟨i0, hi, hz0, hz1, hz2⟩ := info_parts Tryz.info3
  obtain ⟨i1, hj, hj0, hj1, hj2⟩ := info_parts Tryz.info31
  obtain ⟨X, hX⟩ : ∃ X, exs es = X := ⟨_, rfl⟩
  have hX' := Lib.hid hX
  rw [hX] at fE ⊢
  clear hR hE hen htn hwn hws hz ht hzn htnd hzt hzo hBA hT hW hX
  go_enter Tryz.func83, Tryz.ntmps83
  go_wp2
  go_loopw [6, 24] (fun v6 i wr => ∃ (k : Nat) (xs : List IR), k ≤ np ∧ i = .int .i64 k ∧ Hid (RowsOwn wr (w.heap.size + 2) v6 xs ∧ xs.map IR.l = proofRows X z t 0 (ws.take k)) ∧ wr.heap[w.heap.size]? = some (.cells BA 160 (0, 0)) ∧ wr.heap[w.heap.size + 1]? = some (.cells #[.int .i64 0, .int .i64 0, .slice none 0 0] 35 (0, 0)) ∧ Below w.heap.size w wr) (fun _ i _ => np - (intOf i).toNat)
  case atStart => exact ⟨0, [], Nat.zero_le _, rfl, ⟨RowsOwn.nil _ _, by simp [proofRows]⟩, by (repeat (first | assumption | (refine bk_new _ _ ?_; (simp; done)) | refine bk_drew ?_ | refine bk_alloc ?_ _ | refine bk_set ?_ (by simp <;> omega) _)), by (repeat (first | assumption | (refine bk_new _ _ ?_; (simp; done)) | refine bk_drew ?_ | refine bk_alloc ?_ _ | refine bk_set ?_ (by simp <;> omega) _)), by go_grown⟩
  case round =>
    obtain ⟨wo, hwo⟩ : ∃ wo, wo = wr := ⟨_, rfl⟩
    subst hwo
    obtain ⟨k, xs, hk, rfl, hrows, M0, M1, hbw⟩ := hrel
    have s0 := bk_size M0
    have s1 := bk_size M1
    have MB : wo.heap[w.heap.size]? = some (.cells (basC (.slice pA np pc) (.slice eA en ec) zv (.slice tA tn tc) z t).toArray 160 (0, 0)) := by rw [hBA'.out]; exact M0
    have cEv := bas_load MB (k := 1) rfl
    have cTv := bas_load MB (k := 3) rfl
    by_cases hlt : k < np
    · have hkI : (k : Int) < (np : Int) := by omega
      have hk5 : (k : Int) < 5 := by omega
      obtain ⟨bw, ow, rfl, hbwl, cw⟩ := fW.out wo hbw k hlt
      obtain ⟨u, hu⟩ : ∃ u, ws[k]? = some u := ⟨_, List.getElem?_eq_getElem (by rw [hwn'.out]; exact hlt)⟩
      have huD : ws.getD k 0 = u := by rw [List.getD_eq_getElem?_getD, hu]; rfl
      rw [huD] at cw
      have cz := bas_load MB (basC_zero (.slice pA np pc) (.slice eA en ec) zv (.slice tA tn tc) z t k (by omega))
      have hsn := Lib.hid (show proofRows X z t 0 (ws.take (k + 1)) = proofRows X z t 0 (ws.take k) ++ if k ∈ z then [] else [proofRow X t k u] by
        rw [List.take_add_one, hu]
        have := proofRows_snoc X z t (ws.take k) 0 u
        rw [List.length_take, Nat.min_eq_left (by rw [hwn'.out]; omega), Nat.zero_add] at this
        exact this)
      have hxn : Hid (xs.length ≤ k) := Lib.hid (by
        have h1 := congrArg List.length hrows.out.2
        rw [List.length_map] at h1
        have h2 := proofRows_len X (t := t) hzn'.out (ws.take k) 0
        rw [List.length_take, Nat.min_eq_left (by rw [hwn'.out]; omega)] at h2
        omega)
      clear hu huD MB
      by_cases hkz : k ∈ z
      · have hkzb : decide (k ∈ z) = true := by simpa using hkz
        rw [hkzb] at cz
        have hr2 := Lib.hid (show RowsOwn wo (w.heap.size + 2) u6 xs ∧ xs.map IR.l = proofRows X z t 0 (ws.take (k + 1)) from ⟨hrows.out.1, by rw [hsn.out, if_pos hkz, List.append_nil]; exact hrows.out.2⟩)
        clear hkz hrows hsn
        go_wp2
        go_roundw
        case rel => exact ⟨k + 1, xs, by omega, by go_num, hr2.out, M0, M1, hbw⟩
        case measure => first | (simp [intOf]; done) | (simp [intOf]; omega)
      · have hkzb : decide (k ∈ z) = false := by simpa using hkz
        rw [hkzb] at cz
        have hr2 := Lib.hid (show proofRows X z t 0 (ws.take (k + 1)) = xs.map IR.l ++ [proofRow X t k u] from by rw [hsn.out, if_neg hkz, hrows.out.2])
        have hrows' := Lib.hid hrows.out.1
        clear hkz hrows hsn
        go_wp2
        go_loopw [9, 37] (fun v9 j wi => ∃ q : Nat, q ≤ tn ∧ j = .int .i64 q ∧ wi.ownsRow wo.heap.size 3 1 v9 (q + 1) ((rowPre X t k q).map (Value.int .i64)) ∧ Below wo.heap.size wo wi ∧ wo.heap.size < wi.heap.size) (fun _ j _ => tn - (intOf j).toNat)
        case atStart =>
          refine ⟨0, Nat.zero_le _, rfl, ?_, ?_, ?_⟩
          · exact ⟨rfl, .inr ⟨wo.heap.size, 1, #[.int .i64 1], rfl, Nat.le_refl _, bk_new _ _ rfl, Nat.le_refl _, by decide, rfl, rfl⟩⟩
          · exact new_below _ _
          · simp
        case round =>
          obtain ⟨q, hq, rfl, hown, hbi, hsi⟩ := hrel
          obtain ⟨A9, c9, rfl⟩ := own_slice hown
          have N0 := (hbi.block _ s0).trans M0
          have N1 := (hbi.block _ s1).trans M1
          have NB : wr.heap[w.heap.size]? = some (.cells (basC (.slice pA np pc) (.slice eA en ec) zv (.slice tA tn tc) z t).toArray 160 (0, 0)) := by rw [hBA'.out]; exact N0
          have cEv2 := bas_load NB (k := 1) rfl
          have hbw2 := via hbw hbi
          have t0 := bk_size N0
          have hown' := Lib.hid hown
          clear hown NB
          by_cases hqt : q < tn
          · have hqI : (q : Int) < (tn : Int) := by omega
            obtain ⟨bt, ot, rfl, hbt, ct⟩ := fT.out wr hbw2 q hqt
            obtain ⟨i, hi2⟩ : ∃ i, t[q]? = some i := ⟨_, List.getElem?_eq_getElem (by rw [htn'.out]; exact hqt)⟩
            have hiD : (natZ t).getD q 0 = (i : Int) := by rw [List.getD_eq_getElem?_getD, natZ_get hi2]; rfl
            rw [hiD] at ct
            have hin := ht'.out i (List.mem_of_getElem? hi2)
            have hstep := Lib.hid (rowPre_step (es := X) (c := k) hi2)
            have hiI : (i : Int) < (en : Int) := by omega
            obtain ⟨x, be, oe, b2, o2, rfl, hbe, hb2, hxl, c1, c2, hsx, hg⟩ := fE.out wr hbw2 i k hin hlt
            have hkL : (k : Int) < (x.co.length : Int) := by omega
            rw [hg] at hstep
            obtain ⟨y, hy⟩ : ∃ y, x.co.getD k 0 = y := ⟨_, rfl⟩
            dsimp only at hstep
            rw [hy] at c2 hsx hstep
            have hwy : IntKind.i64.wrap (-y) = -y := IntWalk.i64_in _ (by omega)
            generalize x.co.length = L at *
            clear hiD hi2 hy hg
            go_wp2_with (at_builtin; refine wpList_append_own _ rfl _ _ 33 rfl wo.heap.size 3 i0 (.int .i64 0) 1 8 Tryz.underlying33 hi hz0 hz1 hz2 rfl (by decide) _ _ _ rfl (hown'.out.alloc _) ⟨wr.heap.size, 0, none⟩ 1 1 [.int .i64 (-y)] rfl rfl ?c1 ?c2 ?c3 ?c4 ?c5 ?_)
            case c1 => exact cells_new' _ [.int .i64 (-y)] _ (by simp)
            case c2 => intro u hu; simp at hu; subst hu; rfl
            case c3 => unfold maxLen; omega
            case c4 => omega
            case c5 => simp; omega
            intro v' w3 hown3 hg3 _
            have hbi3 : Below wo.heap.size wo w3 := grown_below (via hbi (new_below _ _)) hg3 fun b e => (hown'.out.lt b e).1
            have hsi3 : wo.heap.size < w3.heap.size := by have := hg3.size; simp at this; omega
            have hown4 := Lib.hid (show w3.ownsRow wo.heap.size 3 1 v' (q + 1 + 1) ((rowPre X t k (q + 1)).map (Value.int .i64)) from by
              rw [hstep.out, List.map_append]
              exact hown3)
            clear hown3 hg3 hown' hstep
            go_wp2
            go_roundw
            case rel => exact ⟨q + 1, by omega, by go_num, hown4.out, hbi3, hsi3⟩
            case measure => first | (simp [intOf]; done) | (simp [intOf]; omega)
          · obtain rfl : q = tn := by omega
            clear cEv2 hqt
            go_wp2_with (at_builtin; refine wpList_append_lies _ rfl _ _ 33 rfl wo.heap.size 3 i0 (.int .i64 0) 1 8 Tryz.underlying33 hi hz0 hz1 hz2 rfl (by decide) _ _ _ rfl (hown'.out.alloc _) ⟨wr.heap.size, 0, none⟩ 1 1 [.int .i64 u] rfl rfl ?c1 ?c2 (by decide) ?c3 ?c4 ?c5 (wr.heap.size + 1) ?c6 ?_)
            case c1 => exact cells_new' _ [.int .i64 u] _ (by simp)
            case c2 => intro u hu; simp at hu; subst hu; rfl
            case c3 => unfold maxLen; omega
            case c4 => omega
            case c5 => simp; omega
            case c6 => simp
            intro g9 cap9 w3 hown3 hg3 hor3 hlt3
            have hbi3 : Below wo.heap.size wo w3 := grown_below (via hbi (new_below _ _)) hg3 fun b e => (hown'.out.lt b e).1
            have hb9 := (hown3.lt g9 rfl).1
            have hRo3 := Lib.hid (hrows'.out.below hbi3)
            have hx9 := Lib.hid (show At 1 Zc w3 (some ⟨g9, 0, none⟩) (proofRow X t k u) from own_ints (base := wo.heap.size) (n := q + 1 + 1) (e := 3) (c := cap9) (by
              rw [← rowPre_all, List.map_append, htn'.out]
              exact hown3))
            have hpl := Lib.hid (show (proofRow X t k u).length = q + 1 + 1 from by simp [proofRow, htn'.out])
            have hne9 := Lib.hid (show some g9 ≠ u6.ownBlock from fun e => by have := (hrows'.out.own.lt g9 e.symm).2; omega)
            have hsz3 : wo.heap.size < w3.heap.size := Nat.lt_of_le_of_lt hb9 hlt3
            have hbw3 := via hbw hbi3
            have P0 := (hbi3.block _ s0).trans M0
            have P1 := (hbi3.block _ s1).trans M1
            obtain ⟨A6, c6, rfl⟩ := own_slice hrows'.out.own
            clear hown3 hg3 hor3 hown' N0 N1
            have hxn5 := hxn.out
            go_wp2_with (at_builtin; refine wpList_append_lies _ rfl _ _ 195 rfl (w.heap.size + 2) 33 i1 (.slice none 0 0) 1 24 Tryz.underlying195 hj hj0 hj1 hj2 rfl (by decide) _ _ _ rfl (hRo3.out.own.alloc _) ⟨w3.heap.size, 0, none⟩ 1 1 [.slice (some ⟨g9, 0, none⟩) (q + 1 + 1) cap9] rfl rfl ?c1 ?c2 (by decide) ?c3 ?c4 ?c5 (w3.heap.size + 1) ?c6 ?_)
            case c1 => exact cells_new' _ [.slice (some ⟨g9, 0, none⟩) (q + 1 + 1) cap9] _ (by simp)
            case c2 => intro u hu; simp at hu; subst hu; rfl
            case c3 => unfold maxLen; omega
            case c4 => omega
            case c5 => simp; omega
            case c6 => simp
            intro g cap w4 hown4 hg4 hor4 hlt4
            have hRo4 := Lib.hid (RowsOwn.push (x := ⟨some ⟨g9, 0, none⟩, cap9, proofRow X t k u⟩) hRo3.out (new_below w3 _) rfl (hx9.out.below (new_below w3 _)) (by dsimp only; omega) (by simp; omega) hne9.out hg4 (by
              show w4.ownsRow _ 33 1 _ _ (_ ++ [Value.slice (some ⟨g9, 0, none⟩) (proofRow X t k u).length cap9])
              rw [hpl.out]
              exact hown4) (by simpa using hor4))
            have hbw4 : Below w.heap.size w w4 := grown_below (via hbw3 (new_below _ _)) hg4 fun b e => by have := (hRo3.out.own.lt b e).1; omega
            have Q0 := bk_grown hg4 (bk_alloc P0 _) (not_own hRo3.out.own (by omega))
            have Q1 := bk_grown hg4 (bk_alloc P1 _) (not_own hRo3.out.own (by omega))
            have hmap := Lib.hid (show (xs ++ [(⟨some ⟨g9, 0, none⟩, cap9, proofRow X t k u⟩ : IR)]).map IR.l = proofRows X z t 0 (ws.take (k + 1)) from by rw [hr2.out, List.map_append]; rfl)
            clear hown4 hg4 hor4 hRo3 hx9 hr2 P0 P1
            go_wp2
            go_roundw
            case rel => exact ⟨k + 1, _, by omega, by go_num, ⟨hRo4.out, hmap.out⟩, Q0, Q1, hbw4⟩
            case measure => first | (simp [intOf]; done) | (simp [intOf]; omega)
    · obtain rfl : np = k := by omega
      have hall : ws.take np = ws := by rw [← hwn'.out, List.take_length]
      obtain ⟨hro, hmap⟩ := hrows.out
      rw [hall] at hmap
      have hxl : xs.length = tn + 1 := by
        have h1 := congrArg List.length hmap
        rw [List.length_map] at h1
        have h2 := proofRows_len X (t := t) hzn'.out ws 0
        have h3 : z.countP (inR 0 ws.length) = z.length := by
          rw [List.countP_eq_length]
          intro x hx
          have := hz'.out x hx
          have := hwn'.out
          simp [inR]
          omega
        have := hzt'.out
        have := hwn'.out
        have := htn'.out
        omega
      obtain ⟨A6, c6, rfl⟩ := own_slice hro.own
      have hS := Lib.hid (sol_any A6 xs c6 wo hro.rowsAt (fun x hx => by
        have := proofRows_row X (z := z) (t := t) ws 0 x.l (by rw [← hmap]; exact List.mem_map.2 ⟨x, hx, rfl⟩)
        have := htn'.out
        omega) (by omega) (by omega) (by rw [hmap, ← hX'.out]; exact proofRows_small hR'.out ws 0 hws'.out))
      rw [hmap] at hS
      rw [hxl] at hS ⊢
      have hmap2 := Lib.hid hmap
      have hxl2 := Lib.hid hxl
      obtain ⟨sl, hsl⟩ : ∃ sl, solL (proofRows X z t 0 ws) = sl := ⟨_, rfl⟩
      have hsl' := Lib.hid hsl
      unfold SolGot at hS
      rw [hsl] at hS
      clear hsl hro hrows hall hlt MB cEv cTv hxl hmap
      rcases sl with _ | ⟨l, den⟩
      · dsimp only at hS
        have hnone := Lib.hid (show proofL X ws z t = none by unfold proofL; rw [hsl'.out])
        go_wp2_with (go_at_call 108; refine hS.out.mono ?_; rintro e w2 ⟨rfl, hb2⟩; have N1 := bk_keep hb2 M1; have C1 := bk3 N1; have hbw2 := via hbw hb2)
        refine bodyPost_ret (v := .tuple #[.agg #[.int .i64 0, .int .i64 0, .slice none 0 0], .bool false]) ?_ rfl ⟨?_, by go_grown⟩
        · simp [results, Tryz.results83, go_sem, C1]
        · unfold PrfGot
          rw [hnone.out]
      · dsimp only at hS
        have hpl : (proofRows X z t 0 ws).length = tn + 1 := by
          rw [← hmap2.out, List.length_map]
          exact hxl2.out
        obtain ⟨hll, hdb, hdp, hls⟩ := solL_small hsl'.out (by omega) (by rw [← hX'.out]; exact proofRows_small hR'.out ws 0 hws'.out)
        rw [hpl] at hll
        rw [hll] at hS
        have hll' := Lib.hid hll
        have hls' := Lib.hid hls
        clear hls hpl hll
        go_wp2_with (go_at_call 108; refine hS.out.mono ?_; rintro e w2 ⟨⟨v, rfl, hown⟩, hb2⟩; obtain ⟨A12, c12, rfl⟩ := own_slice hown; have N0 := bk_keep hb2 M0; have N1 := bk_keep hb2 M1; have C1 := bk3 N1; have hbw2 := via hbw hb2; have hown' := Lib.hid hown; clear hown)
        have NB : w2.heap[w.heap.size]? = some (.cells (basC (.slice pA np pc) (.slice eA en ec) zv (.slice tA tn tc) z t).toArray 160 (0, 0)) := by rw [hBA'.out]; exact N0
        have cEv := bas_load NB (k := 1) rfl
        have cTv := bas_load NB (k := 3) rfl
        have cPv := bas_load NB (k := 0) rfl
        obtain ⟨lev, hlev⟩ : ∃ lev, l.getD 0 0 = lev := ⟨_, rfl⟩
        have hl12 := own_ints hown'.out
        obtain ⟨g12, hA12, hbo12, hb12, c0⟩ := own_cell hown'.out (k := 0) (u := .int .i64 lev) (by
          rw [← hlev]
          cases l with
          | nil => have := hll'.out; simp at this
          | cons x l => rfl)
        subst hA12
        have hlev' := Lib.hid hlev
        have hl12' := Lib.hid hl12
        clear hS hlev hl12 NB
        have hsz2 := bk_size N1
        apply region_mas w 8 10 11 en (.cells (encZ (List.replicate en 0)) 3 (0, 0)) (.cells #[.int .i64 0, .int .i64 0, .slice none 0 0] 35 (0, 0)) (fun h => .cells #[.int .i64 den, .int .i64 lev, .slice (some ⟨h.b, 0, none⟩) en en] 35 (0, 0))
        case hm => kernel_rfl
        case hB => kernel_rfl
        case hB' => intro g; kernel_rfl
        case hS => kernel_rfl
        case hN => kernel_rfl
        case hne => decide
        case hkd => kernel_rfl
        case hcl =>
          intro L _ o ho h
          simp at ho
          subst ho
          simp [Region.binds] at h
          exact ⟨by simp [h], by simp [h]⟩
        case hw => exact hbw2
        case hq =>
          intro g u hu hgc hbx hbX
          have d0 := bk_keep hu N0
          have NB : u.heap[w.heap.size]? = some (.cells (basC (.slice pA np pc) (.slice eA en ec) zv (.slice tA tn tc) z t).toArray 160 (0, 0)) := by rw [hBA'.out]; exact d0
          have e1 := bas_load NB (k := 1) rfl
          have e2 := (hu.cell (show (⟨g12, 0, none⟩ : Addr).block < _ from hb12)).trans c0
          have z1 : g12 < u.heap.size := Nat.lt_of_lt_of_le hb12 hu.size
          have z2 : w.heap.size < u.heap.size := bk_size d0
          simp only [mixL, mkMAS, yieldsC, List.contains_cons, List.contains_nil, Nat.reduceAdd, Nat.reduceBEq, Nat.zero_add, Bool.or_false, Bool.or_true, Bool.false_or, Bool.true_or, Bool.false_eq_true, if_true, if_false, Bool.or_self, Nat.reduceEqDiff]
          repeat (go_big_quiet_step (fail))
          exact wpQuiet_nil rfl
        case hal1 =>
          intro o ho g x hbx
          simp only [List.getElem?_cons_succ, List.getElem?_cons_zero, Option.some.injEq] at ho
          subst ho
          refine execOp_makeSlice (v := .int .i64 en) rfl (by kernel_rfl) (by kernel_rfl) ?_
          exact run_mkInts en (by have := hen'.out; omega) x
        case hal2 =>
          intro o ho g x
          simp only [List.getElem?_cons_succ, List.getElem?_cons_zero, Option.some.injEq] at ho
          subst ho
          kernel_rfl
        case hind => intro j hj; simp only [List.mem_cons, List.not_mem_nil, or_false] at hj; rcases hj with rfl | rfl | rfl <;> (intro g h; kernel_rfl)
        case hs =>
          intro o ho g x hx hz
          simp only [List.getElem?_cons_succ, List.getElem?_cons_zero, Option.some.injEq] at ho
          subst ho
          exact ⟨_, run_store3 rfl rfl rfl rfl (by kernel_rfl) (by kernel_rfl) (by kernel_rfl) hz, (((OnlyB.refl _ _).set _ _).set _ _).set _ _, bk_here (bk_here (bk_here hz _ rfl) _ rfl) _ rfl⟩
        case hend =>
        intro g u hB1 hB2 hBne hu hbw3 E1 E2
        obtain ⟨R, hR⟩ : ∃ R, (g 8).b = R := ⟨_, rfl⟩
        obtain ⟨Q, hQ⟩ : ∃ Q, (g 10).b = Q := ⟨_, rfl⟩
        rw [hR] at hB1 hBne E1 E2
        rw [hQ] at hB2 hBne E2
        have hI : Hid (IntsAt 3 u R (List.replicate en 0)) := Lib.hid E1
        rw [hR, hQ]
        clear hR hQ C1 cEv cTv cPv c0 E1 hbw3 M0 M1 g hbw hmap2 hxl2
        have P0 := bk_keep hu N0
        have NB : u.heap[w.heap.size]? = some (.cells (basC (.slice pA np pc) (.slice eA en ec) zv (.slice tA tn tc) z t).toArray 160 (0, 0)) := by rw [hBA'.out]; exact P0
        have cTv := bas_load NB (k := 3) rfl
        clear NB P0
        go_wp2
        go_loopw [86] (fun i wr => ∃ q : Nat, q ≤ tn ∧ i = .int .i64 q ∧ Hid (IntsAt 3 wr R (putW l 0 (t.take q) (List.replicate en 0))) ∧ wr.heap[Q]? = some (.cells #[.int .i64 den, .int .i64 lev, .slice (some ⟨R, 0, none⟩) en en] 35 (0, 0)) ∧ Hid (∀ j, j < q → ¬ l.getD (j + 1) 0 < 0) ∧ Below w2.heap.size w2 wr) (fun i _ => tn - (intOf i).toNat)
        case atStart => exact ⟨0, Nat.zero_le _, rfl, hI.out, E2, fun j hj => by omega, hu⟩
        case round =>
          clear hI E2 cTv
          obtain ⟨q, hq, rfl, hIq, hQb, hnn, hbr⟩ := hrel
          have P0 := bk_keep hbr N0
          have P1 := bk_keep hbr N1
          have NB : wr.heap[w.heap.size]? = some (.cells (basC (.slice pA np pc) (.slice eA en ec) zv (.slice tA tn tc) z t).toArray 160 (0, 0)) := by rw [hBA'.out]; exact P0
          have cTv := bas_load NB (k := 3) rfl
          have D := bk3 hQb
          have hbw4 := via hbw2 hbr
          clear NB
          by_cases hqt : q < tn
          · have hqI : (q : Int) < (tn : Int) := by omega
            obtain ⟨bt, ot, rfl, hbt, ct⟩ := fT.out wr hbw4 q hqt
            obtain ⟨i, hi2⟩ : ∃ i, t[q]? = some i := ⟨_, List.getElem?_eq_getElem (by rw [htn'.out]; exact hqt)⟩
            have hiD : (natZ t).getD q 0 = (i : Int) := by rw [List.getD_eq_getElem?_getD, natZ_get hi2]; rfl
            rw [hiD] at ct
            have hin := ht'.out i (List.mem_of_getElem? hi2)
            have hiI : (i : Int) < (en : Int) := by omega
            have hstep := Lib.hid (putW_take l (W := List.replicate en 0) hi2)
            obtain ⟨b9, o9, e9, -, cl⟩ := zc_cell (hl12'.out.below hbr) (k := q + 1) (by rw [hll'.out]; omega)
            cases e9
            rw [Nat.zero_add] at cl
            obtain ⟨x, hx⟩ : ∃ x, l.getD (q + 1) 0 = x := ⟨_, rfl⟩
            rw [hx] at cl hstep
            have hx' := Lib.hid hx
            obtain ⟨V, hV⟩ : ∃ V, putW l 0 (t.take q) (List.replicate en 0) = V := ⟨_, rfl⟩
            rw [hV] at hIq hstep
            have hVl : V.length = en := by rw [← hV, putW_len, List.length_replicate]
            have ci := hIq.out.loadD (k := i) (by omega)
            have fi := hIq.out.frozen i
            have hsR := hIq.out.size
            have hs12 : g12 < wr.heap.size := Nat.lt_of_lt_of_le hb12 hbr.size
            have hsQ := bk_size hQb
            have hw1 : IntKind.i64.wrap ((q : Int) + 1) = (q : Int) + 1 := IntWalk.i64_in _ (by omega)
            have hVl' := Lib.hid hVl
            clear hiD hi2 hx hV hVl
            go_wp2
            refine region_in w 9 (by kernel_rfl) (by kernel_rfl) (by go_grown) ?_
            intro hgc hbx
            simp only [List.take_succ_cons, List.take_zero, List.drop_succ_cons, List.drop_zero]
            repeat (go_big_quiet_step (fail))
            refine wpQuiet_nil ?_
            intro wb hb_wb hw_wb hs_wb
            clear hgc hbx
            have hIb := Lib.hid (hIq.out.below hb_wb)
            have hQ2 := bk_keep hb_wb hQb
            have R1 := bk_keep hb_wb P1
            have C1 := bk3 R1
            have hbr2 := via hbr hb_wb
            have ci2 := hIb.out.loadD (k := i) (by rw [hVl'.out]; exact hin)
            have fi2 := hIb.out.frozen i
            have cl2 := (hb_wb.cell (show (⟨g12, q + 1, none⟩ : Addr).block < _ from hs12)).trans cl
            have hn12 : g12 ≠ R := by omega
            have hn1 : w.heap.size + 1 ≠ R := by omega
            have hI2 := Lib.hid (show IntsAt 3 (wb.setCell ⟨R, i, none⟩ (.int .i64 x)) R (putW l 0 (t.take (q + 1)) (List.replicate en 0)) from by
              have := hIb.out.store i x
              rwa [← hstep.out] at this)
            clear hIq hQb P0 P1 D ci fi cl cTv ct hIb
            by_cases hx0 : x < 0
            · have hnone := Lib.hid (show proofL X ws z t = none by
                unfold proofL
                simp only [hsl'.out]
                rw [if_pos (neg_any (k := q) (by rw [htn'.out]; exact hqt) (by rw [hx'.out]; exact hx0))])
              go_wp2
              refine bodyPost_ret (v := .tuple #[.agg #[.int .i64 0, .int .i64 0, .slice none 0 0], .bool false]) ?_ rfl ⟨?_, ?_⟩
              · refine results_cell2t (p := 4) (u := 5) (ad := ⟨w.heap.size + 1, 0, none⟩) (v := .agg #[.int .i64 0, .int .i64 0, .slice none 0 0]) rfl (by rfl) (run_loadBlock (T := 35) (cs := [.int .i64 0, .int .i64 0, .slice none 0 0]) (by kernel_rfl) (by kernel_rfl) ?_)
                exact bk_here (bk_here (bk_here (bk_set R1 (by first | omega | (dsimp only; omega)) _) _ rfl) _ rfl) _ rfl
              · unfold PrfGot
                rw [hnone.out]
              · first | go_grown | (repeat' (first | exact hw_wb | refine Below.setCell ?_ (by dsimp only; omega) _))
            · go_wp2
              go_roundw
              case rel => exact ⟨q + 1, by omega, by go_num, hI2.out, bk_set hQ2 (by first | omega | (dsimp only; omega)) _, (fun j hj => by
                by_cases hjq : j = q
                · rw [hjq, hx'.out]; exact hx0
                · have := hnn.out j (by omega); omega), hbr2.setCell (by first | omega | (dsimp only; omega)) _⟩
              case measure => first | (simp [intOf]; done) | (simp [intOf]; omega)
          · obtain rfl : tn = q := by omega
            have hall : t.take tn = t := by rw [← htn'.out, List.take_length]
            rw [hall] at hIq
            obtain ⟨W, hW⟩ : ∃ W, putW l 0 t (List.replicate en 0) = W := ⟨_, rfl⟩
            rw [hW] at hIq
            have hWl := Lib.hid (show W.length = en by rw [← hW, putW_len, List.length_replicate])
            have hWs := Lib.hid (show Small 1228800000000000 W by
              rw [← hW]
              exact putW_small hls'.out t 0 _ fun x hx => by rw [List.eq_of_mem_replicate hx]; decide)
            have hprf := Lib.hid (show proofL X ws z t = if levOk X den lev W 0 ws = true then some { den := den / (gcdL 0 (den :: lev :: W) : Int), lev := lev / (gcdL 0 (den :: lev :: W) : Int), W := W.map (· / (gcdL 0 (den :: lev :: W) : Int)) } else none by
              have hXl : X.length = en := by rw [← hX'.out, exs_len]; exact hen'.out
              unfold proofL
              simp only [hsl'.out]
              rw [if_neg (by rw [neg_none (by rw [htn'.out]; exact hnn.out)]; decide), hXl, hW, hlev'.out])
            clear hqt hall hW hnn cTv D P0 P1
            go_wp2
            go_loopw [110] (fun i wr => ∃ k : Nat, k ≤ np ∧ i = .int .i64 k ∧ Hid (IntsAt 3 wr R W) ∧ wr.heap[Q]? = some (.cells #[.int .i64 den, .int .i64 lev, .slice (some ⟨R, 0, none⟩) en en] 35 (0, 0)) ∧ Hid (∀ j, j < k → ¬ (ws.getD j 0 * den + putsL X W j < lev)) ∧ Below w2.heap.size w2 wr) (fun i _ => np - (intOf i).toNat)
            case atStart => exact ⟨0, Nat.zero_le _, rfl, hIq.out, hQb, fun j hj => by omega, hbr⟩
            case round =>
              clear hIq hQb hbr hbw4
              obtain ⟨k, hk, rfl, hIq, hQb, hlv, hbr⟩ := hrel
              have P0 := bk_keep hbr N0
              have P1 := bk_keep hbr N1
              have NB : wr.heap[w.heap.size]? = some (.cells (basC (.slice pA np pc) (.slice eA en ec) zv (.slice tA tn tc) z t).toArray 160 (0, 0)) := by rw [hBA'.out]; exact P0
              have cPv := bas_load NB (k := 0) rfl
              have cEv := bas_load NB (k := 1) rfl
              have D := bk3 hQb
              have hbw4 := via hbw2 hbr
              have hsR := hIq.out.size
              have hsQ := bk_size hQb
              have hs0 := bk_size P0
              clear NB
              by_cases hkn : k < np
              · have hkI : (k : Int) < (np : Int) := by omega
                obtain ⟨bw, ow, rfl, hbwl, cw⟩ := fW.out wr hbw4 k hkn
                obtain ⟨u, hu⟩ : ∃ u, ws.getD k 0 = u := ⟨_, rfl⟩
                rw [hu] at cw
                obtain ⟨T, hT⟩ : ∃ T, putsL X W k = T := ⟨_, rfl⟩
                have hPu := Lib.hid fun (x : Grew wr) => (by
                  have := puts_any pA eA (some ⟨R, 0, none⟩) np pc ec en np es W den lev k x.val hR'.out (hE'.out.below (via hbw4 x.ok)) (hIq.out.below x.ok).at' (by rw [hWl.out, hen'.out]) hkn (fun y hy => Nat.le_trans (hWs.out y hy) (by decide))
                  rw [hen'.out, hWl.out, hX'.out, hT] at this
                  exact this :
                  Calls Tryz.prog 79 #[.agg #[(.slice pA np pc), (.slice eA en ec)], .agg #[.int .i64 den, .int .i64 lev, .slice (some ⟨R, 0, none⟩) en en], .int .i64 k] x.val fun e w' => e = .returned (.int .i64 T) ∧ Below x.val.heap.size x.val w')
                have hTb : T.natAbs ≤ 8 * (1228800000000000 * 20) := by
                  have := putsL_bound (X := 20) (Y := 1228800000000000) k X W X.length (by rw [← hX'.out]; exact hR'.out.exs_co) hWs.out
                  rw [List.take_length, ← hX'.out, exs_len, List.take_of_length_le (by rw [hWl.out, hen'.out]; exact Nat.le_refl _), hX'.out, hT] at this
                  refine Nat.le_trans this (Nat.mul_le_mul_right _ hE8)
                have hub : u.natAbs ≤ 400 := by rw [← hu]; exact hws'.out.get k
                have hud := abs_mul hub hdb
                obtain ⟨y, hy⟩ : ∃ y, u * den = y := ⟨_, rfl⟩
                rw [hy] at hud
                obtain ⟨s, hs⟩ : ∃ s, y + T = s := ⟨_, rfl⟩
                have hw1 : IntKind.i64.wrap (u * den) = y := by rw [hy]; exact IntWalk.i64_in _ (by omega)
                have hw2 : IntKind.i64.wrap (y + T) = s := by rw [hs]; exact IntWalk.i64_in _ (by omega)
                have hsum := Lib.hid (show ws.getD k 0 * den + putsL X W k = s by rw [hu, hT, hy, hs])
                clear hu hT hTb hub hud hy hs
                go_wp2
                refine region_in w 11 (by kernel_rfl) (by kernel_rfl) (by go_grown) ?_
                intro hgc hbx
                simp only [List.take_succ_cons, List.take_zero, List.drop_succ_cons, List.drop_zero]
                repeat (go_big_quiet_step ((go_at_call 79; with_reducible exact Grew.call (hPu.out _))))
                refine wpQuiet_nil ?_
                intro wb hb_wb hw_wb hs_wb
                clear hgc hbx
                have hIb := Lib.hid (hIq.out.below hb_wb)
                have hQ2 := bk_keep hb_wb hQb
                have R1 := bk_keep hb_wb P1
                have C1 := bk3 R1
                have hbr2 := via hbr hb_wb
                clear hIq hQb P0 P1 D cPv cEv cw hPu
                by_cases hs0 : s < lev
                · have hnone := Lib.hid (show proofL X ws z t = none by
                    rw [hprf.out, levOk_no (j := k) (by rw [hwn'.out]; exact hkn) (by rw [hsum.out]; exact hs0)]
                    rfl)
                  go_wp2
                  refine bodyPost_ret (v := .tuple #[.agg #[.int .i64 0, .int .i64 0, .slice none 0 0], .bool false]) ?_ rfl ⟨?_, ?_⟩
                  · refine results_cell2t (p := 4) (u := 5) (ad := ⟨w.heap.size + 1, 0, none⟩) (v := .agg #[.int .i64 0, .int .i64 0, .slice none 0 0]) rfl (by rfl) (run_loadBlock (T := 35) (cs := [.int .i64 0, .int .i64 0, .slice none 0 0]) (by kernel_rfl) (by kernel_rfl) ?_)
                    exact bk_here (bk_here (bk_here (R1) _ rfl) _ rfl) _ rfl
                  · unfold PrfGot
                    rw [hnone.out]
                  · first | go_grown | (repeat' (first | exact hw_wb | refine Below.setCell ?_ (by dsimp only; omega) _))
                · go_wp2
                  go_roundw
                  case rel => exact ⟨k + 1, by omega, by go_num, hIb.out, hQ2, (fun j hj => by
                    by_cases hjk : j = k
                    · rw [hjk, hsum.out]; exact hs0
                    · exact Int.not_lt.2 (hlv.out j (by omega))), hbr2⟩
                  case measure => first | (simp [intOf]; done) | (simp [intOf]; omega)
              · obtain rfl : np = k := by omega
                have hyes := hprf.out
                rw [levOk_yes (fun j hj => hlv.out j (by rw [hwn'.out] at hj; exact hj)), if_pos rfl] at hyes
                have hG0 : 0 < gcdL 0 (den :: lev :: W) := gcdL_pos den (by simp) (by omega)
                have hdv := (gcdL_dvd (den :: lev :: W) 0).2
                have hDi := Lib.hid fun A c w' hA => divisor_any A (den :: lev :: W) c w' hA (by simp only [List.length_cons]; rw [hWl.out]; have := hen'.out; omega) (by
                  intro x hx
                  rcases List.mem_cons.1 hx with rfl | hx
                  · exact Nat.le_trans hdb (by decide)
                  · rcases List.mem_cons.1 hx with rfl | hx
                    · rw [← hlev'.out]; exact Nat.le_trans (hls'.out.get 0) (by decide)
                    · exact Nat.le_trans (hWs.out x hx) (by decide))
                have hll2 : (den :: lev :: W).length = 2 + en := by simp only [List.length_cons]; rw [hWl.out]; omega
                rw [hll2] at hDi
                obtain ⟨gI, hgI⟩ : ∃ gI : Int, ((gcdL 0 (den :: lev :: W) : Nat) : Int) = gI := ⟨_, rfl⟩
                rw [hgI] at hyes hdv hDi
                have hg0 : 0 < gI := by omega
                have hgn : ¬ gI = 0 := by omega
                have hgb : (gI == 0) = false := by simpa using hgn
                have hw1 : IntKind.i64.wrap (den.tdiv gI) = den / gI := wrap_div hg0 (hdv den (by simp)) hdb (by decide)
                have hw2 : IntKind.i64.wrap (lev.tdiv gI) = lev / gI := wrap_div hg0 (hdv lev (by simp)) (by rw [← hlev'.out]; exact hls'.out.get 0) (by decide)
                have hwW := Lib.hid fun j (hj : j < en) => (wrap_div hg0 (hdv (W.getD j 0) (by
                  have hj2 : j < W.length := by rw [hWl.out]; exact hj
                  rw [List.getD_eq_getElem?_getD, List.getElem?_eq_getElem hj2]
                  exact List.mem_cons_of_mem _ (List.mem_cons_of_mem _ (List.getElem_mem hj2)))) (hWs.out.get j) (by decide) : IntKind.i64.wrap ((W.getD j 0).tdiv gI) = W.getD j 0 / gI)
                have hyes' := Lib.hid hyes
                have hlitO := Lib.hid fun (x : World) => (⟨rfl, .inr ⟨x.heap.size, 2, #[.int .i64 den, .int .i64 lev], rfl, Nat.le_refl _, bk_new _ _ rfl, Nat.le_refl _, by decide, rfl, rfl⟩⟩ : (x.alloc (.cells #[.int .i64 den, .int .i64 lev] 3 (0, 0))).ownsRow x.heap.size 3 1 (.slice (some ⟨x.heap.size, 0, none⟩) 2 2) 2 [.int .i64 den, .int .i64 lev])
                clear hyes hdv hG0 hgI hll2 hprf hlv hkn cPv cEv
                go_wp2_with (at_builtin; refine wpList_append_own _ rfl _ _ 33 rfl wr.heap.size 3 i0 (.int .i64 0) 1 8 Tryz.underlying33 hi hz0 hz1 hz2 rfl (by decide) _ _ _ rfl (hlitO.out wr) ⟨R, 0, none⟩ en en (W.map (Value.int .i64)) rfl ?c0 ?c1 ?c2 ?c3 ?c4 ?c5 ?_)
                case c0 => rw [List.length_map, hWl.out, Nat.mul_one]
                case c1 =>
                  intro j u hu
                  rw [List.getElem?_map] at hu
                  obtain ⟨y, hy, rfl⟩ := Option.map_eq_some_iff.1 hu
                  have := (hIq.out.alloc (.cells #[.int .i64 den, .int .i64 lev] 3 (0, 0))).load hy
                  have e : Addr.add ⟨R, 0, none⟩ j = ⟨R, j, none⟩ := by unfold Addr.add; split <;> simp_all
                  rw [e]
                  exact this
                case c2 =>
                  intro u hu
                  obtain ⟨y, -, rfl⟩ := List.mem_map.1 hu
                  rfl
                case c3 => have := hen'.out; unfold maxLen; omega
                case c4 => have := hen'.out; omega
                case c5 => simp
                intro v4 w4 hown4 hg4 _
                obtain ⟨A4, c4, rfl⟩ := own_slice hown4
                have hbx4 : Below wr.heap.size wr w4 := grown_below (new_below wr _) hg4 fun b e => by cases e; exact Nat.le_refl _
                have hat5 := Lib.hid (show At 1 Zc w4 A4 (den :: lev :: W) from own_ints (l := den :: lev :: W) hown4)
                have hI4 := Lib.hid (hIq.out.below hbx4)
                have hQ4 := bk_keep hbx4 hQb
                have R4 := bk_keep hbx4 P1
                have hbr4 := via hbr hbx4
                clear hown4 hg4 hbx4 hIq hQb P0 P1 D hbr hbw4
                go_wp2_with (go_at_call 85; refine (hDi.out _ _ _ hat5.out).mono ?_; rintro e w5 ⟨rfl, hb5⟩)
                have hI5 := Lib.hid (hI4.out.below hb5)
                have hQ5 := bk_keep hb5 hQ4
                have R5 := bk_keep hb5 R4
                have hbr5 := via hbr4 hb5
                clear hI4 hQ4 R4 hbr4 hb5 hat5 hDi hlitO
                apply region_rrss w2 1 5 9 11 Q (.int .i64 den) (.int .i64 lev) (fun a b => .cells #[.int .i64 (if a then den / gI else den), .int .i64 (if b then lev / gI else lev), .slice (some ⟨R, 0, none⟩) en en] 35 (0, 0))
                case hm => kernel_rfl
                case hB => kernel_rfl
                case hB' => intro g; kernel_rfl
                case hS => kernel_rfl
                case hN => kernel_rfl
                case hne => decide
                case hkd => kernel_rfl
                case hw => exact hbr5
                case hb => exact hB2
                case hb0 => exact hQ5
                case hcl =>
                  intro L hc
                  refine ⟨⟨fun h => ?_, fun h => ?_⟩, fun o ho h => ?_, fun o ho h => ?_⟩
                  · have h2 := hc 9 _ rfl h
                    simp [Region.binds] at h2
                    exact ⟨by simp [h2], by simp [h2]⟩
                  · have h2 := hc 11 _ rfl h
                    simp [Region.binds] at h2
                    exact ⟨by simp [h2], by simp [h2]⟩
                  · simp at ho
                    subst ho
                    simp [Region.binds] at h
                    exact ⟨by simp [h], by simp [h]⟩
                  · simp at ho
                    subst ho
                    simp [Region.binds] at h
                    exact ⟨by simp [h], by simp [h]⟩
                case hq =>
                  intro g u hu hgc hbx hbX
                  dsimp only [mixL, yieldsC, List.contains_cons, List.contains_nil]
                  simp only [mixL, yieldsC, List.contains_cons, List.contains_nil, Nat.reduceAdd, Nat.reduceBEq, Nat.zero_add, Bool.or_false, Bool.or_true, Bool.false_or, Bool.true_or, Bool.false_eq_true, if_true, if_false, Bool.or_self, Nat.reduceEqDiff]
                  repeat (go_big_quiet_step (fail))
                  exact wpQuiet_nil rfl
                case hp =>
                  intro o ho g x hx
                  simp only [List.getElem?_cons_succ, List.getElem?_cons_zero, Option.some.injEq] at ho
                  subst ho
                  have D := bk3 hx
                  exact run_load_int (b := Q) (off := 0) rfl (by kernel_rfl) (by kernel_rfl) (by simpa using D.1)
                case hqq =>
                  intro o ho g x hx
                  simp only [List.getElem?_cons_succ, List.getElem?_cons_zero, Option.some.injEq] at ho
                  subst ho
                  have D := bk3 hx
                  exact run_load_int (b := Q) (off := 1) rfl (by kernel_rfl) (by kernel_rfl) (by simpa using D.2.1)
                case hind => intro j hj; simp only [List.mem_cons, List.not_mem_nil, or_false] at hj; rcases hj with rfl | rfl | rfl | rfl <;> (intro g h; kernel_rfl)
                case hs1 =>
                  intro o ho f g x hx
                  simp only [List.getElem?_cons_succ, List.getElem?_cons_zero, Option.some.injEq] at ho
                  subst ho
                  have D := bk3 hx
                  exact ⟨_, run_store_int (n := den / gI) rfl (by kernel_rfl) (by kernel_rfl) (by kernel_rfl) D.1 (by simp [D]), (OnlyB.refl _ _).set _ _, bk_here hx _ rfl⟩
                case hs2 =>
                  intro o ho f g x hx
                  simp only [List.getElem?_cons_succ, List.getElem?_cons_zero, Option.some.injEq] at ho
                  subst ho
                  have D := bk3 hx
                  exact ⟨_, run_store_int (n := lev / gI) rfl (by kernel_rfl) (by kernel_rfl) (by kernel_rfl) D.2.1 (by simp [D]), (OnlyB.refl _ _).set _ _, bk_here hx _ rfl⟩
                intro g x hg hbr6 hQ6
                simp only [if_true] at hQ6
                have hI6 := Lib.hid (show IntsAt 3 x R W from (hg.block R hI5.out.size (by simpa using hBne)).trans hI5.out)
                have R6 := bk_grown hg R5 (by have := bk_size N1; simp; omega)
                have hd2 := hw1
                obtain ⟨d2, hd2⟩ : ∃ d2, den / gI = d2 := ⟨_, rfl⟩
                obtain ⟨l2, hl2⟩ : ∃ l2, lev / gI = l2 := ⟨_, rfl⟩
                rw [hd2, hl2] at hQ6 hyes'
                clear hg hI5 hQ5 R5 hbr5 hw1 hw2 hd2 hl2 g
                have D := bk3 hQ6
                go_wp2
                go_loopw [151] (fun i wr => ∃ k : Nat, k ≤ en ∧ i = .int .i64 k ∧ Hid (IntsAt 3 wr R ((W.take k).map (· / gI) ++ W.drop k)) ∧ wr.heap[Q]? = some (.cells #[.int .i64 d2, .int .i64 l2, .slice (some ⟨R, 0, none⟩) en en] 35 (0, 0)) ∧ Below w2.heap.size w2 wr) (fun i _ => en - (intOf i).toNat)
                case atStart => exact ⟨0, Nat.zero_le _, rfl, Lib.hid (by simpa using hI6.out), hQ6, hbr6⟩
                case round =>
                  clear hI6 hQ6 hbr6 D R6
                  obtain ⟨k, hk, rfl, hI7, hQ7, hbr7⟩ := hrel
                  have D := bk3 hQ7
                  have hsR := hI7.out.size
                  have hsQ := bk_size hQ7
                  by_cases hkn : k < en
                  · have hkI : (k : Int) < (en : Int) := by omega
                    have hkW : k < W.length := by rw [hWl.out]; exact hkn
                    have ci := hI7.out.load (map_div_at (g := gI) hkW)
                    have fi := hI7.out.frozen k
                    have hI8 := Lib.hid (hI7.out.store k (W.getD k 0 / gI))
                    rw [map_div_step hkW] at hI8
                    have hww := hwW.out k hkn
                    have hen8 : en ≤ 8 := by have := hen'.out; omega
                    obtain ⟨y, hy⟩ : ∃ y, W.getD k 0 = y := ⟨_, rfl⟩
                    rw [hy] at ci hww hI8
                    clear hy hkW
                    go_wp2
                    go_roundw
                    case rel =>
                      refine ⟨k + 1, by omega, by go_num, hI8.out, bk_set hQ7 ?_ _, hbr7.setCell ?_ _⟩
                      · exact fun e => hBne e.symm
                      · exact hB1
                    case measure => first | (simp [intOf]; done) | (simp [intOf]; omega)
                  · obtain rfl : en = k := by omega
                    have P1 := bk_keep hbr7 N1
                    have hI8 := hI7.out
                    rw [show W.take en = W by rw [← hWl.out, List.take_length], show W.drop en = [] by rw [← hWl.out, List.drop_length], List.append_nil] at hI8
                    have hbw7 := via hbw2 hbr7
                    have C1 := bk3 P1
                    have hRs : R ≠ w.heap.size + 1 := by have := bk_size N1; omega
                    clear hI7
                    go_wp2
                    refine bodyPost_ret (v := .tuple #[.agg #[.int .i64 d2, .int .i64 l2, .slice (some ⟨R, 0, none⟩) en en], .bool true]) ?_ rfl ⟨?_, ?_⟩
                    · refine results_cell2t (p := 4) (u := 5) (ad := ⟨w.heap.size + 1, 0, none⟩) (v := .agg #[.int .i64 d2, .int .i64 l2, .slice (some ⟨R, 0, none⟩) en en]) rfl (by rfl) (run_loadBlock (T := 35) (cs := [.int .i64 d2, .int .i64 l2, .slice (some ⟨R, 0, none⟩) en en]) (by kernel_rfl) (by kernel_rfl) ?_)
                      exact bk_here (bk_here (bk_here P1 _ rfl) _ rfl) _ rfl
                    · unfold PrfGot
                      rw [hyes'.out]
                      exact ⟨_, _, rfl, own_of_ints (((hI8.other _ _ (fun e => hRs e.symm)).other _ _ (fun e => hRs e.symm)).other _ _ (fun e => hRs e.symm)) (by simp [hWl.out]) (by have := hen'.out; omega) (Nat.le_trans hbw2.size hB1)⟩
                    · exact ((hbw7.setCell (by dsimp only; omega) _).setCell (by dsimp only; omega) _).setCell (by dsimp only; omega) _
end Go.Proofs

set_option linter.unusedSimpArgs false
set_option linter.unusedVariables false
namespace Go.Proofs
open Go.RowKit

/-- A list of one's own, one cell written. -/
theorem own_store {w : World} {base n c g : Nat} {e : TypeId} {xs : List Value} (h : w.ownsRow base e 1 (.slice (some ⟨g, 0, none⟩) n c) n xs) {k : Nat} (hk : k < n) (v : Value) : (w.setCell ⟨g, k, none⟩ v).ownsRow base e 1 (.slice (some ⟨g, 0, none⟩) n c) n (xs.set k v) := by
  obtain ⟨h1, h2⟩ := h
  refine ⟨by simpa using h1, ?_⟩
  rcases h2 with ⟨h2, -⟩ | ⟨g', cap, cur, h3, h4, h5, h6, h7, h8, h9⟩
  · cases h2
  · cases h3
    refine .inr ⟨g, c, cur.setIfInBounds k v, rfl, h4, ?_, h6, h7, by simpa using h8, ?_⟩
    · simp only [World.setCell]
      rw [Array.getElem?_modify, if_pos rfl, h5]
      simp
    · rw [Nat.mul_one] at h9 ⊢
      rw [← h9]
      apply List.ext_getElem?
      intro j
      rw [List.getElem?_take, Array.getElem?_toList, Array.getElem?_setIfInBounds, List.getElem?_set, List.getElem?_take, List.length_take, Array.length_toList, h8]
      by_cases hj : j < n
      · simp only [hj, if_true]
        by_cases hjk : k = j
        · subst hjk
          rw [if_pos rfl, if_pos rfl, if_pos (by omega), if_pos (by omega)]
        · rw [if_neg hjk, if_neg hjk, Array.getElem?_toList]
      · simp only [hj, if_false]
        rw [if_neg (by omega)]
theorem own_frozen {w : World} {base n c g : Nat} {e : TypeId} {xs : List Value} (h : w.ownsRow base e 1 (.slice (some ⟨g, 0, none⟩) n c) n xs) (k : Nat) : w.frozen? ⟨g, k, none⟩ = false := by
  rcases h.2 with ⟨h2, -⟩ | ⟨g', cap, cur, h3, h4, h5, h6, h7, h8, h9⟩
  · cases h2
  · cases h3
    unfold World.frozen?
    rw [h5]
    simp
set_option maxRecDepth 100000 in
theorem permits_any (nm : ByteArray) (cA pA : Option Addr) (co l : List Int) (cc pc np : Nat) (mo den : Int) (w : World) (hC : At 1 Zc w cA co) (hP : At 1 Zc w pA l) (hco : co.length = np) (hl : l.length = np) (h8 : np ≤ 8) (sc : Small 20 co) (hmo : mo.natAbs ≤ 20) (sl : Small 10000000000000000 l) (hden : den.natAbs ≤ 10000000000000000) :
    Calls Tryz.prog 109 #[.agg #[.string nm, .slice cA np cc, .int .i64 mo], .agg #[.int .i64 den, .slice pA np pc]] w fun e w' => e = .returned (.bool (decide (dotL co l ≤ mo * den))) ∧ Below w.heap.size w w' := by
  have hD := Lib.hid fun W (hb : Below w.heap.size w W) => (by
    have := dot_any cA pA co l cc pc W (hC.below hb) (hP.below hb) (by omega) (by omega) 20 10000000000000000 (by decide) sc sl
    rw [hco, hl] at this
    exact this : Calls Tryz.prog 58 #[.slice cA np cc, .slice pA np pc] W fun e w' => e = .returned (.int .i64 (dotL co l)) ∧ W = w')
  have hm := abs_mul hmo hden
  obtain ⟨y, hy⟩ : ∃ y, mo * den = y := ⟨_, rfl⟩
  rw [hy] at hm
  have hw1 : IntKind.i64.wrap (mo * den) = y := by rw [hy]; exact IntWalk.i64_in _ (by omega)
  rw [hy]
  obtain ⟨d, hd⟩ : ∃ d, dotL co l = d := ⟨_, rfl⟩
  rw [hd] at hD ⊢
  clear hy hd hm hC hP hco hl sc sl
  go_enter Tryz.func109, Tryz.ntmps109
  go_wp2
  obtain ⟨w1, hw⟩ : ∃ w1, w1 = w := ⟨_, rfl⟩
  refine region_all w (by kernel_rfl) (by kernel_rfl) (by go_grown) ?_
  intro hgc hbx
  repeat (go_big_quiet_step ((go_at_call 58; with_reducible exact Grew.call_same (hD.out _ (hbx.out _)))))
  refine wpQuiet_nil ?_
  intro wb hb_wb hw_wb hs_wb
  clear hgc hbx
  go_wp2
  go_ret
  exact ⟨rfl, by assumption⟩
end Go.Proofs
