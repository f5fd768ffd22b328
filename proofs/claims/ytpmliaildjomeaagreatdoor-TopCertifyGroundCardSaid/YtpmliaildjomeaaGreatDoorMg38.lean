import Derived.Test.YtpmliaildjomeaaGreatDoorMg36
import Derived.Test.YtpmliaildjomeaaGreatDoorMg37
import Derived.Test.YtpmliaildjomeaaGreatDoorMg18
import Derived.Test.YtpmliaildjomeaaGreatDoorMg28
import Derived.Test.YtpmliaildjomeaaGreatDoorMg29
import Derived.Test.YtpmliaildjomeaaGreatDoorMg25
import Derived.Test.YtpmliaildjomeaaGreatDoorMg26
set_option linter.unusedSimpArgs false
set_option linter.unusedVariables false
namespace Go.Proofs
open Go.RowKit
set_option linter.unusedVariables false
/-! The text of a book. -/
def txPart : List UInt8 := [112, 97, 114, 116]
def txEntry : List UInt8 := [101, 110, 116, 114, 121]
def partW (p : Pa) : List (List UInt8) := [txPart, p.nm.data.toList, Lib.itoa p.a0, Lib.itoa p.a1, Lib.itoa p.c0, Lib.itoa p.c1]
def entW (x : En) : List (List UInt8) := txEntry :: x.nm.data.toList :: Lib.itoa x.mo :: x.co.map Lib.itoa
def lineP (p : Pa) : List UInt8 := Lib.join (partW p) [32] ++ [10]
def lineE (x : En) : List UInt8 := Lib.join (entW x) [32] ++ [10]
def bookT (ps : List Pa) (es : List En) : List UInt8 := ps.flatMap lineP ++ es.flatMap lineE
/-- What the numbers and names of a right book are. -/
structure PaR (p : Pa) : Prop where
  nm : nameB p.nm.data.toList = true
  a0 : p.a0.natAbs ≤ 400
  a1 : p.a1.natAbs ≤ 400
  c0 : p.c0.natAbs ≤ 20
  c1 : p.c1.natAbs ≤ 20
structure EnR (np : Nat) (x : En) : Prop where
  nm : nameB x.nm.data.toList = true
  mo : x.mo.natAbs ≤ 20
  co : ∀ n ∈ x.co, n.natAbs ≤ 20
  len : x.co.length = np
theorem BookR.pa {ps : List Pa} {es : List En} (h : BookR ps es) {p : Pa} (hp : p ∈ ps) : PaR p := by
  obtain ⟨i, hi⟩ := List.getElem?_of_mem hp
  obtain ⟨h1, -, h2, h3⟩ := h.part i p hi
  exact ⟨h1, by omega, by omega, by omega, by omega⟩
theorem BookR.en {ps : List Pa} {es : List En} (h : BookR ps es) {x : En} (hx : x ∈ es) : EnR ps.length x := by
  obtain ⟨i, hi⟩ := List.getElem?_of_mem hx
  obtain ⟨h1, -, h2, h3⟩ := h.ent i x hi
  exact ⟨h1, h3 _ (by simp), fun n hn => h3 n (by simp [hn]), h2⟩
theorem name_len {l : List UInt8} (h : nameB l = true) : l.length ≤ 12 := by
  unfold nameB at h
  simp only [Bool.and_eq_true, decide_eq_true_eq] at h
  exact h.1.2
theorem itoa_len3 (n : Int) (h : n.natAbs ≤ 400) : (Lib.itoa n).length ≤ 4 := (itoa_len 2 n (by omega)).1
theorem partW_len {p : Pa} (h : PaR p) : ∀ x ∈ partW p, x.length ≤ 20 := fun x hx => by
  unfold partW at hx
  simp only [List.mem_cons, List.not_mem_nil, or_false] at hx
  have h1 := name_len h.nm
  have h2 := itoa_len3 p.a0 h.a0
  have h3 := itoa_len3 p.a1 h.a1
  have h4 := itoa_len3 p.c0 (by have := h.c0; omega)
  have h5 := itoa_len3 p.c1 (by have := h.c1; omega)
  rcases hx with rfl | rfl | rfl | rfl | rfl | rfl
  · decide
  all_goals omega
theorem entW_len {np : Nat} {x : En} (h : EnR np x) : ∀ y ∈ entW x, y.length ≤ 20 := fun y hy => by
  unfold entW at hy
  simp only [List.mem_cons, List.mem_map] at hy
  have h1 := name_len h.nm
  have h2 := itoa_len3 x.mo (by have := h.mo; omega)
  rcases hy with rfl | rfl | rfl | ⟨n, hn, rfl⟩
  · decide
  · omega
  · omega
  · have := itoa_len3 n (by have := h.co n hn; omega)
    omega
theorem lineP_len {p : Pa} (h : PaR p) : (Lib.join (partW p) [32]).length ≤ 126 := by
  have := join_len 20 _ (partW_len h)
  simpa [partW] using this
theorem lineE_len {np : Nat} {x : En} (h : EnR np x) (h5 : np ≤ 5) : (Lib.join (entW x) [32]).length ≤ 168 := by
  have := join_len 20 _ (entW_len h)
  have hl := h.len
  simp only [entW, List.length_cons, List.length_map] at this ⊢
  omega
theorem flat_len {α : Type} (f : α → List UInt8) (K : Nat) : ∀ (l : List α), (∀ x ∈ l, (f x).length ≤ K) → (l.flatMap f).length ≤ K * l.length
  | [], _ => by simp
  | x :: l, h => by
    have ih := flat_len f K l fun y hy => h y (by simp [hy])
    have := h x (by simp)
    rw [List.flatMap_cons, List.length_append, List.length_cons, Nat.mul_add]
    omega
theorem bookT_len {ps : List Pa} {es : List En} (h : BookR ps es) : (bookT ps es).length ≤ 2000 := by
  unfold bookT
  have h1 := flat_len lineP 127 ps fun p hp => by unfold lineP; have := lineP_len (h.pa hp); simp; omega
  have h2 := flat_len lineE 169 es fun x hx => by unfold lineE; have := lineE_len (h.en hx) h.n5; simp; omega
  have h3 := h.n5
  have h4 := h.e8
  rw [List.length_append]
  have h5 : 127 * ps.length ≤ 127 * 5 := Nat.mul_le_mul_left _ h3
  have h6 : 169 * es.length ≤ 169 * 8 := Nat.mul_le_mul_left _ h4
  omega
/-- A builder keeps what it holds where others make blocks. -/
theorem builder_below {B b : Nat} {vs : List Value} {w w' : World} (h : Lib.IsBuilder 93 5 B b vs w) (hb : Below w.heap.size w w') : Lib.IsBuilder 93 5 B b vs w' := by
  have key : ∀ p, Lib.BuilderAt 93 5 B b p vs w → Lib.BuilderAt 93 5 B b p vs w' := fun p h => by
    obtain ⟨h1, v, h2, h3, h4⟩ := h
    exact ⟨h1, v, bk_keep hb h2, owns_below h3 hb, h4⟩
  rcases h with h | h
  · exact .inl (key _ h)
  · exact .inr (key _ h)
theorem joined_blk (ws : List Wd) (n B : Nat) (W : World) (vs : Array Value) (txt : List (List UInt8)) (hvs : (ws.map Wd.v).toArray = vs) (hc : W.heap[B]? = some (.cells vs 20 (0, 0))) (he : ws.flatMap Wd.tx = txt) (hn : ws.length = n) (h100 : n ≤ 100)
    (hls : ∀ A c ns, Wd.l A c ns ∈ ws → At 1 Zc W A ns ∧ ∀ x ∈ ns, x.natAbs ≤ 9000000000000000000) (hns : ∀ i, Wd.n i ∈ ws → i.natAbs ≤ 9000000000000000000) (h9 : txt.length ≤ 900) (h1 : 0 < txt.length) (hlen : (Lib.join txt [32]).length ≤ 100000) (ht : Tabs W) :
    Calls Tryz.prog 38 #[.slice (some ⟨B, 0, none⟩) n n] W fun e w' => e = .returned (.string (bs (Lib.join txt [32]))) ∧ Below W.heap.size W w' := by
  subst he
  exact joined_any B n n ws W ⟨bk_size hc, fun j x hx => by rw [← hvs] at hc; unfold World.cell?; simp [hc, hx], hls, hns⟩ hn h100 h9 h1 hlen ht
theorem strCells_bs (l : List UInt8) : Lib.strCells (bs l) = Lib.byteCells l := rfl
theorem byteCells_app (a b : List UInt8) : Lib.byteCells (a ++ b) = Lib.byteCells a ++ Lib.byteCells b := by unfold Lib.byteCells; rw [List.map_append]
theorem byteCells_len (a : List UInt8) : (Lib.byteCells a).length = a.length := by unfold Lib.byteCells; rw [List.length_map]
theorem bs_app (a b : List UInt8) : bs a ++ bs b = bs (a ++ b) := by
  apply ByteArray.ext
  rw [ByteArray.data_append]
  simp [bs]
theorem flat_take {α : Type} (f : α → List UInt8) {l : List α} {j : Nat} {x : α} (h : l[j]? = some x) : (l.take (j + 1)).flatMap f = (l.take j).flatMap f ++ f x := by
  rw [List.take_add_one, h]
  simp
theorem flat_take_le {α : Type} (f : α → List UInt8) (l : List α) (j : Nat) : ((l.take j).flatMap f).length ≤ (l.flatMap f).length := by
  conv => rhs; rw [← List.take_append_drop j l, List.flatMap_append, List.length_append]
  omega
set_option maxRecDepth 100000 in
set_option maxHeartbeats 4000000 in
theorem print_any (pA eA : Option Addr) (pc ec pn en : Nat) (ps : List Pa) (es : List En) (w : World) (hB : BookAt w pA pc ps eA ec es) (hF : FewB ps es) (hR : BookR ps es) (hpn : ps.length = pn) (hen : es.length = en) (ht : Tabs w) :
    Calls Tryz.prog 13 #[.agg #[.slice pA pn pc, .slice eA en ec]] w fun e w' => e = .returned (.tuple #[.string (bs (bookT ps es)), .int .i64 0]) ∧ Below w.heap.size w w' := by
  have hz : (bookV ps es).2 = 0 := bookR_iff.2 hR
  have hBo := Lib.hid fun W (hb : Below w.heap.size w W) => bookErr_any pA eA pc ec pn en ps es W (hB.below hb) hF hpn hen
  rw [hz] at hBo
  have hpn5 : pn ≤ 5 := by rw [← hpn]; exact hR.n5
  have hen8 : en ≤ 8 := by rw [← hen]; exact hR.e8
  have hT := bookT_len hR
  have hTp : Hid (∀ j, ((ps.take j).flatMap lineP).length ≤ 2000) := Lib.hid fun j => by
    have := flat_take_le lineP ps j
    unfold bookT at hT
    rw [List.length_append] at hT
    omega
  have hTe : Hid (∀ j, (ps.flatMap lineP).length + ((es.take j).flatMap lineE).length ≤ 2000) := Lib.hid fun j => by
    have := flat_take_le lineE es j
    unfold bookT at hT
    rw [List.length_append] at hT
    omega
  have hR' := Lib.hid hR
  have hP' := Lib.hid hB.P
  have hE' := Lib.hid hB.E
  have hpn' := Lib.hid hpn
  have hen' := Lib.hid hen
  have ht' := Lib.hid ht
  obtain ⟨S, hS⟩ : ∃ S, bookT ps es = S := ⟨_, rfl⟩
  have hS' := Lib.hid hS
  rw [hS]
  clear hB hF hR hpn hen hz hT ht hS
  go_enter Tryz.func13, Tryz.ntmps13
  go_wp2_with (go_at_call 40; refine (hBo.out _ (by go_grown)).mono ?_; rintro e w2 ⟨rfl, hb2⟩; (have M0 := bk_keep hb2 (bk_new w (.cells #[.slice pA pn pc, .slice eA en ec] 25 (0, 0)) rfl)); (have hbw2 := via (new_below w (.cells #[.slice pA pn pc, .slice eA en ec] 25 (0, 0))) hb2); (have D0 := bk2 M0); clear hb2)
  go_loopw [18] (fun i wr => ∃ j : Nat, j ≤ pn ∧ i = .int .i64 j ∧ Hid (Lib.IsBuilder 93 5 w2.heap.size w2.heap.size (Lib.byteCells ((ps.take j).flatMap lineP)) wr) ∧ Below w2.heap.size w2 wr) (fun i _ => pn - (intOf i).toNat)
  case atStart => exact ⟨0, Nat.zero_le _, rfl, Lib.hid (.inl ⟨Nat.le_refl _, .slice none 0 0, bk_new _ _ rfl, World.ownsRow_nil _ _ _ _, by simp [Value.ownBlock]⟩), by go_grown⟩
  case round =>
    obtain ⟨j, hj, rfl, hbd, hb2⟩ := hrel
    have hbw : Below w.heap.size w wr := via hbw2 hb2
    by_cases hlt : j < pn
    · have hjI : (j : Int) < (pn : Int) := by omega
      obtain ⟨x, hx⟩ : ∃ x, ps[j]? = some x := ⟨_, List.getElem?_eq_getElem (by rw [hpn'.out]; exact hlt)⟩
      have hPa := hR'.out.pa (List.mem_of_getElem? hx)
      obtain ⟨b, o, rfl, hbb, hc⟩ := hP'.out.below hbw j x hx
      have y0 := hc 0 _ rfl
      have y1 := hc 1 _ rfl
      have y2 := hc 2 _ rfl
      have y3 := hc 3 _ rfl
      have y4 := hc 4 _ rfl
      simp only [Nat.add_zero] at y0
      have hst := Lib.hid (flat_take lineP hx)
      have hll := lineP_len hPa
      have hv := Lib.hid (show ([.s txPart, .s x.nm.data.toList, .n x.a0, .n x.a1, .n x.c0, .n x.c1].map Wd.v).toArray = #[.iface 9 (.string ⟨#[112, 97, 114, 116]⟩), .iface 9 (.string x.nm), .iface 3 (.int .i64 x.a0), .iface 3 (.int .i64 x.a1), .iface 3 (.int .i64 x.c0), .iface 3 (.int .i64 x.c1)] by simp [Wd.v, bs_eta, txPart, bs])
      have hJ := Lib.hid fun B W (hb : Below w.heap.size w W) hc => joined_blk [.s txPart, .s x.nm.data.toList, .n x.a0, .n x.a1, .n x.c0, .n x.c1] 6 B W _ (partW x) hv.out hc rfl rfl (by decide) (fun A c ns h => by simp at h) (fun i h => by
        simp at h
        have h1 := hPa.a0; have h2 := hPa.a1; have h3 := hPa.c0; have h4 := hPa.c1
        rcases h with rfl | rfl | rfl | rfl <;> omega) (by simp [partW]) (by simp [partW]) (by omega) (ht'.out.below hb)
      obtain ⟨S6, hS6⟩ : ∃ S6, bs (Lib.join (partW x) [32]) = S6 := ⟨_, rfl⟩
      have hsz6 : S6.size ≤ 126 := by rw [← hS6, bs_size]; exact hll
      have hl6 := Lib.hid (show S6 ++ ⟨#[10]⟩ = bs (lineP x) by rw [← hS6]; exact bs_app _ [10])
      rw [hS6] at hJ
      have hadd : ¬ 9223372036854775807 < S6.size + 1 := by omega
      have hWr := Lib.hid fun W (h : Lib.IsBuilder 93 5 w2.heap.size w2.heap.size (Lib.byteCells ((ps.take j).flatMap lineP)) W) (hs : w2.heap.size ≤ W.heap.size) => write_any w2.heap.size w2.heap.size _ (S6 ++ ⟨#[10]⟩) W h (by rw [byteCells_len, ByteArray.size_append]; have := hTp.out j; have : (⟨#[10]⟩ : ByteArray).size = 1 := rfl; omega) hs
      clear hc hx hPa hS6 hll
      go_wp2_with (first
        | (go_at_call 38; refine (hJ.out _ _ (via hbw (via (new_below _ _) (new_below _ _))) (bk_new _ _ (by simp))).mono ?_; rintro e w5 ⟨rfl, hb5⟩; (have hb25 : Below wr.heap.size wr w5 := via (via (new_below _ _) (new_below _ _)) hb5); (have hbd5 := Lib.hid (builder_below hbd.out hb25)); (have hbw5 := via hb2 hb25); clear hb5 hb25)
        | (go_at_call 41; refine Calls.mono (by with_reducible exact hWr.out _ hbd5.out hbw5.size) ?_; rintro e w7 ⟨rfl, hbd7, hb7⟩))
      have hbd8 := Lib.hid (show Lib.IsBuilder 93 5 w2.heap.size w2.heap.size (Lib.byteCells ((ps.take (j + 1)).flatMap lineP)) w7 by rw [hst.out, byteCells_app, ← strCells_bs (lineP x), ← hl6.out]; exact hbd7)
      go_roundw
      case rel => exact ⟨j + 1, by omega, by go_num, hbd8, hbw5.trans hb7⟩
      case measure => first | (simp [intOf]; done) | (simp [intOf]; omega)
    · obtain rfl : pn = j := by omega
      have hall := Lib.hid (show ps.take pn = ps by rw [← hpn'.out, List.take_length])
      have M0r := (hb2.block w.heap.size (bk_size M0)).trans M0
      have D0r := bk2 M0r
      have hbd0 := hbd.out
      rw [hall.out] at hbd0
      have hbd0 := Lib.hid hbd0
      clear hbd hall
      go_wp2
      go_loopw [50] (fun i wr2 => ∃ j : Nat, j ≤ en ∧ i = .int .i64 j ∧ Hid (Lib.IsBuilder 93 5 w2.heap.size w2.heap.size (Lib.byteCells (ps.flatMap lineP ++ (es.take j).flatMap lineE)) wr2) ∧ Below w2.heap.size w2 wr2) (fun i _ => en - (intOf i).toNat)
      case atStart => exact ⟨0, Nat.zero_le _, rfl, by simpa using hbd0, hb2⟩
      case round =>
        obtain ⟨j, hj, rfl, hbd, hb2⟩ := hrel
        have hbw : Below w.heap.size w wr := via hbw2 hb2
        by_cases hlt : j < en
        · have hjI : (j : Int) < (en : Int) := by omega
          obtain ⟨x, hx⟩ : ∃ x, es[j]? = some x := ⟨_, List.getElem?_eq_getElem (by rw [hen'.out]; exact hlt)⟩
          have hxm := List.mem_of_getElem? hx
          have hEn := hR'.out.en hxm
          obtain ⟨b, o, rfl, hbb, hc⟩ := (hE'.out.below hbw).1 j x hx
          have y0 := hc 0 _ rfl
          have y1 := hc 1 _ rfl
          have y2 := hc 2 _ rfl
          simp only [Nat.add_zero] at y0
          have hst := Lib.hid (flat_take lineE hx)
          have hll := lineE_len hEn hR'.out.n5
          obtain ⟨L, hL⟩ : ∃ L, x.co.length = L := ⟨_, rfl⟩
          have hv := Lib.hid (show ([.s txEntry, .s x.nm.data.toList, .n x.mo, .l x.A x.c x.co].map Wd.v).toArray = #[.iface 9 (.string ⟨#[101, 110, 116, 114, 121]⟩), .iface 9 (.string x.nm), .iface 3 (.int .i64 x.mo), .iface 33 (.slice x.A L x.c)] by simp [Wd.v, bs_eta, txEntry, bs, hL])
          have hlw : (entW x).length ≤ 900 ∧ 0 < (entW x).length := by
            have h1 := hEn.len
            have h2 := hR'.out.n5
            simp only [entW, List.length_cons, List.length_map]
            omega
          have hJ := Lib.hid fun B W (hb : Below w.heap.size w W) hc => joined_blk [.s txEntry, .s x.nm.data.toList, .n x.mo, .l x.A x.c x.co] 4 B W _ (entW x) hv.out hc (by simp [Wd.tx, entW]) rfl (by decide) (fun A c ns h => by
            simp at h
            obtain ⟨rfl, rfl, rfl⟩ := h
            exact ⟨(hE'.out.2 x hxm).below hb, fun n hn => by have := hEn.co n hn; omega⟩) (fun i h => by
            simp at h
            subst h
            have := hEn.mo
            omega) hlw.1 hlw.2 (by omega) (ht'.out.below hb)
          obtain ⟨S6, hS6⟩ : ∃ S6, bs (Lib.join (entW x) [32]) = S6 := ⟨_, rfl⟩
          have hsz6 : S6.size ≤ 168 := by rw [← hS6, bs_size]; exact hll
          have hl6 := Lib.hid (show S6 ++ ⟨#[10]⟩ = bs (lineE x) by rw [← hS6]; exact bs_app _ [10])
          rw [hS6] at hJ
          rw [hL] at y1
          have hadd : ¬ 9223372036854775807 < S6.size + 1 := by omega
          have hWr := Lib.hid fun W (h : Lib.IsBuilder 93 5 w2.heap.size w2.heap.size (Lib.byteCells (ps.flatMap lineP ++ (es.take j).flatMap lineE)) W) (hs : w2.heap.size ≤ W.heap.size) => write_any w2.heap.size w2.heap.size _ (S6 ++ ⟨#[10]⟩) W h (by rw [byteCells_len, ByteArray.size_append, List.length_append]; have := hTe.out j; have : (⟨#[10]⟩ : ByteArray).size = 1 := rfl; omega) hs
          clear hc hx hxm hEn hS6 hll hL hlw
          go_wp2_with (first
            | (go_at_call 38; refine (hJ.out _ _ (via hbw (via (new_below _ _) (new_below _ _))) (bk_new _ _ (by simp))).mono ?_; rintro e w5 ⟨rfl, hb5⟩; (have hb25 : Below wr.heap.size wr w5 := via (via (new_below _ _) (new_below _ _)) hb5); (have hbd5 := Lib.hid (builder_below hbd.out hb25)); (have hbw5 := via hb2 hb25); clear hb5 hb25)
            | (go_at_call 41; refine Calls.mono (by with_reducible exact hWr.out _ hbd5.out hbw5.size) ?_; rintro e w7 ⟨rfl, hbd7, hb7⟩))
          have hbd8 := Lib.hid (show Lib.IsBuilder 93 5 w2.heap.size w2.heap.size (Lib.byteCells (ps.flatMap lineP ++ (es.take (j + 1)).flatMap lineE)) w7 by rw [hst.out, ← List.append_assoc, byteCells_app, ← strCells_bs (lineE x), ← hl6.out]; exact hbd7)
          go_roundw
          case rel => exact ⟨j + 1, by omega, by go_num, hbd8, hbw5.trans hb7⟩
          case measure => first | (simp [intOf]; done) | (simp [intOf]; omega)
        · obtain rfl : en = j := by omega
          have hbd9 := hbd.out
          rw [show es.take en = es by rw [← hen'.out, List.take_length]] at hbd9
          have hSt := Lib.hid (Tryz.Builder_String_any w2.heap.size w2.heap.size S wr (by rw [← hS'.out]; exact hbd9) hb2.size)
          clear hbd hbd9
          go_wp2_with (go_at_call 42; refine hSt.out.mono ?_; rintro e w9 ⟨rfl, hb9⟩)
          go_ret2
          exact ⟨rfl, hbw.trans (hb9.mono hbw2.size)⟩
end Go.Proofs

set_option linter.unusedSimpArgs false
set_option linter.unusedVariables false
namespace Go.Proofs
open Go.RowKit
set_option linter.unusedVariables false
/-! A line, read into a book. -/
theorem own_ty {w : World} {base : Nat} {e T : TypeId} {sz n : Nat} {v : Value} {xs : List Value} (h : w.ownsRow base e sz v n xs) {k : Nat} {cur : Array Value} {fr : Nat × Nat} (hk : w.heap[k]? = some (.cells cur T fr)) (hT : T ≠ e) : some k ≠ v.ownBlock := by
  rcases h.2 with ⟨rfl, -⟩ | ⟨g, cap, cu, rfl, -, hg, -⟩
  · simp [Value.ownBlock]
  · intro he
    have : k = g := Option.some.inj he
    subst this
    rw [hg] at hk
    cases hk
    exact hT rfl
theorem words_cut {ws : List (List UInt8)} (h0 : ws ≠ []) (h : ∀ x ∈ ws, ∀ c ∈ x, c ≠ 32) : cutL (Lib.join ws [32]) = ws := cut_join ws h0 h
theorem name_signs2 {l : List UInt8} (h : nameB l = true) : ∀ c ∈ l, c ≠ 32 ∧ c ≠ 10 := fun c hc => by
  unfold nameB charsOk at h
  simp only [Bool.and_eq_true, List.all_eq_true, List.mem_range] at h
  obtain ⟨i, hi⟩ := List.getElem?_of_mem hc
  have h1 := h.2 i (List.getElem?_eq_some_iff.1 hi).1
  rw [List.getD_eq_getElem?_getD, hi] at h1
  simp only [Option.getD_some] at h1
  constructor
  · rintro rfl
    revert h1
    simp [charOk, letter]
  · rintro rfl
    revert h1
    simp [charOk, letter]
theorem partW_signs {p : Pa} (h : PaR p) : ∀ x ∈ partW p, ∀ c ∈ x, c ≠ 32 ∧ c ≠ 10 := fun x hx => by
  unfold partW at hx
  simp only [List.mem_cons, List.not_mem_nil, or_false] at hx
  rcases hx with rfl | rfl | rfl | rfl | rfl | rfl
  · decide
  · exact name_signs2 h.nm
  all_goals exact (itoa_signs _).2
theorem entW_signs {np : Nat} {x : En} (h : EnR np x) : ∀ y ∈ entW x, ∀ c ∈ y, c ≠ 32 ∧ c ≠ 10 := fun y hy => by
  unfold entW at hy
  simp only [List.mem_cons, List.mem_map] at hy
  rcases hy with rfl | rfl | rfl | ⟨n, hn, rfl⟩
  · decide
  · exact name_signs2 h.nm
  all_goals exact (itoa_signs _).2
theorem part_eq : ((bs txPart).toList == [112, 97, 114, 116]) = true ∧ ((bs txEntry).toList == [112, 97, 114, 116]) = false ∧ ((bs txEntry).toList == [101, 110, 116, 114, 121]) = true := by
  rw [ByteArray.toList_eq, ByteArray.toList_eq, bs_data, bs_data]
  decide
/-- What reading a line keeps. -/
def RdKeep (w0 w : World) (BK : Nat) (v : Value) (w' : World) : Prop := Below w0.heap.size w0 w' ∧ w.heap.size ≤ w'.heap.size ∧ ∀ k, k < w.heap.size → k ≠ BK → some k ≠ v.ownBlock → w'.heap[k]? = w.heap[k]?
set_option maxRecDepth 100000 in
set_option maxHeartbeats 4000000 in
theorem readPart_any (w0 : World) (BK : Nat) (A : Option Addr) (c m : Nat) (xs : List Pa) (p : Pa) (w : World) (hw0 : Below w0.heap.size w0 w) (hBK : w0.heap.size ≤ BK) (M : w.heap[BK]? = some (.cells #[.slice A m c, .slice none 0 0] 25 (0, 0)))
    (hown : w.ownsRow w0.heap.size 71 5 (.slice A m c) m (xs.flatMap Pa.cs)) (hm : xs.length = m) (hm9 : m ≤ 900) (hp : PaR p) (ht : Tabs w) :
    Calls Tryz.prog 70 #[.pointer (some ⟨BK, 0, none⟩), .string (bs (Lib.join (partW p) [32]))] w fun e w' => e = .returned (.bool true) ∧ RdKeep w0 w BK (.slice A m c) w' ∧ ∃ A' c', w'.heap[BK]? = some (.cells #[.slice A' (m + 1) c', .slice none 0 0] 25 (0, 0)) ∧ w'.ownsRow w0.heap.size 71 5 (.slice A' (m + 1) c') (m + 1) ((xs ++ [p]).flatMap Pa.cs) ∧ ((Value.slice A' (m + 1) c').ownBlock = (Value.slice A m c).ownBlock ∨ ∃ k, (Value.slice A' (m + 1) c').ownBlock = some k ∧ w.heap.size ≤ k) := by
  have hlen := lineP_len hp
  have hSp := split_new (bs (Lib.join (partW p) [32])) w (by rw [bs_size]; omega) ht
  rw [bs_data, cut_join (partW p) (by simp [partW]) fun x hx c hc => (partW_signs hp x hx c hc).1] at hSp
  have hNu := Lib.hid fun (A : Option Addr) (c : Nat) (W' : World) (hb : Below w.heap.size w W') (hA : At 1 Sc W' A ([p.a0, p.a1, p.c0, p.c1].map Lib.itoa)) => numbers_any A [p.a0, p.a1, p.c0, p.c1] 5 4 c W' (by decide) (fun x hx => by
    have h1 := hp.a0; have h2 := hp.a1; have h3 := hp.c0; have h4 := hp.c1
    simp only [List.mem_cons, List.not_mem_nil, or_false] at hx
    rcases hx with rfl | rfl | rfl | rfl <;> omega) hA rfl (by decide) (ht.below hb)
  have e6 : ((5 + 1 : Nat) : Int) = 6 := rfl
  simp only [e6] at hNu
  have h6 : (partW p).length = 6 := rfl
  rw [h6] at hSp
  obtain ⟨S, hS⟩ : ∃ S, bs (Lib.join (partW p) [32]) = S := ⟨_, rfl⟩
  rw [hS] at hSp ⊢
  obtain ⟨q1, q2, q3⟩ := part_eq
  obtain ⟨i0, hi, hz0, hz1, hz2⟩ := info_parts infoPa
  have hown' := Lib.hid hown
  have hne : some BK ≠ (Value.slice A m c).ownBlock := own_ty hown M (by decide)
  have hBs := bk_size M
  have hfl := Lib.hid (show (xs ++ [p]).flatMap Pa.cs = xs.flatMap Pa.cs ++ Pa.cs p by simp)
  clear hlen hp ht hS h6 e6 hown
  go_enter Tryz.func70, Tryz.ntmps70
  go_wp2_with (first
    | (go_at_call 31; refine hSp.mono ?_; rintro e w2 ⟨⟨c2, rfl, hAt, hnc⟩, hb2⟩; (obtain ⟨b, o, e1, hbs, hc0⟩ := hAt 0 _ rfl); cases e1; (obtain ⟨b', o', e1, -, hc1⟩ := hAt 1 _ rfl); cases e1; (have y0 := hc0 0 _ rfl); (have y1 := hc1 0 _ rfl); (have hAt2 := Lib.hid (hAt.tail1 2)); simp only [Nat.add_zero, Nat.zero_mul, Nat.one_mul, bs_eta] at y0 y1; (have M2 := bk_keep hb2 M); (have hb2' := hb2); clear hAt hc0 hc1 hb2)
    | (go_at_call 32; refine (hNu.out _ _ _ hb2' hAt2.out).mono ?_; rintro e w3 ⟨⟨A3, c3, rfl, hO3⟩, hb3⟩; (have z0 := cell_below y0 hb3); (have z1 := cell_below y1 hb3); (have M3 := bk_keep hb3 M2); (have D3 := bk2 M3); (have hb3' := via hb2' hb3); (have hbs3 := Nat.lt_of_lt_of_le hbs hb3.size); (have hO3' := Lib.hid hO3); clear hO3 hb3 y0 y1 M2))
  have hL3 := own_ints hO3'.out
  obtain ⟨B3, o3, rfl, hB3, e0⟩ := zc_cell hL3 (k := 0) (by simp)
  obtain ⟨_, _, ee, -, e1⟩ := zc_cell hL3 (k := 1) (by simp)
  cases ee
  obtain ⟨_, _, ee, -, e2⟩ := zc_cell hL3 (k := 2) (by simp)
  cases ee
  obtain ⟨_, _, ee, -, e3⟩ := zc_cell hL3 (k := 3) (by simp)
  cases ee
  simp only [List.getD_cons_zero, List.getD_cons_succ, Nat.add_zero] at e0 e1 e2 e3
  have hB3g := (hO3'.out.lt B3 rfl).1
  have hs2 := hb2'.size
  have hown3 := Lib.hid (owns_below hown'.out hb3')
  have hlo := fun r e => (hown'.out.lt r e).2
  have hB3n : some B3 ≠ (Value.slice A m c).ownBlock := fun h => by have := hlo _ h.symm; omega
  have hWn : some w.heap.size ≠ (Value.slice A m c).ownBlock := fun h => by have := hlo _ h.symm; omega
  have hbw0 := via hw0 hb3'
  clear hL3 hNu
  refine wp_region_any (by kernel_rfl) ?_
  refine any_lastR 27 _ rfl rfl (by kernel_rfl) (by kernel_rfl) (by kernel_rfl) (by kernel_rfl) ?_
  simp only [List.take_succ_cons, List.take_zero]
  apply any_push2 w0 23 24 m 5 (.cells #[.string p.nm, .int .i64 p.a0, .int .i64 p.a1, .int .i64 p.c0, .int .i64 p.c1] 71 (0, 0)) (Pa.cs p) w0.heap.size 71 (.slice A m c) (xs.flatMap Pa.cs)
  case hB => kernel_rfl
  case hB' => intro g; kernel_rfl
  case hS => kernel_rfl
  case hN => kernel_rfl
  case hne => decide
  case hd =>
    intro L o ho h
    simp at ho
    subst ho
    simp [Region.binds] at h
    simp [h]
  case hw => exact hbw0
  case hv0 => exact fun r e => (hown3.out.lt r e).1
  case hown => exact hown3.out
  case hq =>
    intro g u hu hgc hbx hbX
    have N3 := bk2 ((hu.2.2 BK (bk_size M3) hne).trans M3)
    have G0 := (World.cell?_of_block (a := ⟨B3, o3, none⟩) (hu.2.2 B3 hB3 hB3n)).trans e0
    have G1 := (World.cell?_of_block (a := ⟨B3, o3 + 1, none⟩) (hu.2.2 B3 hB3 hB3n)).trans e1
    have G2 := (World.cell?_of_block (a := ⟨B3, o3 + 2, none⟩) (hu.2.2 B3 hB3 hB3n)).trans e2
    have G3 := (World.cell?_of_block (a := ⟨B3, o3 + 3, none⟩) (hu.2.2 B3 hB3 hB3n)).trans e3
    have H1 := (World.cell?_of_block (a := ⟨w.heap.size, 0 + 1, none⟩) (hu.2.2 _ hbs3 hWn)).trans z1
    have hu1 := Nat.lt_of_lt_of_le hB3 hu.2.1
    have hu2 := Nat.lt_of_lt_of_le hbs3 hu.2.1
    simp only [Nat.zero_add] at H1
    simp only [mixL, mkPu, yieldsC, List.contains_cons, List.contains_nil, Nat.reduceAdd, Nat.reduceBEq, Nat.zero_add, Bool.or_false, Bool.or_true, Bool.false_or, Bool.true_or, Bool.false_eq_true, if_true, if_false, Bool.or_self, Nat.reduceEqDiff]
    repeat (go_big_quiet_step (fail))
    exact wpQuiet_nil rfl
  case hal =>
    intro o' ho g y hC
    simp only [List.getElem?_cons_succ, List.getElem?_cons_zero, Option.some.injEq] at ho
    subst ho
    kernel_rfl
  case hap =>
    intro o' ho g y hC hown2 hz
    simp only [List.getElem?_cons_succ, List.getElem?_cons_zero, Option.some.injEq] at ho
    subst ho
    exact exec_append_cells2 (.tmp 44) (.tmp 63) 22 71 i0 _ (.slice A m c) 48 w0.heap.size m (g 23).b 5 _ (Pa.cs p) 71 rfl rfl rfl (by kernel_rfl) hi hz0 hz1 hz2 rfl (by decide) (by decide) rfl hown2 hz (by simp [Pa.cs, Value.oneCell']) (by omega) (by have := hC.1.size; omega) _ hC.2.1
  case hind =>
    intro j hj
    simp only [List.mem_cons, List.not_mem_nil, or_false] at hj
    rcases hj with rfl | rfl <;> (intro g h; kernel_rfl)
  intro g u hu hown4 hloc
  have N3 := (hu.2.2 BK (bk_size M3) hne).trans M3
  have C3 := bk2 N3
  obtain ⟨A6, eA6⟩ : ∃ a, (g 24).a1 = a := ⟨_, rfl⟩
  obtain ⟨c6, ec6⟩ : ∃ a, (g 24).c1 = a := ⟨_, rfl⟩
  rw [eA6, ec6] at hown4 hloc
  rw [eA6, ec6]
  refine oper_skip (x := u.setCell ⟨BK, 0, none⟩ (.slice A6 (m + 1) c6)) (run_store_slice rfl (by kernel_rfl) rfl rfl C3.1 C3.2.2.1) ?_
  have hne6 : some BK ≠ (Value.slice A6 (m + 1) c6).ownBlock := own_ty hown4 N3 (by decide)
  have ho5 := Lib.hid (owns_kept hown4 fun r e => ((OnlyB.refl BK u).set 0 (.slice A6 (m + 1) c6)).other r (fun h => hne6 (by rw [← h]; exact e.symm)))
  have P3 := bk_here (o := 0) N3 (.slice A6 (m + 1) c6) rfl
  have hb5 : Below w0.heap.size w0 (u.setCell ⟨BK, 0, none⟩ (.slice A6 (m + 1) c6)) := hu.1.trans (((OnlyB.refl BK u).set 0 _).below _ hBK)
  have hk5 : ∀ k, k < w.heap.size → k ≠ BK → some k ≠ (Value.slice A m c).ownBlock → (u.setCell ⟨BK, 0, none⟩ (.slice A6 (m + 1) c6)).heap[k]? = w.heap[k]? := fun k h1 h2 h3 =>
    (((OnlyB.refl BK u).set 0 _).other k h2).trans ((hu.2.2 k (Nat.lt_of_lt_of_le h1 hb3'.size) h3).trans (hb3'.block k h1))
  have hz5 : w.heap.size ≤ (u.setCell ⟨BK, 0, none⟩ (.slice A6 (m + 1) c6)).heap.size := by rw [setCell_size]; have := hu.2.1; have := hb3'.size; omega
  have hlocw := Lib.hid (hloc.imp id fun ⟨k, h, h2⟩ => ⟨k, h, Nat.le_trans hb3'.size h2⟩ : (Value.slice A6 (m + 1) c6).ownBlock = (Value.slice A m c).ownBlock ∨ ∃ k, (Value.slice A6 (m + 1) c6).ownBlock = some k ∧ w.heap.size ≤ k)
  clear hloc
  obtain ⟨W5, hW5⟩ : ∃ x, u.setCell ⟨BK, 0, none⟩ (.slice A6 (m + 1) c6) = x := ⟨_, rfl⟩
  rw [hW5] at P3 hb5 ho5 hk5 hz5 ⊢
  have hk5 := Lib.hid hk5
  clear hW5 hown4 hlo
  go_wp2
  go_ret
  exact ⟨rfl, ⟨hb5, hz5, hk5.out⟩, A6, c6, P3, by rw [hfl.out]; exact ho5.out, hlocw.out⟩
/-- Entries of one's own, whose lists lie in blocks of numbers. -/
structure EnTy (w : World) (base : Nat) (v : Value) (xs : List En) : Prop where
  own : w.ownsRow base 73 3 v xs.length (xs.flatMap En.cs)
  row : ∀ x ∈ xs, At 1 Zc w x.A x.co ∧ (x.A = none → x.c = 0) ∧ ∀ g, x.A = some g → ∃ cur fr, w.heap[g.block]? = some (.cells cur 3 fr)
set_option maxRecDepth 100000 in
set_option maxHeartbeats 4000000 in
theorem readEnt_any (w0 : World) (BK : Nat) (A pA : Option Addr) (c m pn pc np : Nat) (xs : List En) (p : En) (w : World) (hw0 : Below w0.heap.size w0 w) (hBK : w0.heap.size ≤ BK) (M : w.heap[BK]? = some (.cells #[.slice pA pn pc, .slice A m c] 25 (0, 0)))
    (hEt : EnTy w w0.heap.size (.slice A m c) xs) (hm : xs.length = m) (hm9 : m ≤ 900) (hp : EnR np p) (hnp : 1 ≤ np ∧ np ≤ 5) (ht : Tabs w) :
    Calls Tryz.prog 70 #[.pointer (some ⟨BK, 0, none⟩), .string (bs (Lib.join (entW p) [32]))] w fun e w' => e = .returned (.bool true) ∧ RdKeep w0 w BK (.slice A m c) w' ∧ ∃ A' c' x', w'.heap[BK]? = some (.cells #[.slice pA pn pc, .slice A' (m + 1) c'] 25 (0, 0)) ∧ x'.sig = p.sig ∧ EnTy w' w0.heap.size (.slice A' (m + 1) c') (xs ++ [x']) ∧ ((Value.slice A' (m + 1) c').ownBlock = (Value.slice A m c).ownBlock ∨ ∃ k, (Value.slice A' (m + 1) c').ownBlock = some k ∧ w.heap.size ≤ k) ∧ (∀ g, x'.A = some g → w.heap.size ≤ g.block) := by
  have hlen := lineE_len hp hnp.2
  have hown := hEt.own
  rw [hm] at hown
  obtain ⟨L, hL⟩ : ∃ L, p.co.length = L := ⟨_, rfl⟩
  have hLb : 1 ≤ L ∧ L ≤ 5 := by have := hp.len; omega
  have hSp := split_new (bs (Lib.join (entW p) [32])) w (by rw [bs_size]; omega) ht
  rw [bs_data, cut_join (entW p) (by simp [entW]) fun x hx c hc => (entW_signs hp x hx c hc).1] at hSp
  have hNu := Lib.hid fun (A : Option Addr) (c : Nat) (W' : World) (hb : Below w.heap.size w W') (hA : At 1 Sc W' A ((p.mo :: p.co).map Lib.itoa)) => numbers_any A (p.mo :: p.co) 5 (L + 1) c W' (by decide) (fun x hx => by
    rcases List.mem_cons.1 hx with rfl | hx
    · have := hp.mo; omega
    · have := hp.co x hx; omega) hA (by rw [List.length_cons, hL]) (by omega) (ht.below hb)
  have e6 : ((5 + 1 : Nat) : Int) = 6 := rfl
  simp only [e6] at hNu
  have h6 : (entW p).length = L + 1 + 2 := by simp [entW, hL]
  rw [h6] at hSp
  obtain ⟨S, hS⟩ : ∃ S, bs (Lib.join (entW p) [32]) = S := ⟨_, rfl⟩
  rw [hS] at hSp ⊢
  obtain ⟨q1, q2, q3⟩ := part_eq
  obtain ⟨i0, hi, hz0, hz1, hz2⟩ := info_parts infoEn
  have hEt' := Lib.hid hEt
  have hL' := Lib.hid hL
  obtain ⟨n, hn⟩ : ∃ n, L + 1 = n := ⟨_, rfl⟩
  obtain ⟨n2, hn2⟩ : ∃ k, n + 2 = k := ⟨_, rfl⟩
  rw [hn] at hNu hSp
  rw [hn2] at hSp
  have hnI : ¬ (n2 : Int) < 3 := by omega
  have hnI0 : (0 : Int) < (n2 : Int) := by omega
  have hnI1 : (1 : Int) < (n2 : Int) := by omega
  have hnI2 : (2 : Int) ≤ (n2 : Int) := by omega
  have hmI0 : (0 : Int) < (n : Int) := by omega
  have hmI1 : (1 : Int) ≤ (n : Int) := by omega
  have hn22 : n2 - 2 = n := by omega
  have hn1L : n - 1 = L := by omega
  have hown' := Lib.hid hown
  have hne : some BK ≠ (Value.slice A m c).ownBlock := own_ty hown M (by decide)
  have hBs := bk_size M
  have hm' := Lib.hid hm
  clear hlen hp ht hS h6 e6 hown hEt hnp hL hn hn2 hm
  go_enter Tryz.func70, Tryz.ntmps70
  go_wp2_with (first
    | (go_at_call 31; refine hSp.mono ?_; rintro e w2 ⟨⟨c2, rfl, hAt, hnc⟩, hb2⟩; (obtain ⟨b, o, e1, hbs, hc0⟩ := hAt 0 _ rfl); cases e1; (obtain ⟨b', o', e1, -, hc1⟩ := hAt 1 _ rfl); cases e1; (have y0 := hc0 0 _ rfl); (have y1 := hc1 0 _ rfl); (have hAt2 := Lib.hid (hAt.tail1 2)); simp only [Nat.add_zero, Nat.zero_mul, Nat.one_mul, bs_eta] at y0 y1; (have M2 := bk_keep hb2 M); (have hb2' := hb2); clear hAt hc0 hc1 hb2)
    | (go_at_call 32; refine (hNu.out _ _ _ hb2' hAt2.out).mono ?_; rintro e w3 ⟨⟨A3, c3, rfl, hO3⟩, hb3⟩; (have z0 := cell_below y0 hb3); (have z1 := cell_below y1 hb3); (have M3 := bk_keep hb3 M2); (have D3 := bk2 M3); (have hb3' := via hb2' hb3); (have hbs3 := Nat.lt_of_lt_of_le hbs hb3.size); (have hO3' := Lib.hid hO3); clear hO3 hb3 y0 y1 M2))
  have hL3 := own_ints hO3'.out
  have hc3 := own_le2 hO3'.out
  have hc31 : ¬ c3 = 1 := by omega
  obtain ⟨B3, o3, rfl, hB3, e0⟩ := zc_cell hL3 (k := 0) (by simp)
  simp only [List.getD_cons_zero, Nat.add_zero] at e0
  have hB3g := (hO3'.out.lt B3 rfl).1
  have hs2 := hb2'.size
  have hown3 := Lib.hid (owns_below hown'.out hb3')
  have hlo := fun r e => (hown'.out.lt r e).2
  have hB3n : some B3 ≠ (Value.slice A m c).ownBlock := fun h => by have := hlo _ h.symm; omega
  have hWn : some w.heap.size ≠ (Value.slice A m c).ownBlock := fun h => by have := hlo _ h.symm; omega
  have hbw0 := via hw0 hb3'
  have hT3 := Lib.hid (hL3.tail1 1)
  have hty : Hid (∃ cur fr, w3.heap[B3]? = some (.cells cur 3 fr)) := by
    rcases hO3'.out.2 with ⟨h, -⟩ | ⟨g, cap, cur, h, -, hg, -⟩
    · cases h
    · cases h; exact ⟨cur, (0, 0), hg⟩
  clear hL3 hNu
  refine wp_region_any (by kernel_rfl) ?_
  refine any_lastR 18 _ rfl rfl (by kernel_rfl) (by kernel_rfl) (by kernel_rfl) (by kernel_rfl) ?_
  simp only [List.take_succ_cons, List.take_zero]
  apply any_push2 w0 14 15 m 3 (.cells #[.string p.nm, .slice (some ⟨B3, o3 + 1, none⟩) L (c3 - 1), .int .i64 p.mo] 73 (0, 0)) ([.string p.nm, .slice (some ⟨B3, o3 + 1, none⟩) L (c3 - 1), .int .i64 p.mo]) w0.heap.size 73 (.slice A m c) (xs.flatMap En.cs)
  case hB => kernel_rfl
  case hB' => intro g; kernel_rfl
  case hS => kernel_rfl
  case hN => kernel_rfl
  case hne => decide
  case hd =>
    intro L o ho h
    simp at ho
    subst ho
    simp [Region.binds] at h
    simp [h]
  case hw => exact hbw0
  case hv0 => exact fun r e => (hown3.out.lt r e).1
  case hown => exact hown3.out
  case hq =>
    intro g u hu hgc hbx hbX
    have N3 := bk2 ((hu.2.2 BK (bk_size M3) hne).trans M3)
    have G0 := (World.cell?_of_block (a := ⟨B3, o3, none⟩) (hu.2.2 B3 hB3 hB3n)).trans e0
    have H1 := (World.cell?_of_block (a := ⟨w.heap.size, 0 + 1, none⟩) (hu.2.2 _ hbs3 hWn)).trans z1
    have hu1 := Nat.lt_of_lt_of_le hB3 hu.2.1
    have hu2 := Nat.lt_of_lt_of_le hbs3 hu.2.1
    simp only [Nat.zero_add] at H1
    simp only [mixL, mkPu, yieldsC, List.contains_cons, List.contains_nil, Nat.reduceAdd, Nat.reduceBEq, Nat.zero_add, Bool.or_false, Bool.or_true, Bool.false_or, Bool.true_or, Bool.false_eq_true, if_true, if_false, Bool.or_self, Nat.reduceEqDiff]
    repeat (go_big_quiet_step (fail))
    exact wpQuiet_nil rfl
  case hal =>
    intro o' ho g y hC
    simp only [List.getElem?_cons_succ, List.getElem?_cons_zero, Option.some.injEq] at ho
    subst ho
    kernel_rfl
  case hap =>
    intro o' ho g y hC hown2 hz
    simp only [List.getElem?_cons_succ, List.getElem?_cons_zero, Option.some.injEq] at ho
    subst ho
    exact exec_append_cells2 (.tmp 76) (.tmp 86) 23 73 i0 _ (.slice A m c) 48 w0.heap.size m (g 14).b 3 _ ([.string p.nm, .slice (some ⟨B3, o3 + 1, none⟩) L (c3 - 1), .int .i64 p.mo]) 73 rfl rfl rfl (by kernel_rfl) hi hz0 hz1 hz2 rfl (by decide) (by decide) rfl hown2 hz (by simp [Value.oneCell']) (by omega) (by have := hC.1.size; omega) _ hC.2.1
  case hind =>
    intro j hj
    simp only [List.mem_cons, List.not_mem_nil, or_false] at hj
    rcases hj with rfl | rfl <;> (intro g h; kernel_rfl)
  intro g u hu hown4 hloc
  have N3 := (hu.2.2 BK (bk_size M3) hne).trans M3
  have C3 := bk2 N3
  obtain ⟨A6, eA6⟩ : ∃ a, (g 15).a1 = a := ⟨_, rfl⟩
  obtain ⟨c6, ec6⟩ : ∃ a, (g 15).c1 = a := ⟨_, rfl⟩
  rw [eA6, ec6] at hown4 hloc
  rw [eA6, ec6]
  refine oper_skip (x := u.setCell ⟨BK, 1, none⟩ (.slice A6 (m + 1) c6)) (run_store_slice rfl (by kernel_rfl) rfl rfl C3.2.1 C3.2.2.2.1) ?_
  have hne6 : some BK ≠ (Value.slice A6 (m + 1) c6).ownBlock := own_ty hown4 N3 (by decide)
  have ho5 := Lib.hid (owns_kept hown4 fun r e => ((OnlyB.refl BK u).set 1 (.slice A6 (m + 1) c6)).other r (fun h => hne6 (by rw [← h]; exact e.symm)))
  have P3 := bk_here (o := 1) N3 (.slice A6 (m + 1) c6) rfl
  have hb5 : Below w0.heap.size w0 (u.setCell ⟨BK, 1, none⟩ (.slice A6 (m + 1) c6)) := hu.1.trans (((OnlyB.refl BK u).set 1 _).below _ hBK)
  have hk3 : ∀ k, k < w3.heap.size → k ≠ BK → some k ≠ (Value.slice A m c).ownBlock → (u.setCell ⟨BK, 1, none⟩ (.slice A6 (m + 1) c6)).heap[k]? = w3.heap[k]? := fun k h1 h2 h3 =>
    (((OnlyB.refl BK u).set 1 _).other k h2).trans (hu.2.2 k h1 h3)
  have hz5 : w3.heap.size ≤ (u.setCell ⟨BK, 1, none⟩ (.slice A6 (m + 1) c6)).heap.size := by rw [setCell_size]; exact hu.2.1
  have hlocw := Lib.hid (hloc.imp id fun ⟨k, h, h2⟩ => ⟨k, h, Nat.le_trans hb3'.size h2⟩ : (Value.slice A6 (m + 1) c6).ownBlock = (Value.slice A m c).ownBlock ∨ ∃ k, (Value.slice A6 (m + 1) c6).ownBlock = some k ∧ w.heap.size ≤ k)
  clear hloc
  obtain ⟨W5, hW5⟩ : ∃ x, u.setCell ⟨BK, 1, none⟩ (.slice A6 (m + 1) c6) = x := ⟨_, rfl⟩
  rw [hW5] at P3 hb5 ho5 hk3 hz5 ⊢
  have hBKty : ∀ k, (∃ cur fr, w3.heap[k]? = some (.cells cur 3 fr)) → k ≠ BK ∧ some k ≠ (Value.slice A m c).ownBlock := fun k ⟨cur, fr, hk⟩ => by
    refine ⟨?_, own_ty hown3.out hk (by decide)⟩
    rintro rfl
    rw [M3] at hk
    cases hk
  have hE5 := Lib.hid (show EnTy W5 w0.heap.size (.slice A6 (m + 1) c6) (xs ++ [⟨p.nm, some ⟨B3, o3 + 1, none⟩, c3 - 1, p.co, p.mo⟩]) from by
    refine ⟨?_, fun y hy => ?_⟩
    · rw [List.length_append, hm'.out, List.flatMap_append]
      have := ho5.out
      simpa [En.cs, hL'.out] using this
    · rcases List.mem_append.1 hy with hy | hy
      · obtain ⟨r1, r2, r3⟩ := hEt'.out.row y hy
        have r3' : ∀ g, y.A = some g → ∃ cur fr, w3.heap[g.block]? = some (.cells cur 3 fr) := fun g e => by
          obtain ⟨cur, fr, h⟩ := r3 g e
          exact ⟨cur, fr, bk_keep hb3' h⟩
        refine ⟨at_kept (r1.below hb3') hz5 fun g e => ?_, r2, fun g e => ?_⟩
        · obtain ⟨cur, fr, h⟩ := r3' g e
          have := hBKty _ (r3' g e)
          exact hk3 _ (bk_size h) this.1 this.2
        · obtain ⟨cur, fr, h⟩ := r3' g e
          have := hBKty _ (r3' g e)
          exact ⟨cur, fr, (hk3 _ (bk_size h) this.1 this.2).trans h⟩
      · rw [List.mem_singleton] at hy
        subst hy
        have hb := hBKty B3 hty.out
        refine ⟨at_kept (by have := hT3.out; simpa using this) hz5 fun g e => by cases e; exact hk3 _ hB3 hb.1 hb.2, fun h => (by cases h), fun g e => ?_⟩
        cases e
        obtain ⟨cur, fr, h⟩ := hty.out
        exact ⟨cur, fr, (hk3 _ hB3 hb.1 hb.2).trans h⟩)
  have hk5 := Lib.hid (show ∀ k, k < w.heap.size → k ≠ BK → some k ≠ (Value.slice A m c).ownBlock → W5.heap[k]? = w.heap[k]? from fun k h1 h2 h3 => (hk3 k (Nat.lt_of_lt_of_le h1 hb3'.size) h2 h3).trans (hb3'.block k h1))
  have hz6 := Nat.le_trans hb3'.size hz5
  clear hW5 hown4 hlo hk3 hBKty
  go_wp2
  go_ret
  exact ⟨rfl, ⟨hb5, hz6, hk5.out⟩, A6, c6, ⟨p.nm, some ⟨B3, o3 + 1, none⟩, c3 - 1, p.co, p.mo⟩, P3, rfl, hE5.out, hlocw.out, fun g e => by cases e; exact Nat.le_trans hs2 hB3g⟩
end Go.Proofs

set_option linter.unusedSimpArgs false
set_option linter.unusedVariables false
namespace Go.Proofs
open Go.RowKit
set_option linter.unusedVariables false
attribute [local go_sem] Oper.semAt_some
/-! The lines of a book's text, read. -/
def linesL (ps : List Pa) (es : List En) : List (List UInt8) := ps.map (fun p => Lib.join (partW p) [32]) ++ es.map fun x => Lib.join (entW x) [32]
theorem linesL_text (ps : List Pa) (es : List En) : txLn (linesL ps es) = bookT ps es := by
  unfold txLn linesL bookT
  rw [List.flatMap_append, List.flatMap_map, List.flatMap_map]
  rfl
theorem linesL_signs {ps : List Pa} {es : List En} {np : Nat} (hp : ∀ p ∈ ps, PaR p) (he : ∀ x ∈ es, EnR np x) : ∀ d ∈ linesL ps es, ∀ c ∈ d, c ≠ 10 := fun d hd c hc => by
  unfold linesL at hd
  rcases List.mem_append.1 hd with hd | hd
  · obtain ⟨p, hp', rfl⟩ := List.mem_map.1 hd
    rcases join_mem _ _ c hc with h | ⟨x, hx, h⟩
    · simp at h; subst h; decide
    · exact (partW_signs (hp p hp') x hx c h).2
  · obtain ⟨x, hx', rfl⟩ := List.mem_map.1 hd
    rcases join_mem _ _ c hc with h | ⟨y, hy, h⟩
    · simp at h; subst h; decide
    · exact (entW_signs (he x hx') y hy c h).2
theorem cut_line (d : List UInt8) (w : World) (hs : d.length ≤ 100000) : Calls Tryz.prog 69 #[.string (fl d), .string ⟨#[10]⟩] w fun e w' => e = .returned (.tuple #[.string (bs d), .bool true]) ∧ w = w' := by
  refine (Tryz.strings_CutSuffix (fl d) ⟨#[10]⟩ w (by unfold fl; rw [bs_size]; simp; omega)).mono ?_
  rintro e w' ⟨rfl, rfl⟩
  refine ⟨?_, rfl⟩
  have h1 : Lib.hasSuffix (d ++ [10]) [10] = true := by unfold Lib.hasSuffix; rw [List.isSuffixOf_iff_suffix]; exact List.suffix_append _ _
  have h2 : (⟨#[10]⟩ : ByteArray).data.toList = [10] := rfl
  unfold fl
  rw [bs_data, h2, h1]
  unfold Lib.trimSuffix
  rw [if_pos h1]
  simp [bs]
theorem linesFn_any (s : ByteArray) (w : World) : Calls Tryz.prog 68 #[.string s] w fun e w' => (e = .returned (.func (.func 100) #[] #[.pointer (some ⟨w.heap.size, 0, none⟩)]) ∧ w'.heap[w.heap.size]? = some (.cells #[.string s] 9 (0, 0))) ∧ Below w.heap.size w w' := by
  go_enter Tryz.func68, Tryz.ntmps68
  go_wp2
  go_ret
  exact ⟨⟨rfl, by (repeat (first | assumption | (refine bk_new _ _ ?_; (simp; done)) | refine bk_drew ?_ | refine bk_alloc ?_ _ | refine bk_set ?_ (by simp <;> omega) _))⟩, by go_grown⟩
theorem run_loadNil {P : Program} {t : TypeId} {w : World} {b : Nat} (hag : (isAgg t).run P w = .ok false w) (hb : w.cell? ⟨b, 0, none⟩ = some .nilIface) : (loadVar t ⟨b, 0, none⟩).run P w = .ok .nilIface w := by
  simp [loadVar, go_sem, hag, hb]
structure LnSt (w w1 : World) (ps : List Pa) (es : List En) (j : Nat) (T : Nat → Prop) (W : World) : Prop where
  ex : ∃ A c A2 c2 ys, W.heap[(w.heap.size + 1 + 1)]? = some (.cells #[.slice A (min j ps.length) c, .slice A2 (j - ps.length) c2] 25 (0, 0)) ∧ W.ownsRow w.heap.size 71 5 (.slice A (min j ps.length) c) (min j ps.length) ((ps.take j).flatMap Pa.cs) ∧
    ys.length = j - ps.length ∧ ys.map En.sig = (es.take (j - ps.length)).map En.sig ∧ EnTy W w.heap.size (.slice A2 (j - ps.length) c2) ys ∧
    (∀ r, (Value.slice A (min j ps.length) c).ownBlock = some r → T r) ∧ (∀ r, (Value.slice A2 (j - ps.length) c2).ownBlock = some r → T r) ∧ (∀ y ∈ ys, ∀ g, y.A = some g → T g.block) ∧ (j ≤ ps.length → A2 = none ∧ c2 = 0)
  bn : W.heap[(w.heap.size + 1 + 1 + 1)]? = some (.cells #[.int .i64 j] 3 (0, 0))
  below : Below w.heap.size w W
  sz : w1.heap.size ≤ W.heap.size
  r0 : W.heap[w.heap.size]? = some (.cells #[.slice none 0 0, .slice none 0 0] 25 (0, 0))
  r1 : W.heap[(w.heap.size + 1)]? = some (.cells #[.nilIface] 95 (0, 0))
theorem LnSt.grown {w w1 W W' : World} {ps : List Pa} {es : List En} {j : Nat} {T : Nat → Prop} (h : LnSt w w1 ps es j T W) (hw1 : (w.heap.size + 1 + 1 + 1 + 1) < w1.heap.size) {row : Option Nat} (hg : W.grownBy W' row) (hr : ∀ r, row = some r → (w1.heap.size ≤ r ∨ r = (w.heap.size + 1 + 1 + 1 + 1)) ∧ ¬ T r) : LnSt w w1 ps es j T W' := by
  have hk : ∀ {k : Nat} {o : Obj}, k < (w.heap.size + 1 + 1 + 1 + 1) → W.heap[k]? = some o → W'.heap[k]? = some o := fun {k o} hk ho => (hg.block _ (bk_size ho) (fun e => by have := (hr _ e.symm).1; omega)).trans ho
  have ht : ∀ {k : Nat}, T k → k < W.heap.size → W'.heap[k]? = W.heap[k]? := fun {k} hT hs => hg.block k hs fun e => (hr _ e.symm).2 hT
  obtain ⟨⟨A, c, A2, c2, ys, m, o, l, s, et, t1, t2, t3, t4⟩, h2, h3, h4, h5, h6⟩ := h
  refine ⟨⟨A, c, A2, c2, ys, hk (by omega) m, owns_kept o fun g e => ht (t1 g e) (o.lt g e).2, l, s, ⟨owns_kept et.own fun g e => ht (t2 g e) (et.own.lt g e).2, fun y hy => ?_⟩, t1, t2, t3, t4⟩, hk (by omega) h2, h3.grown hg h3.size fun r e => by have := (hr r e).1; omega, Nat.le_trans h4 hg.size, hk (by omega) h5, hk (by omega) h6⟩
  obtain ⟨r1, r2, r3⟩ := et.row y hy
  refine ⟨at_kept r1 hg.size fun g e => ?_, r2, fun g e => ?_⟩
  · obtain ⟨cur, fr, hc⟩ := r3 g e
    exact ht (t3 y hy g e) (bk_size hc)
  · obtain ⟨cur, fr, hc⟩ := r3 g e
    exact ⟨cur, fr, (ht (t3 y hy g e) (bk_size hc)).trans hc⟩
theorem EnTy.kept {w w' : World} {base : Nat} {v : Value} {ys : List En} (h : EnTy w base v ys) (hs : w.heap.size ≤ w'.heap.size) (h1 : ∀ k, v.ownBlock = some k → w'.heap[k]? = w.heap[k]?) (h2 : ∀ y ∈ ys, ∀ g, y.A = some g → w'.heap[g.block]? = w.heap[g.block]?) : EnTy w' base v ys :=
  ⟨owns_kept h.own h1, fun y hy => ⟨at_kept (h.row y hy).1 hs (h2 y hy), (h.row y hy).2.1, fun g e => by
    obtain ⟨cur, fr, hc⟩ := (h.row y hy).2.2 g e
    exact ⟨cur, fr, (h2 y hy g e).trans hc⟩⟩⟩
theorem at_kept2 {α : Type} {cs : α → List Value} {sz : Nat} {w w' : World} {A : Option Addr} {l : List α} (h : At sz cs w A l) (hk : ∀ g, A = some g → w'.heap[g.block]? = w.heap[g.block]?) : At sz cs w' A l := fun k z hz => by
  obtain ⟨b, o, hA, hlt, hc⟩ := h k z hz
  have hb := hk _ hA
  dsimp only at hb
  rw [Array.getElem?_eq_getElem hlt] at hb
  refine ⟨b, o, hA, bk_size hb, fun j u hu => ?_⟩
  rw [← hc j u hu]
  exact World.cell?_of_block (a := ⟨b, o + k * sz + j, none⟩) (hk ⟨b, o, none⟩ hA)
theorem EnTy.kept2 {w w' : World} {base : Nat} {v : Value} {ys : List En} (h : EnTy w base v ys) (h1 : ∀ k, v.ownBlock = some k → w'.heap[k]? = w.heap[k]?) (h2 : ∀ y ∈ ys, ∀ g, y.A = some g → w'.heap[g.block]? = w.heap[g.block]?) : EnTy w' base v ys :=
  ⟨owns_kept h.own h1, fun y hy => ⟨at_kept2 (h.row y hy).1 (h2 y hy), (h.row y hy).2.1, fun g e => by
    obtain ⟨cur, fr, hc⟩ := (h.row y hy).2.2 g e
    exact ⟨cur, fr, (h2 y hy g e).trans hc⟩⟩⟩
/-- One line more. -/
theorem LnSt.part {w w1 W W5 W' : World} {ps : List Pa} {es : List En} {j : Nat} {T : Nat → Prop} {A A2 A' : Option Addr} {c c2 c' : Nat} {p : Pa} (h : LnSt w w1 ps es j T W) (hw1 : (w.heap.size + 1 + 1 + 1 + 1) < w1.heap.size) (hp : ps[j]? = some p)
    (h5 : W5 = W.setCell ⟨(w.heap.size + 1 + 1 + 1), 0, none⟩ (.int .i64 ((j + 1 : Nat) : Int))) (m : W.heap[(w.heap.size + 1 + 1)]? = some (.cells #[.slice A (min j ps.length) c, .slice A2 (j - ps.length) c2] 25 (0, 0))) (t1 : ∀ r, (Value.slice A (min j ps.length) c).ownBlock = some r → T r) (hTW : ∀ r, T r → w1.heap.size ≤ r)
    (hk : RdKeep w W5 (w.heap.size + 1 + 1) (.slice A (min j ps.length) c) W') (m' : W'.heap[(w.heap.size + 1 + 1)]? = some (.cells #[.slice A' (j + 1) c', .slice none 0 0] 25 (0, 0))) (o' : W'.ownsRow w.heap.size 71 5 (.slice A' (j + 1) c') (j + 1) ((ps.take j ++ [p]).flatMap Pa.cs))
    (loc : (Value.slice A' (j + 1) c').ownBlock = (Value.slice A (min j ps.length) c).ownBlock ∨ ∃ k, (Value.slice A' (j + 1) c').ownBlock = some k ∧ W5.heap.size ≤ k) :
    LnSt w w1 ps es (j + 1) (fun r => T r ∨ (W.heap.size ≤ r ∧ r < W'.heap.size)) W' := by
  have hjl : j < ps.length := (List.getElem?_eq_some_iff.1 hp).1
  have hs5 : W5.heap.size = W.heap.size := by rw [h5, setCell_size]
  have hlow : ∀ {k : Nat} {o : Obj}, k < (w.heap.size + 1 + 1 + 1 + 1) → k ≠ (w.heap.size + 1 + 1 + 1) → k ≠ (w.heap.size + 1 + 1) → W.heap[k]? = some o → W'.heap[k]? = some o := fun {k o} h1 h2 h3 ho => by
    rw [hk.2.2 k (by rw [hs5]; exact bk_size ho) h3 (fun e => by have := hTW _ (t1 _ e.symm); omega), h5, Below.heap_setCell _ _ _ _ (by dsimp only; exact h2)]
    exact ho
  have e1 : min (j + 1) ps.length = j + 1 := by omega
  have e2 : j + 1 - ps.length = 0 := by omega
  refine ⟨⟨A', c', none, 0, [], by rw [e1, e2]; exact m', by rw [e1, List.take_add_one, hp]; simpa using o', by rw [e2]; rfl, by rw [e2]; rfl, by rw [e2]; exact ⟨World.ownsRow_nil _ _ _ _, fun y hy => by cases hy⟩, ?_, fun r e => ?_, fun y hy => (by cases hy), fun _ => ⟨rfl, rfl⟩⟩, ?_, hk.1, by have := hk.2.1; have := h.sz; omega, hlow (by omega) (by omega) (by omega) h.r0, hlow (by omega) (by omega) (by omega) h.r1⟩
  · intro r e
    rw [e1] at e
    rcases loc with hl | ⟨k, hl, hk2⟩
    · exact .inl (t1 r (by rw [← hl]; exact e))
    · rw [hl] at e
      cases e
      exact .inr ⟨by omega, (o'.lt r hl).2⟩
  · cases e
  · rw [hk.2.2 (w.heap.size + 1 + 1 + 1) (by rw [hs5]; exact bk_size h.bn) (by omega) (fun e => by have := hTW _ (t1 _ e.symm); omega), h5]
    exact bk_here (o := 0) h.bn _ rfl
theorem LnSt.ent {w w1 W W5 W' : World} {ps : List Pa} {es : List En} {j : Nat} {T : Nat → Prop} {A A2 A' : Option Addr} {c c2 c' : Nat} {ys : List En} {x x' : En} (h : LnSt w w1 ps es j T W) (hw1 : (w.heap.size + 1 + 1 + 1 + 1) < w1.heap.size) (hjl : ps.length ≤ j) (hx : es[j - ps.length]? = some x)
    (h5 : W5 = W.setCell ⟨(w.heap.size + 1 + 1 + 1), 0, none⟩ (.int .i64 ((j + 1 : Nat) : Int))) (m : W.heap[(w.heap.size + 1 + 1)]? = some (.cells #[.slice A (min j ps.length) c, .slice A2 (j - ps.length) c2] 25 (0, 0))) (o : W.ownsRow w.heap.size 71 5 (.slice A (min j ps.length) c) (min j ps.length) ((ps.take j).flatMap Pa.cs))
    (l : ys.length = j - ps.length) (s : ys.map En.sig = (es.take (j - ps.length)).map En.sig) (t1 : ∀ r, (Value.slice A (min j ps.length) c).ownBlock = some r → T r) (t2 : ∀ r, (Value.slice A2 (j - ps.length) c2).ownBlock = some r → T r) (t3 : ∀ y ∈ ys, ∀ g, y.A = some g → T g.block) (hTW : ∀ r, T r → w1.heap.size ≤ r) 
    (et : EnTy W w.heap.size (.slice A2 (j - ps.length) c2) ys)
    (hk : RdKeep w W5 (w.heap.size + 1 + 1) (.slice A2 (j - ps.length) c2) W') (m' : W'.heap[(w.heap.size + 1 + 1)]? = some (.cells #[.slice A (min j ps.length) c, .slice A' (j - ps.length + 1) c'] 25 (0, 0))) (sx : x'.sig = x.sig) (et' : EnTy W' w.heap.size (.slice A' (j - ps.length + 1) c') (ys ++ [x']))
    (loc : (Value.slice A' (j - ps.length + 1) c').ownBlock = (Value.slice A2 (j - ps.length) c2).ownBlock ∨ ∃ k, (Value.slice A' (j - ps.length + 1) c').ownBlock = some k ∧ W5.heap.size ≤ k) (locx : ∀ g, x'.A = some g → W5.heap.size ≤ g.block) :
    LnSt w w1 ps es (j + 1) (fun r => T r ∨ (W.heap.size ≤ r ∧ r < W'.heap.size)) W' := by
  have hs5 : W5.heap.size = W.heap.size := by rw [h5, setCell_size]
  have hlow : ∀ {k : Nat} {o : Obj}, k < (w.heap.size + 1 + 1 + 1 + 1) → k ≠ (w.heap.size + 1 + 1 + 1) → k ≠ (w.heap.size + 1 + 1) → W.heap[k]? = some o → W'.heap[k]? = some o := fun {k o} h1 h2 h3 ho => by
    rw [hk.2.2 k (by rw [hs5]; exact bk_size ho) h3 (fun e => by have := hTW _ (t2 _ e.symm); omega), h5, Below.heap_setCell _ _ _ _ (by dsimp only; exact h2)]
    exact ho
  have e1 : min (j + 1) ps.length = min j ps.length := by omega
  have e2 : j + 1 - ps.length = j - ps.length + 1 := by omega
  have e3 : ps.take (j + 1) = ps.take j := by rw [List.take_of_length_le hjl, List.take_of_length_le (by omega)]
  have o5 : W'.ownsRow w.heap.size 71 5 (.slice A (min j ps.length) c) (min j ps.length) ((ps.take j).flatMap Pa.cs) := owns_kept o fun g e => by
    have hg := hTW _ (t1 g e)
    rw [hk.2.2 g (by rw [hs5]; exact (o.lt g e).2) (by omega) (fun e2 => ?_), h5, Below.heap_setCell _ _ _ _ (by dsimp only; omega)]
    rcases o.2 with ⟨h, -⟩ | ⟨g', cap, cur, h, -, hg3, -⟩
    · rw [h] at e; cases e
    · rw [h] at e
      have e3 : g' = g := Option.some.inj e
      rw [e3] at hg3
      exact own_ty et.own hg3 (by decide) e2
  refine ⟨⟨A, c, A', c', ys ++ [x'], by rw [e1, e2]; exact m', by rw [e1, e3]; exact o5, by rw [e2, List.length_append, l]; rfl, ?_, by rw [e2]; exact et', fun r e => .inl (t1 r (by rw [e1] at e; exact e)), fun r e => ?_, fun y hy g e => ?_, fun h => (by omega)⟩, ?_, hk.1, by have := hk.2.1; have := h.sz; omega, hlow (by omega) (by omega) (by omega) h.r0, hlow (by omega) (by omega) (by omega) h.r1⟩
  · rw [e2, List.take_add_one, hx, List.map_append, List.map_append, s]
    simp [sx]
  · rw [e2] at e
    rcases loc with hl | ⟨k, hl, hk2⟩
    · exact .inl (t2 r (by rw [← hl]; exact e))
    · rw [hl] at e
      cases e
      refine .inr ⟨by omega, ?_⟩
      have := (et'.own.lt r hl).2
      exact this
  · rcases List.mem_append.1 hy with hy | hy
    · exact .inl (t3 y hy g e)
    · rw [List.mem_singleton] at hy
      subst hy
      obtain ⟨cur, fr, hc⟩ := (et'.row y (by simp)).2.2 g e
      exact .inr ⟨by have := locx g e; omega, bk_size hc⟩
  · rw [hk.2.2 (w.heap.size + 1 + 1 + 1) (by rw [hs5]; exact bk_size h.bn) (by omega) (fun e => by have := hTW _ (t2 _ e.symm); omega), h5]
    exact bk_here (o := 0) h.bn _ rfl
set_option maxRecDepth 100000 in
set_option maxHeartbeats 8000000 in
theorem lines_any (ps : List Pa) (es : List En) (np : Nat) (w : World) (hp : ∀ p ∈ ps, PaR p) (he : ∀ x ∈ es, EnR np x) (hnp : 1 ≤ np ∧ np ≤ 5) (hp9 : ps.length ≤ 100) (he9 : es.length ≤ 100) (hT : (bookT ps es).length ≤ 60000) (ht : Tabs w) :
    Calls Tryz.prog 44 #[.string (bs (bookT ps es))] w fun e w' => (∃ A c A2 c2 ys, e = .returned (.tuple #[.agg #[.slice A ps.length c, .slice A2 es.length c2], .nilIface]) ∧ ys.length = es.length ∧ ys.map En.sig = es.map En.sig ∧ w'.ownsRow w.heap.size 71 5 (.slice A ps.length c) ps.length (ps.flatMap Pa.cs) ∧ EnTy w' w.heap.size (.slice A2 es.length c2) ys) ∧ Below w.heap.size w w' := by
  obtain ⟨S, hS⟩ : ∃ S, bs (bookT ps es) = S := ⟨_, rfl⟩
  have hS' := Lib.hid hS
  rw [hS]
  clear hS
  refine (callsIn_wide (n := 6)).1 ?_
  refine callsIn_of_wp_marks Tryz.func44 rfl trivial ?_ rfl
  simp only [Tryz.ntmps44, List.size_toArray, List.length_cons, List.length_nil, Nat.reduceAdd, Nat.reduceSub, Array.replicate_succ, Array.replicate_zero, List.push_toArray, List.append_toArray, List.nil_append, List.cons_append]
  gi_wp2_with (refine ⟨trivial, ?_⟩; gi_at_call 68; refine (callsIn_wide.2 (linesFn_any _ _)).mono ?_; rintro e w1 ⟨⟨rfl, hc1⟩, hb1⟩)
  simp only [World.size_alloc] at hc1
  have hs1 := bk_size hc1
  have hbw1 : Below w.heap.size w w1 := via (by go_grown) hb1
  have hst0 := Lib.hid (show LnSt w w1 ps es 0 (fun _ => False) w1 from ⟨⟨none, 0, none, 0, [], by simpa using bk_keep hb1 (by (repeat (first | assumption | (refine bk_new _ _ ?_; (simp; done)) | refine bk_drew ?_ | refine bk_alloc ?_ _ | refine bk_set ?_ (by simp <;> omega) _))), by simpa using World.ownsRow_nil _ _ _ _, by simp, by simp, ⟨by simpa using World.ownsRow_nil _ _ _ _, fun y hy => (by cases hy)⟩, fun r e => (by cases e), fun r e => (by cases e), fun y hy => (by cases hy), fun _ => ⟨rfl, rfl⟩⟩, bk_keep hb1 (by (repeat (first | assumption | (refine bk_new _ _ ?_; (simp; done)) | refine bk_drew ?_ | refine bk_alloc ?_ _ | refine bk_set ?_ (by simp <;> omega) _))), hbw1, Nat.le_refl _, bk_keep hb1 (by (repeat (first | assumption | (refine bk_new _ _ ?_; (simp; done)) | refine bk_drew ?_ | refine bk_alloc ?_ _ | refine bk_set ?_ (by simp <;> omega) _))), bk_keep hb1 (by (repeat (first | assumption | (refine bk_new _ _ ?_; (simp; done)) | refine bk_drew ?_ | refine bk_alloc ?_ _ | refine bk_set ?_ (by simp <;> omega) _)))⟩)
  clear hb1
  have hLt := linesL_text ps es
  rw [← hS'.out, ← hLt] at hc1
  have hstops := lines_stops 5 (linesL ps es) (linesL_signs hp he) (by rw [hLt]; omega) (w.heap.size + 1 + 1 + 1 + 1) (fun k => k = (w.heap.size + 1 + 1) ∨ k = (w.heap.size + 1 + 1 + 1)) w1 hc1 (by rintro (h | h) <;> omega) (by rintro k (rfl | rfl) <;> omega)
  have hs1' := Lib.hid hs1
  have hp' := Lib.hid hp
  have he' := Lib.hid he
  have ht' := Lib.hid ht
  have hLl : (linesL ps es).length = ps.length + es.length := by simp [linesL]
  have hLg : Hid (∀ j, (j < ps.length → ∃ p, ps[j]? = some p ∧ (linesL ps es)[j]? = some (Lib.join (partW p) [32])) ∧ (ps.length ≤ j → j < ps.length + es.length → ∃ x, es[j - ps.length]? = some x ∧ (linesL ps es)[j]? = some (Lib.join (entW x) [32]))) := Lib.hid fun j => by
    unfold linesL
    refine ⟨fun h => ?_, fun h h2 => ?_⟩
    · rw [List.getElem?_append_left (by simpa using h), List.getElem?_map, List.getElem?_eq_getElem h]
      exact ⟨_, rfl, rfl⟩
    · rw [List.getElem?_append_right (by simpa using h), List.getElem?_map, List.length_map, List.getElem?_eq_getElem (show j - ps.length < es.length by omega)]
      exact ⟨_, rfl, rfl⟩
  clear hp he ht hT hc1 hLt
  refine wp_rangeO rfl (by omega) (gf := 100) (lb := #[.pointer (some ⟨(w.heap.size + 1 + 1 + 1 + 1), 0, none⟩)]) rfl trivial (enters_of Tryz.func100 (by kernel_rfl) rfl) hstops (by rintro k (rfl | rfl) <;> omega) (by rintro k rfl; omega) (fun _ => rfl)
    (fun pre T W' => LnSt w w1 ps es pre.length T W')
    (fun c pre T W' => False)
    (fun pre T x a W' => LnSt w w1 ps es pre.length T W' ∧ (pre ++ [x]) <+: (linesL ps es).map fl ∧ a = { tmps := #[.string S, undef, .pointer (some ⟨w.heap.size, 0, none⟩), .pointer (some ⟨(w.heap.size + 1), 0, none⟩), .pointer (some ⟨(w.heap.size + 1 + 1), 0, none⟩), .pointer (some ⟨(w.heap.size + 1 + 1 + 1), 0, none⟩), (.string x), undef, undef, .string S, .func (.func 100) #[] #[.pointer (some ⟨(w.heap.size + 1 + 1 + 1 + 1), 0, none⟩)], (.string x), undef, undef, undef, undef, undef, undef, undef, undef, undef, undef, undef, undef, undef, undef, undef, undef, undef, undef], defers := [] })
    ?hI ?hIx ?hAx ?h0 ?assign ?body ?done ?stop
  case hI =>
    rintro s T A W' row hs hg hr
    exact hs.grown hs1 hg fun r e => ⟨(hr r e).1, (hr r e).2.1⟩
  case hIx =>
    rintro c s T A W' row hs
    exact hs.elim
  case hAx =>
    rintro pre T x a W' l o o' hl hT hgv ho hc ⟨hs, hpre, rfl⟩
    exact ⟨hs.grown hs1 (grownBy_putObj' W' l o') fun r e => by cases e; exact ⟨.inl hl, hT⟩, hpre, rfl⟩
  case h0 => exact hst0.out
  case assign =>
    rintro l pre T x W' hi hT hlen hok -
    unfold encS
    gi_wp2
    exact ⟨Lie.refl _ _, hi, hok, by trivial⟩
  case body =>
    rintro l pre T x a W' ⟨hs, hpre, rfl⟩ hT hlen
    obtain ⟨j, hj⟩ : ∃ j, pre.length = j := ⟨_, rfl⟩
    obtain ⟨d, hd, hdx⟩ : ∃ d, (linesL ps es)[j]? = some d ∧ fl d = x := by
      obtain ⟨rest, hr⟩ := hpre
      have h : ((linesL ps es).map fl)[j]? = some x := by rw [← hr, ← hj]; simp
      rw [List.getElem?_map, Option.map_eq_some_iff] at h
      exact h
    have hpl : Hid (∀ y : ByteArray, (pre ++ [y]).length = j + 1) := Lib.hid fun y => by simp [hj]
    have hxs : x = fl d := hdx.symm
    rw [hj] at hs hlen
    rw [hLl] at hlen
    have hTW : ∀ r, T r → w1.heap.size ≤ r := fun r h => (hT r h).1
    have hTW' := Lib.hid hTW
    have hT2 := Lib.hid fun r h => (hT r h).2
    obtain ⟨⟨A, c, A2, c2, ys, m, o, ly, sy, et, t1, t2, t3, t4⟩, hbn, hbel, hsz, hr0, hr1⟩ := hs
    have hs' := Lib.hid (show LnSt w w1 ps es j T W' from ⟨⟨A, c, A2, c2, ys, m, o, ly, sy, et, t1, t2, t3, t4⟩, hbn, hbel, hsz, hr0, hr1⟩)
    have hwj : IntKind.i64.wrap ((j : Int) + 1) = (j : Int) + 1 := IntWalk.i64_in _ (by omega)
    obtain ⟨W5, hW5⟩ : ∃ W5, W'.setCell ⟨(w.heap.size + 1 + 1 + 1), 0, none⟩ (.int .i64 ((j : Int) + 1)) = W5 := ⟨_, rfl⟩
    have hW5n : W5 = W'.setCell ⟨(w.heap.size + 1 + 1 + 1), 0, none⟩ (.int .i64 ((j + 1 : Nat) : Int)) := by rw [← hW5]; rfl
    have hs5 : W5.heap.size = W'.heap.size := by rw [← hW5, setCell_size]
    have hk5 : ∀ k, k ≠ (w.heap.size + 1 + 1 + 1) → W5.heap[k]? = W'.heap[k]? := fun k h => by rw [← hW5]; exact Below.heap_setCell _ _ _ _ (by dsimp only; exact h)
    have hb5 : Below w.heap.size w W5 := by rw [← hW5]; exact hbel.setCell (by dsimp only; omega) _
    have m5 := (hk5 (w.heap.size + 1 + 1) (by omega)).trans m
    have o5 := owns_kept o fun g e => hk5 g (by have := hTW _ (t1 g e); omega)
    have et5 := et.kept (Nat.le_of_eq hs5.symm) (fun g e => hk5 g (by have := hTW _ (t2 g e); omega)) fun y hy g e => hk5 _ (by have := hTW _ (t3 y hy g e); omega)
    have hdl : d.length ≤ 100000 := by
      rcases Nat.lt_or_ge j ps.length with h | h
      · obtain ⟨p, hp, hp2⟩ := (hLg.out j).1 h
        rw [hd] at hp2
        rw [Option.some.inj hp2]
        have := lineP_len (hp'.out p (List.mem_of_getElem? hp))
        omega
      · obtain ⟨y, hy, hy2⟩ := (hLg.out j).2 h (by omega)
        rw [hd] at hy2
        rw [Option.some.inj hy2]
        have := lineE_len (he'.out y (List.mem_of_getElem? hy)) hnp.2
        omega
    have hrd : Hid (Calls Tryz.prog 70 #[.pointer (some ⟨(w.heap.size + 1 + 1), 0, none⟩), .string (bs d)] W5 fun e w' => e = .returned (.bool true) ∧ LnSt w w1 ps es (j + 1) (fun r => T r ∨ (W'.heap.size ≤ r ∧ r < w'.heap.size)) w' ∧ Lie (fun k => (k = (w.heap.size + 1 + 1) ∨ k = (w.heap.size + 1 + 1 + 1)) ∨ T k) W' w') := by
      rcases Nat.lt_or_ge j ps.length with h | h
      · obtain ⟨p, hp, hp2⟩ := (hLg.out j).1 h
        rw [hd] at hp2
        rw [Option.some.inj hp2]
        have hmin : min j ps.length = j := by omega
        obtain ⟨rfl, rfl⟩ := t4 (by omega)
        have h0 : j - ps.length = 0 := by omega
        rw [h0] at m5
        refine Lib.hid ((readPart_any w (w.heap.size + 1 + 1) A c (min j ps.length) (ps.take j) p W5 hb5 (by omega) m5 o5 (by rw [List.length_take]) (by omega) (hp'.out p (List.mem_of_getElem? hp)) (ht'.out.below hb5)).mono ?_)
        rintro e w' ⟨rfl, hk, A', c', m', o', loc⟩
        rw [hmin] at m' o' loc
        refine ⟨rfl, hs'.out.part hs1 hp hW5n m t1 hTW hk m' o' (by rw [hmin]; exact loc), by rw [← hs5]; exact hk.2.1, fun k hk1 hk2 => ?_⟩
        rw [hk.2.2 k (by rw [hs5]; exact hk1) (fun e => hk2 (.inl (.inl e))) (fun e => hk2 (.inr (t1 _ e.symm))), hk5 k fun e => hk2 (.inl (.inr e))]
      · obtain ⟨y, hy, hy2⟩ := (hLg.out j).2 h (by omega)
        rw [hd] at hy2
        rw [Option.some.inj hy2]
        refine Lib.hid ((readEnt_any w (w.heap.size + 1 + 1) A2 A c2 (j - ps.length) (min j ps.length) c np ys y W5 hb5 (by omega) m5 et5 ly (by omega) (he'.out y (List.mem_of_getElem? hy)) hnp (ht'.out.below hb5)).mono ?_)
        rintro e w' ⟨rfl, hk, A', c', x', m', sx, et', loc, locx⟩
        refine ⟨rfl, hs'.out.ent hs1 h hy hW5n m o ly sy t1 t2 t3 hTW et hk m' sx et' loc locx, by rw [← hs5]; exact hk.2.1, fun k hk1 hk2 => ?_⟩
        rw [hk.2.2 k (by rw [hs5]; exact hk1) (fun e => hk2 (.inl (.inl e))) (fun e => hk2 (.inr (t2 _ e.symm))), hk5 k fun e => hk2 (.inl (.inr e))]
    have hcl := Lib.hid fun W => cut_line d W hdl
    rw [hxs]
    have CN := bk1 hbn
    have hsBN := bk_size hbn
    obtain ⟨F, hF⟩ : ∃ F, fl d = F := ⟨_, rfl⟩
    rw [hF] at hcl ⊢
    clear hW5n hF hd hdx hxs hpre hT hLl hstops m o ly sy et t1 t2 t3 t4 hbn hr0 hr1 m5 o5 et5 hdl hk5 hb5 hs' hTW
    refine wpIn_block ?_
    refine wpIn_seq_k ?_
    intro K5 hK5
    refine wpIn_region_lit (wpListIn_round ?hL5 _ _ _ (by kernel_rfl) ?_)
    case hL5 => rintro ⟨a, w, h⟩; exact h
    go_wp2
    try rw [hW5]
    refine wpIn_seq_k ?_
    intro K6 hK6
    refine wpIn_region_lit (wpListIn_round ?hL6 _ _ _ (by kernel_rfl) ?_)
    case hL6 => rintro ⟨a, w, h⟩; exact h
    go_wp2_with (go_at_call 69; refine (hcl.out _).mono ?_; rintro e w' ⟨rfl, rfl⟩)
    refine wpIn_seq_k ?_
    intro K7 hK7
    refine wpIn_region_lit (wpListIn_round ?hL7 _ _ _ (by kernel_rfl) ?_)
    case hL7 => rintro ⟨a, w, h⟩; exact h
    go_wp2_with (go_at_call 70; refine hrd.out.mono ?_; rintro e w7 ⟨rfl, hs7, hl7⟩)
    gi_wp2
    refine ⟨fun r => T r ∨ (W'.heap.size ≤ r ∧ r < w7.heap.size), ?_, ?_, hl7, by dsimp only; rw [hpl.out]; exact hs7⟩
    · rintro r (h | ⟨h, -⟩)
      · exact .inl h
      · exact .inr h
    · rintro r (h | ⟨-, h⟩)
      · exact Nat.lt_of_lt_of_le (hT2.out r h) hl7.size
      · exact h
  case done =>
    rintro D xs T W' hxs hs rfl hKD
    have hxl : xs.length = ps.length + es.length := by rw [hxs, List.length_map, hLl]
    rw [hxl] at hs
    obtain ⟨⟨A, c, A2, c2, ys, m, o, ly, sy, et, t1, t2, t3, t4⟩, hbn, hbel, hsz, hr0, hr1⟩ := hs
    have e1 : min (ps.length + es.length) ps.length = ps.length := by omega
    have e2 : ps.length + es.length - ps.length = es.length := by omega
    rw [e1, e2] at m
    rw [e1, List.take_of_length_le (by omega)] at o
    rw [e2] at ly sy et
    rw [List.take_length] at sy
    obtain ⟨pn, hpn⟩ : ∃ n, ps.length = n := ⟨_, rfl⟩
    obtain ⟨en, hen⟩ : ∃ n, es.length = n := ⟨_, rfl⟩
    rw [hpn] at m o
    rw [hen] at m et
    have CK := bk2 m
    have C0 := bk2 hr0
    have C1 := bk1 hr1
    have o' := Lib.hid o
    have et' := Lib.hid et
    clear hstops t1 t2 t3 t4 hbn o et hLl hxs hxl e1 e2 hLg hs1 hbw1
    gi_wp2
    obtain ⟨W9, hW9⟩ : ∃ W9, ((W'.setCell ⟨w.heap.size, 0, none⟩ (.slice A pn c)).setCell ⟨w.heap.size, 1, none⟩ (.slice A2 en c2)).setCell ⟨(w.heap.size + 1), 0, none⟩ .nilIface = W9 := ⟨_, rfl⟩
    have hoth : ∀ k, k ≠ w.heap.size → k ≠ (w.heap.size + 1) → W9.heap[k]? = W'.heap[k]? := fun k k1 k2 => by
      rw [← hW9, Below.heap_setCell _ _ _ _ (by dsimp only; exact k2), Below.heap_setCell _ _ _ _ (by dsimp only; exact k1), Below.heap_setCell _ _ _ _ (by dsimp only; exact k1)]
    have z0 : W9.heap[w.heap.size]? = some (.cells #[.slice A pn c, .slice A2 en c2] 25 (0, 0)) := by rw [← hW9]; exact bk_set (bk_here (bk_here hr0 _ rfl) _ rfl) (by dsimp only; omega) _
    have z1 : W9.heap[(w.heap.size + 1)]? = some (.cells #[.nilIface] 95 (0, 0)) := by rw [← hW9]; exact bk_here (bk_set (bk_set hr1 (by dsimp only; omega) _) (by dsimp only; omega) _) _ rfl
    have hb9 : Below w.heap.size w W9 := by rw [← hW9]; exact ((hbel.setCell (by dsimp only; omega) _).setCell (by dsimp only; omega) _).setCell (by dsimp only; omega) _
    have hz9 : W'.heap.size = W9.heap.size := by rw [← hW9]; simp
    try rw [hW9]
    have hb0w : (w.heap.size + 1) < w1.heap.size := by have := hs1'.out; omega
    refine leaves_marks w [w1.heap.size] W9 hb9 (by simp) (fun D hD => ?_) fun w' hb' hk => ?_
    · rw [List.mem_singleton] at hD
      subst hD
      exact ⟨by omega, (hoth _ (by omega) (by omega)).trans hKD⟩
    have y0 := (hk w.heap.size (by simp; omega)).trans z0
    have y1 := (hk (w.heap.size + 1) (by simp; omega)).trans z1
    have hkp : ∀ (k : Nat) (cur : Array Value) (T : TypeId) (fr : Nat × Nat), W'.heap[k]? = some (.cells cur T fr) → T ≠ 25 → T ≠ 95 → w'.heap[k]? = W'.heap[k]? := fun k cur T fr h h1 h2 => by
      rw [hk k (by
        rw [List.mem_singleton]
        rintro rfl
        rw [hKD] at h
        cases h), hoth k (by
        rintro rfl
        rw [hr0] at h
        cases h
        exact h1 rfl) (by
        rintro rfl
        rw [hr1] at h
        cases h
        exact h2 rfl)]
    have hkO : ∀ {e : TypeId} {sz n : Nat} {v : Value} {zs : List Value}, W'.ownsRow w.heap.size e sz v n zs → e ≠ 25 → e ≠ 95 → ∀ g, v.ownBlock = some g → w'.heap[g]? = W'.heap[g]? := fun {e sz n v zs} h h1 h2 g eg => by
      rcases h.2 with ⟨rfl, -⟩ | ⟨g', cap, cur, rfl, -, hg3, -⟩
      · cases eg
      · have e3 : g' = g := Option.some.inj eg
        subst e3
        exact hkp _ _ _ _ hg3 h1 h2
    refine ⟨.tuple #[.agg #[.slice A pn c, .slice A2 en c2], .nilIface], results_cell2 (p1 := 2) (p2 := 3) (a1 := ⟨w.heap.size, 0, none⟩) (a2 := ⟨(w.heap.size + 1), 0, none⟩) rfl (by rfl) (by rfl) (run_loadBlock (T := 25) (cs := [.slice A pn c, .slice A2 en c2]) (by kernel_rfl) (by kernel_rfl) y0) (run_loadNil (by kernel_rfl) (bk1 y1).1), ⟨A, c, A2, c2, ys, by rw [hpn, hen], by rw [ly], sy, ?_, ?_⟩, hb'⟩
    · rw [hpn]
      exact owns_kept o'.out (hkO o'.out (by decide) (by decide))
    · rw [hen]
      exact et'.out.kept2 (hkO et'.out.own (by decide) (by decide)) fun y hy g e => by
        obtain ⟨cur, fr, hc⟩ := (et'.out.row y hy).2.2 g e
        exact hkp _ _ _ _ hc (by decide) (by decide)
  case stop =>
    rintro D c pre T W' hS hx
    exact hx.elim
end Go.Proofs
