import Derived.Test.YtpmliaildjomeaaGreatDoorMg27
import Derived.Test.YtpmliaildjomeaaGreatDoorMg33
import Derived.Test.YtpmliaildjomeaaGreatDoorMg25
import Derived.Lib.AppendIntMem
import Derived.Test.YtpmliaildjomeaaGreatDoorMg6
set_option linter.unusedSimpArgs false
set_option linter.unusedVariables false
namespace Go.Proofs
open Go.RowKit
set_option linter.unusedVariables false
/-! The library's texts, as far as the certificates want them. -/
def bs (l : List UInt8) : ByteArray := ⟨l.toArray⟩
def Sc (l : List UInt8) : List Value := [.string (bs l)]
theorem bs_data (l : List UInt8) : (bs l).data.toList = l := by simp [bs]
theorem bs_eta (s : ByteArray) : bs s.data.toList = s := by cases s; simp [bs]
theorem bs_size (l : List UInt8) : (bs l).size = l.length := by simp [bs, ByteArray.size]
theorem bs_inj {a b : List UInt8} (h : bs a = bs b) : a = b := by rw [← bs_data a, h, bs_data]
structure Tabs (w : World) : Prop where
  tab : Lib.TabIs Tryz.prog w "internal/strconv.uint64pow10" .u64 Lib.pow10Tab
  mx : ∃ m, w.cell? ⟨1, 0, none⟩ = some (.int .i64 m)
theorem cell_below {w w' : World} {p : Addr} {v : Value} (h : w.cell? p = some v) (hb : Below w.heap.size w w') : w'.cell? p = some v := (hb.cell (World.block_lt_of_cell? _ _ h)).trans h
theorem Tabs.below {w w' : World} (h : Tabs w) (hb : Below w.heap.size w w') : Tabs w' := by
  obtain ⟨h1, ⟨m, h4⟩⟩ := h
  exact ⟨Lib.tabBelow_of_tabIs h1 w' hb, ⟨m, cell_below h4 hb⟩⟩
theorem itoa_any (n : Int) (w : World) (hn : n.natAbs ≤ 9000000000000000000) (ht : Tabs w) :
    Calls Tryz.prog 64 #[.int .i64 n] w fun e w' => e = .returned (.string (bs (Lib.itoa n))) ∧ Below w.heap.size w w' :=
  (Tryz.strconv_Itoa n (by omega) (by omega) w ht.tab).mono fun e w' ⟨he, k, os, hw⟩ => ⟨he, hw ▸ Lib.below_grow w.heap.size w (Nat.le_refl _) k os⟩
theorem split_len (sep : ByteArray) (h1 : 1 ≤ sep.size) : ∀ (n : Nat) (s : ByteArray), s.size ≤ n → (Lib.splitB sep 0 (Lib.countB s sep) s).length = Lib.countB s sep + 1 := by
  intro n
  induction n with
  | zero =>
    intro s hs
    rcases Lib.index_spec s.data.toList sep.data.toList with ⟨h, -⟩ | ⟨i, h, hi, -, -⟩
    · rw [Lib.countB_miss s sep h]; rfl
    · have hr := Lib.index_room s.data.toList sep.data.toList (by omega)
      have e1 : s.data.toList.length = s.size := by simp
      have e2 : sep.data.toList.length = sep.size := by simp
      omega
  | succ n ih =>
    intro s hs
    rcases Lib.index_spec s.data.toList sep.data.toList with ⟨h, -⟩ | ⟨i, h, hi, -, -⟩
    · rw [Lib.countB_miss s sep h]; rfl
    · have hr := Lib.index_room s.data.toList sep.data.toList (by omega)
      have e1 : s.data.toList.length = s.size := by simp
      have e2 : sep.data.toList.length = sep.size := by simp
      rw [Lib.countB_hit s sep i h1 h, Nat.add_comm 1, Lib.splitB_hit sep 0 _ s i h, List.length_cons, ih _ (by rw [ByteArray.size_extract]; omega)]
theorem map_bs {l : List ByteArray} {m : List (List UInt8)} (h : l.map (·.data.toList) = m) : l = m.map bs := by
  subst h
  rw [List.map_map, show (bs ∘ fun x : ByteArray => x.data.toList) = id from funext fun x => bs_eta x, List.map_id]
theorem split_pieces (s : ByteArray) : Lib.splitB ⟨#[32]⟩ 0 (Lib.countB s ⟨#[32]⟩) s = (cutL s.data.toList).map bs := by
  refine map_bs ?_
  rw [Lib.splitB_data]
  exact split_cut _ _ (Nat.le_refl _)
theorem split_any (s : ByteArray) (w : World) (hs : s.size ≤ 100000) (ht : Tabs w) :
    Calls Tryz.prog 31 #[.string s, .string ⟨#[32]⟩] w fun e w' => (∃ A c, e = .returned (.slice A (cutL s.data.toList).length c) ∧ At 1 Sc w' A (cutL s.data.toList) ∧ (cutL s.data.toList).length ≤ c) ∧ Below w.heap.size w w' := by
  obtain ⟨m, hm⟩ := ht.mx
  refine (Tryz.strings_Split s ⟨#[32]⟩ m w (by omega) hm (by decide)).mono ?_
  rintro e w' ⟨rfl, rfl⟩
  have hl := split_len ⟨#[32]⟩ (by decide) s.size s (Nat.le_refl _)
  rw [split_pieces, List.length_map] at hl
  rw [split_pieces, ← hl]
  refine ⟨⟨_, _, rfl, ?_, Nat.le_refl _⟩, new_below _ _⟩
  intro k x hx
  refine ⟨w.heap.size, 0, rfl, by simp, ?_⟩
  intro j v hv
  match j, hv with
  | 0, rfl =>
    rw [World.cell?_alloc_at _ _ _ _ rfl]
    simp [hx]
theorem split_new (s : ByteArray) (w : World) (hs : s.size ≤ 100000) (ht : Tabs w) :
    Calls Tryz.prog 31 #[.string s, .string ⟨#[32]⟩] w fun e w' => (∃ c, e = .returned (.slice (some ⟨w.heap.size, 0, none⟩) (cutL s.data.toList).length c) ∧ At 1 Sc w' (some ⟨w.heap.size, 0, none⟩) (cutL s.data.toList) ∧ (cutL s.data.toList).length ≤ c) ∧ Below w.heap.size w w' := by
  obtain ⟨m, hm⟩ := ht.mx
  refine (Tryz.strings_Split s ⟨#[32]⟩ m w (by omega) hm (by decide)).mono ?_
  rintro e w' ⟨rfl, rfl⟩
  have hl := split_len ⟨#[32]⟩ (by decide) s.size s (Nat.le_refl _)
  rw [split_pieces, List.length_map] at hl
  rw [split_pieces, ← hl]
  refine ⟨⟨_, rfl, ?_, Nat.le_refl _⟩, new_below _ _⟩
  intro k x hx
  refine ⟨w.heap.size, 0, rfl, by simp, ?_⟩
  intro j v hv
  match j, hv with
  | 0, rfl =>
    rw [World.cell?_alloc_at _ _ _ _ rfl]
    simp [hx]
theorem atoi_any (n : Int) (w : World) (hn : n.natAbs < 10 ^ 16) :
    Calls Tryz.prog 89 #[.string (bs (Lib.itoa n))] w fun e w' => e = .returned (.tuple #[.int .i64 n, .nilIface]) ∧ Below w.heap.size w w' := by
  refine (Tryz.strconv_Atoi (bs (Lib.itoa n)) n (by rw [bs_size]; have := (itoa_len 15 n hn).1; omega) (by rw [bs_data]; exact atoi_itoa n) w).mono ?_
  rintro e w' ⟨rfl, t, rfl⟩
  exact ⟨rfl, rfl, rfl, rfl, by rw [Lib.bytesWorld_size]; omega, fun k hk => Lib.bytesWorld_at_old w 5 t k hk⟩
theorem trim_any (b : List UInt8) (w : World) : Calls Tryz.prog 90 #[.string (bs b), .string ⟨#[45]⟩] w fun e w' => e = .returned (.string (bs (magL b))) ∧ w = w' := by
  refine (Tryz.strings_TrimPrefix (bs b) ⟨#[45]⟩ w).mono ?_
  rintro e w' ⟨rfl, rfl⟩
  refine ⟨?_, rfl⟩
  rw [bs_data]
  show _ = Ending.returned (.string (bs (magL b)))
  rw [← trim_mag]
  rfl
theorem join_any (g n c : Nat) (A : Option Addr) (ws : List (List UInt8)) (w : World) (hA : At 1 Sc w A ws) (hn : ws.length = n) (hc : n ≤ c) (h0 : 0 < n) (hl : n ≤ 1000) (hlen : (Lib.join ws [32]).length ≤ 100000) :
    Calls Tryz.prog 65 #[.slice A n c, .string ⟨#[32]⟩] w fun e w' => e = .returned (.string (bs (Lib.join ws [32]))) ∧ Below w.heap.size w w' := by
  subst hn
  obtain ⟨x, hx⟩ : ∃ x, ws[0]? = some x := ⟨_, List.getElem?_eq_getElem h0⟩
  obtain ⟨b, o, rfl, hb, -⟩ := hA 0 x hx
  have e1 : (ws.map bs).map (·.data.toList) = ws := by
    rw [List.map_map, show ((fun x : ByteArray => x.data.toList) ∘ bs) = id from funext fun x => bs_data x, List.map_id]
  have hj := Tryz.strings_Join b o c (ws.map bs) ⟨#[32]⟩ w (fun j y hy => by
    rw [List.getElem?_map, Option.map_eq_some_iff] at hy
    obtain ⟨z, hz, rfl⟩ := hy
    obtain ⟨b', o', hA', -, hc'⟩ := hA j z hz
    cases hA'
    simpa using hc' 0 _ rfl) hb (by rw [List.length_map]; omega) (by rw [List.length_map]; exact hc) (by rw [e1]; exact Nat.le_trans hlen (by decide))
  rw [List.length_map, e1] at hj
  exact hj
end Go.Proofs

set_option linter.unusedSimpArgs false
set_option linter.unusedVariables false
namespace Go.Proofs
open Go.RowKit
set_option linter.unusedVariables false
/-! Numbers of texts: what was written is read. -/
theorem At.tail1 {α : Type} {sz : Nat} {cs : α → List Value} {w : World} {b o : Nat} {l : List α} (h : At sz cs w (some ⟨b, o, none⟩) l) (n : Nat) : At sz cs w (some ⟨b, o + n * sz, none⟩) (l.drop n) := fun k x hx => by
  rw [List.getElem?_drop] at hx
  obtain ⟨b', o', hA, hb, hc⟩ := h (n + k) x hx
  cases hA
  refine ⟨b, o + n * sz, rfl, hb, fun j u hu => ?_⟩
  rw [← hc j u hu, Nat.add_mul]
  congr 2
  omega
set_option maxRecDepth 100000 in
set_option maxHeartbeats 2000000 in
theorem number_any (n : Int) (k : Nat) (w : World) (hk : k ≤ 14) (hn : n.natAbs < 10 ^ (k + 1)) (ht : Tabs w) :
    Calls Tryz.prog 63 #[.string (bs (Lib.itoa n)), .int .i64 ((k + 1 : Nat) : Int)] w fun e w' => e = .returned (.tuple #[.int .i64 n, .bool true]) ∧ Below w.heap.size w w' := by
  have hbig : (10 : Nat) ^ (k + 1) ≤ 10 ^ 15 := Nat.pow_le_pow_right (by decide) (by omega)
  have hAt := atoi_any n w (by omega)
  have hIt := Lib.hid fun W (hb : Below w.heap.size w W) => itoa_any n W (by omega) (ht.below hb)
  have hTr := Lib.hid fun W => trim_any (Lib.itoa n) W
  have hm := (itoa_len k n hn).2
  obtain ⟨S, hS⟩ : ∃ S, bs (Lib.itoa n) = S := ⟨_, rfl⟩
  obtain ⟨M, hM⟩ : ∃ M, bs (magL (Lib.itoa n)) = M := ⟨_, rfl⟩
  have hMs : M.size ≤ k + 1 := by rw [← hM, bs_size]; exact hm
  have hMi : decide ((M.size : Int) ≤ ((k + 1 : Nat) : Int)) = true := by simp; omega
  have hMi2 : (M.size : Int) ≤ ((k + 1 : Nat) : Int) := by omega
  rw [hS] at hAt hIt hTr ⊢
  rw [hM] at hTr
  obtain ⟨K, hK⟩ : ∃ K : Int, ((k + 1 : Nat) : Int) = K := ⟨_, rfl⟩
  rw [hK] at hMi hMi2 ⊢
  have hse : (S.toList == S.toList) = true := by simp
  have hnl : ∀ W, (binOp .eql 95 .nilIface .nilIface).run Tryz.prog W = .ok (.bool true) W := fun W => by kernel_rfl
  clear hn ht hbig hm hS hM hK hk
  go_enter Tryz.func63, Tryz.ntmps63
  go_wp2_with (first
    | (go_at_call 89; refine hAt.mono ?_; rintro e w1 ⟨rfl, hb1⟩)
    | (go_at_call 64; refine (hIt.out _ hb1).mono ?_; rintro e w2 ⟨rfl, hb2⟩)
    | (go_at_call 90; refine (hTr.out _).mono ?_; rintro e w3 ⟨rfl, rfl⟩))
  go_ret2
  exact ⟨rfl, via hb1 hb2⟩
set_option maxRecDepth 100000 in
set_option maxHeartbeats 2000000 in
theorem numbers_any (A : Option Addr) (l : List Int) (k n c : Nat) (w : World) (hk : k ≤ 14) (hl : ∀ x ∈ l, x.natAbs < 10 ^ (k + 1)) (hA : At 1 Sc w A (l.map Lib.itoa)) (hn : l.length = n) (h9 : n ≤ 900) (ht : Tabs w) :
    Calls Tryz.prog 32 #[.slice A n c, .int .i64 ((k + 1 : Nat) : Int)] w fun e w' => (∃ A2 c2, e = .returned (.tuple #[.slice A2 n c2, .bool true]) ∧ w'.ownsRow w.heap.size 3 1 (.slice A2 n c2) n (l.map (Value.int .i64))) ∧ Below w.heap.size w w' := by
  have hNu := Lib.hid fun x (hx : x ∈ l) W (hb : Below w.heap.size w W) => number_any x k W hk (hl x hx) (ht.below hb)
  have hA' := Lib.hid hA
  have hn' := Lib.hid hn
  obtain ⟨K, hK⟩ : ∃ K : Int, ((k + 1 : Nat) : Int) = K := ⟨_, rfl⟩
  rw [hK] at hNu ⊢
  obtain ⟨i0, hi, hz0, hz1, hz2⟩ := info_parts Tryz.info3
  clear hk hl hA hn ht hK
  go_enter Tryz.func32, Tryz.ntmps32
  go_wp2
  go_loopw [6, 13] (fun v i wr => ∃ j : Nat, j ≤ n ∧ i = .int .i64 j ∧ Hid (wr.ownsRow w.heap.size 3 1 v j ((l.take j).map (Value.int .i64))) ∧ Below w.heap.size w wr) (fun _ i _ => n - (intOf i).toNat)
  case atStart => exact ⟨0, Nat.zero_le _, rfl, Lib.hid (World.ownsRow_nil _ _ _ _), Below.refl _ _⟩
  case round =>
    obtain ⟨j, hj, rfl, hown, hbw⟩ := hrel
    obtain ⟨A5, c5, rfl⟩ := own_slice hown.out
    by_cases hlt : j < n
    · have hjI : (j : Int) < (n : Int) := by omega
      obtain ⟨x, hx⟩ : ∃ x, l[j]? = some x := ⟨_, List.getElem?_eq_getElem (by rw [hn'.out]; exact hlt)⟩
      obtain ⟨b, o, rfl, hbb, hc⟩ := hA'.out.below hbw j (Lib.itoa x) (by rw [List.getElem?_map, hx]; rfl)
      have y0 := hc 0 _ rfl
      simp only [Nat.add_zero, Nat.mul_one] at y0
      have hCx := Lib.hid (hNu.out x (List.mem_of_getElem? hx) wr hbw)
      have hst := Lib.hid (show (l.take (j + 1)).map (Value.int .i64) = (l.take j).map (Value.int .i64) ++ [.int .i64 x] by rw [List.take_add_one, hx]; simp)
      clear hc hx
      go_wp2_with (first
        | (go_at_call 63; refine hCx.out.mono ?_; rintro e w2 ⟨rfl, hb2⟩; (have hO2 := Lib.hid (owns_below hown.out hb2)); (have hbw2 := via hbw hb2); clear hb2)
        | (at_builtin; refine wpList_append_own _ rfl _ _ 33 rfl w.heap.size 3 i0 (.int .i64 0) 1 8 Tryz.underlying33 hi hz0 hz1 hz2 rfl (by decide) _ _ _ rfl (hO2.out.alloc _) ⟨w2.heap.size, 0, none⟩ 1 1 [.int .i64 x] rfl rfl ?c1 ?c2 ?c3 ?c4 ?c5 ?_))
      try (case c1 => exact cells_new' _ [.int .i64 x] _ (by simp))
      case c2 => first | rfl | (intro u hu; simp at hu; subst hu; rfl)
      case c3 => first | omega | (unfold maxLen; omega)
      case c4 => omega
      case c5 => have := hbw2.size; first | omega | (simp; omega)
      intro v' w3 hown3 hg3 _
      have hown4 := Lib.hid (show w3.ownsRow w.heap.size 3 1 v' (j + 1) ((l.take (j + 1)).map (Value.int .i64)) from by rw [hst.out, List.map_take]; exact hown3)
      have hbw3 : Below w.heap.size w w3 := grown_below (via hbw2 (new_below _ _)) hg3 fun b e => by have := (hO2.out.lt b e).1; omega
      clear hown3 hg3
      go_wp2
      go_roundw
      case rel => exact ⟨j + 1, by omega, by go_num, hown4.out, hbw3⟩
      case measure => first | (simp [intOf]; done) | (simp [intOf]; omega)
    · obtain rfl : n = j := by omega
      have hall := Lib.hid (show l.take n = l by rw [← hn'.out, List.take_length])
      go_wp2
      go_ret2
      exact ⟨⟨A5, c5, rfl, by have := hown.out; rwa [hall.out] at this⟩, hbw⟩
end Go.Proofs

set_option linter.unusedSimpArgs false
set_option linter.unusedVariables false
namespace Go.Proofs
open Go.RowKit
set_option linter.unusedVariables false
/-! joined: words and numbers with blanks between. -/
inductive Wd where
  | s (b : List UInt8)
  | n (i : Int)
  | l (A : Option Addr) (c : Nat) (ns : List Int)
def Wd.v : Wd → Value
  | .s b => .iface 9 (.string (bs b))
  | .n i => .iface 3 (.int .i64 i)
  | .l A c ns => .iface 33 (.slice A ns.length c)
def Wd.tx : Wd → List (List UInt8)
  | .s b => [b]
  | .n i => [Lib.itoa i]
  | .l _ _ ns => ns.map Lib.itoa
/-- What is asked of the words. -/
structure WdsAt (w : World) (B : Nat) (ws : List Wd) : Prop where
  lt : B < w.heap.size
  cell : ∀ j x, ws[j]? = some x → w.cell? ⟨B, j, none⟩ = some x.v
  ls : ∀ A c ns, Wd.l A c ns ∈ ws → At 1 Zc w A ns ∧ ∀ x ∈ ns, x.natAbs ≤ 9000000000000000000
  ns : ∀ i, Wd.n i ∈ ws → i.natAbs ≤ 9000000000000000000
theorem WdsAt.below {w w' : World} {B : Nat} {ws : List Wd} (h : WdsAt w B ws) (hb : Below w.heap.size w w') : WdsAt w' B ws :=
  ⟨Nat.lt_of_lt_of_le h.lt hb.size, fun j x hx => (hb.cell h.lt).trans (h.cell j x hx), fun A c ns hm => ⟨(h.ls A c ns hm).1.below hb, (h.ls A c ns hm).2⟩, h.ns⟩
theorem own_le2 {w : World} {base : Nat} {e : TypeId} {size n c : Nat} {A : Option Addr} {xs : List Value} (h : w.ownsRow base e size (.slice A n c) n xs) : n ≤ c := by
  rcases h.2 with ⟨h, h0⟩ | ⟨g, cap, cur, h1, h2, h3, h4, -⟩
  · omega
  · cases h1; exact h4
theorem infoSt : (Tryz.prog.info? 9).map (fun i => (i.zero, i.size, i.bytes)) = some (some (.string (ByteArray.mk #[])), 1, 16) := by kernel_rfl
set_option maxRecDepth 100000 in
set_option maxHeartbeats 4000000 in
theorem joined_any (B n c : Nat) (ws : List Wd) (w : World) (hW : WdsAt w B ws) (hn : ws.length = n) (hnn : n ≤ 100) (h9 : (ws.flatMap Wd.tx).length ≤ 900) (h1 : 0 < (ws.flatMap Wd.tx).length) (hlen : (Lib.join (ws.flatMap Wd.tx) [32]).length ≤ 100000) (ht : Tabs w) :
    Calls Tryz.prog 38 #[.slice (some ⟨B, 0, none⟩) n c] w fun e w' => e = .returned (.string (bs (Lib.join (ws.flatMap Wd.tx) [32]))) ∧ Below w.heap.size w w' := by
  have hIt := Lib.hid fun i (hi : i.natAbs ≤ 9000000000000000000) W (hb : Below w.heap.size w W) => itoa_any i W hi (ht.below hb)
  have hW' := Lib.hid hW
  have hn' := Lib.hid hn
  have hlen' := Lib.hid hlen
  have h1' := Lib.hid h1
  have h9' := Lib.hid h9
  have hBw := hW.lt
  obtain ⟨i0, hi, hz0, hz1, hz2⟩ := info_parts infoSt
  have ta1 : ∀ v W, (Instr.typeAssert (.iface 9 v) 20 9 true).run Tryz.prog W = .ok (.tuple #[v, .bool true]) W := fun v W => by kernel_rfl
  have ta2 : ∀ v W, (Instr.typeAssert (.iface 3 v) 20 9 true).run Tryz.prog W = .ok (.tuple #[.string (ByteArray.mk #[]), .bool false]) W := fun v W => by kernel_rfl
  have ta3 : ∀ v W, (Instr.typeAssert (.iface 3 v) 20 3 true).run Tryz.prog W = .ok (.tuple #[v, .bool true]) W := fun v W => by kernel_rfl
  have ta4 : ∀ v W, (Instr.typeAssert (.iface 33 v) 20 9 true).run Tryz.prog W = .ok (.tuple #[.string (ByteArray.mk #[]), .bool false]) W := fun v W => by kernel_rfl
  have ta5 : ∀ v W, (Instr.typeAssert (.iface 33 v) 20 3 true).run Tryz.prog W = .ok (.tuple #[.int .i64 0, .bool false]) W := fun v W => by kernel_rfl
  have ta6 : ∀ v W, (Instr.typeAssert (.iface 33 v) 20 33 true).run Tryz.prog W = .ok (.tuple #[v, .bool true]) W := fun v W => by kernel_rfl
  obtain ⟨R, hR⟩ : ∃ R, bs (Lib.join (ws.flatMap Wd.tx) [32]) = R := ⟨_, rfl⟩
  have hR' := Lib.hid hR
  rw [hR]
  clear hW hn ht hlen h1 h9 hR
  go_enter Tryz.func38, Tryz.ntmps38
  go_wp2
  go_loopw [3, 13] (fun v i wr => ∃ j m : Nat, j ≤ n ∧ i = .int .i64 j ∧ Hid (((ws.take j).flatMap Wd.tx).length = m) ∧ Hid (wr.ownsRow w.heap.size 9 1 v m (((ws.take j).flatMap Wd.tx).flatMap Sc)) ∧ Below w.heap.size w wr) (fun _ i _ => n - (intOf i).toNat)
  case atStart => exact ⟨0, 0, Nat.zero_le _, rfl, Lib.hid rfl, Lib.hid (World.ownsRow_nil _ _ _ _), Below.refl _ _⟩
  case round =>
    obtain ⟨j, m, hj, rfl, hm, hown, hbw⟩ := hrel
    obtain ⟨A5, c5, rfl⟩ := own_slice hown.out
    have hBs := Nat.lt_of_lt_of_le hBw hbw.size
    by_cases hlt : j < n
    · have hjI : (j : Int) < (n : Int) := by omega
      obtain ⟨x, hx⟩ : ∃ x, ws[j]? = some x := ⟨_, List.getElem?_eq_getElem (by rw [hn'.out]; exact hlt)⟩
      have hxm := List.mem_of_getElem? hx
      have y0 := (hW'.out.below hbw).cell j x hx
      have hst := Lib.hid (show (ws.take (j + 1)).flatMap Wd.tx = (ws.take j).flatMap Wd.tx ++ x.tx by rw [List.take_add_one, hx]; simp)
      cases x with
      | s b =>
        simp only [Wd.v] at y0
        clear hx hxm
        have hmm := Lib.hid (show m ≤ 900 by
          have h := h9'.out
          rw [← List.take_append_drop j ws, List.flatMap_append, List.length_append, hm.out] at h
          omega)
        go_wp2_with (first | (fail) | (at_builtin; refine wpList_append_own _ rfl _ _ 79 rfl w.heap.size 9 i0 (.string (ByteArray.mk #[])) 1 16 (by kernel_rfl) hi hz0 hz1 hz2 rfl (by decide) _ _ _ rfl (hown.out.alloc _) ⟨wr.heap.size, 0, none⟩ 1 1 [.string (bs b)] rfl rfl ?c1 ?c2 ?c3 ?c4 ?c5 ?_))
        try (case c1 => exact cells_new' _ [.string (bs b)] _ (by simp))
        case c2 => first | rfl | (intro u hu; simp at hu; subst hu; rfl)
        case c3 => have := hmm.out; first | omega | (unfold maxLen; omega)
        case c4 => have := hmm.out; omega
        case c5 => have := hbw.size; first | omega | (simp; omega)
        intro v' w3 hown3 hg3 _
        have hown4 := Lib.hid (show w3.ownsRow w.heap.size 9 1 v' (m + 1) (((ws.take (j + 1)).flatMap Wd.tx).flatMap Sc) from by rw [hst.out, List.flatMap_append]; simpa [Wd.tx, Sc] using hown3)
        have hm4 := Lib.hid (show ((ws.take (j + 1)).flatMap Wd.tx).length = m + 1 from by rw [hst.out, List.length_append, hm.out]; rfl)
        have hbw3 : Below w.heap.size w w3 := grown_below (via hbw (new_below _ _)) hg3 fun b e => by have := (hown.out.lt b e).1; omega
        clear hown3 hg3
        go_wp2
        go_roundw
        case rel => exact ⟨j + 1, m + 1, by omega, by go_num, hm4, hown4, hbw3⟩
        case measure => first | (simp [intOf]; done) | (simp [intOf]; omega)
      | n i =>
        simp only [Wd.v] at y0
        have hCi := Lib.hid (hIt.out i ((hW'.out.ns i hxm)) wr hbw)
        have hmm := Lib.hid (show m ≤ 900 by
          have h := h9'.out
          rw [← List.take_append_drop j ws, List.flatMap_append, List.length_append, hm.out] at h
          omega)
        clear hx hxm
        go_wp2_with (first | (go_at_call 64; refine hCi.out.mono ?_; rintro e w2 ⟨rfl, hb2⟩; (have hO1 := Lib.hid (owns_below hown.out hb2)); (have hbw2 := via hbw hb2); clear hb2) | (at_builtin; refine wpList_append_own _ rfl _ _ 79 rfl w.heap.size 9 i0 (.string (ByteArray.mk #[])) 1 16 (by kernel_rfl) hi hz0 hz1 hz2 rfl (by decide) _ _ _ rfl (hO1.out.alloc _) ⟨w2.heap.size, 0, none⟩ 1 1 [.string (bs (Lib.itoa i))] rfl rfl ?c1 ?c2 ?c3 ?c4 ?c5 ?_))
        try (case c1 => exact cells_new' _ [.string (bs (Lib.itoa i))] _ (by simp))
        case c2 => first | rfl | (intro u hu; simp at hu; subst hu; rfl)
        case c3 => have := hmm.out; first | omega | (unfold maxLen; omega)
        case c4 => have := hmm.out; omega
        case c5 => have := hbw2.size; first | omega | (simp; omega)
        intro v' w3 hown3 hg3 _
        have hown4 := Lib.hid (show w3.ownsRow w.heap.size 9 1 v' (m + 1) (((ws.take (j + 1)).flatMap Wd.tx).flatMap Sc) from by rw [hst.out, List.flatMap_append]; simpa [Wd.tx, Sc] using hown3)
        have hm4 := Lib.hid (show ((ws.take (j + 1)).flatMap Wd.tx).length = m + 1 from by rw [hst.out, List.length_append, hm.out]; rfl)
        have hbw3 : Below w.heap.size w w3 := grown_below (via hbw2 (new_below _ _)) hg3 fun b e => by have := (hO1.out.lt b e).1; omega
        clear hown3 hg3
        go_wp2
        go_roundw
        case rel => exact ⟨j + 1, m + 1, by omega, by go_num, hm4, hown4, hbw3⟩
        case measure => first | (simp [intOf]; done) | (simp [intOf]; omega)
      | l A c ns =>
        obtain ⟨hAn, hns⟩ := hW'.out.ls A c ns hxm
        simp only [Wd.v] at y0
        have hAn' := Lib.hid hAn
        have hns' := Lib.hid hns
        have hmm := Lib.hid (show m + ns.length ≤ 900 by
          have h := h9'.out
          rw [← List.take_append_drop j ws, List.flatMap_append, List.length_append, hm.out] at h
          have h2 : ns.length ≤ ((ws.drop j).flatMap Wd.tx).length := by
            have hjl : j < ws.length := by rw [hn'.out]; exact hlt
            rw [List.drop_eq_getElem_cons hjl]
            have e : ws[j] = Wd.l A c ns := by have := List.getElem?_eq_getElem hjl; rw [hx] at this; exact (Option.some.inj this).symm
            rw [e]
            simp [Wd.tx]
          omega)
        obtain ⟨L, hL⟩ : ∃ L, ns.length = L := ⟨_, rfl⟩
        have hL' := Lib.hid hL
        rw [hL] at y0 hmm
        have hL9 : L ≤ 900 := by have := hmm.out; omega
        clear hx hxm hAn hns hL
        go_wp2
        go_loopw [3, 38] (fun v q wi => ∃ k : Nat, k ≤ L ∧ q = .int .i64 k ∧ Hid (wi.ownsRow w.heap.size 9 1 v (m + k) ((((ws.take j).flatMap Wd.tx) ++ (ns.take k).map Lib.itoa).flatMap Sc)) ∧ Below w.heap.size w wi) (fun _ q _ => L - (intOf q).toNat)
        case atStart => exact ⟨0, Nat.zero_le _, rfl, Lib.hid (by simpa using hown.out), hbw⟩
        case round =>
          obtain ⟨k, hk, rfl, hownI, hbwI⟩ := hrel
          obtain ⟨A6, c6, rfl⟩ := own_slice hownI.out
          by_cases hkl : k < L
          · have hkI : (k : Int) < (L : Int) := by omega
            obtain ⟨z, hz⟩ : ∃ z, ns[k]? = some z := ⟨_, List.getElem?_eq_getElem (by rw [hL'.out]; exact hkl)⟩
            obtain ⟨b, o, rfl, hs3, c4⟩ := zc_cell (hAn'.out.below hbwI) (k := k) (by rw [hL'.out]; exact hkl)
            rw [List.getD_eq_getElem?_getD, hz] at c4
            simp only [Option.getD_some] at c4
            have hCz := Lib.hid (hIt.out z (hns'.out z (List.mem_of_getElem? hz)) wr hbwI)
            have hsk := Lib.hid (show (ns.take (k + 1)).map Lib.itoa = (ns.take k).map Lib.itoa ++ [Lib.itoa z] by rw [List.take_add_one, hz]; simp)
            clear hz
            go_wp2_with (first | (go_at_call 64; refine hCz.out.mono ?_; rintro e w2 ⟨rfl, hb2⟩; (have hO1 := Lib.hid (owns_below hownI.out hb2)); (have hbw2 := via hbwI hb2); clear hb2) | (at_builtin; refine wpList_append_own _ rfl _ _ 79 rfl w.heap.size 9 i0 (.string (ByteArray.mk #[])) 1 16 (by kernel_rfl) hi hz0 hz1 hz2 rfl (by decide) _ _ _ rfl (hO1.out.alloc _) ⟨w2.heap.size, 0, none⟩ 1 1 [.string (bs (Lib.itoa z))] rfl rfl ?c1 ?c2 ?c3 ?c4 ?c5 ?_))
            try (case c1 => exact cells_new' _ [.string (bs (Lib.itoa z))] _ (by simp))
            case c2 => first | rfl | (intro u hu; simp at hu; subst hu; rfl)
            case c3 => have := hmm.out; first | omega | (unfold maxLen; omega)
            case c4 => have := hmm.out; omega
            case c5 => have := hbw2.size; first | omega | (simp; omega)
            intro v' w3 hown3 hg3 _
            have hown4 := Lib.hid (show w3.ownsRow w.heap.size 9 1 v' (m + (k + 1)) ((((ws.take j).flatMap Wd.tx) ++ (ns.take (k + 1)).map Lib.itoa).flatMap Sc) from by rw [hsk.out, ← List.append_assoc, List.flatMap_append]; simpa [Sc, Nat.add_assoc] using hown3)
            have hbw3 : Below w.heap.size w w3 := grown_below (via hbw2 (new_below _ _)) hg3 fun b e => by have := (hO1.out.lt b e).1; omega
            clear hown3 hg3
            go_wp2
            go_roundw
            case rel => exact ⟨k + 1, by omega, by go_num, hown4, hbw3⟩
            case measure => first | (simp [intOf]; done) | (simp [intOf]; omega)
          · obtain rfl : L = k := by omega
            have hallk := Lib.hid (show ns.take L = ns by rw [← hL'.out, List.take_length])
            have hsum := Lib.hid (show ((ws.take (j + 1)).flatMap Wd.tx).length = m + L from by rw [hst.out, List.length_append, hm.out]; simp [Wd.tx, hL'.out])
            have hown4 := Lib.hid (show wr.ownsRow w.heap.size 9 1 (.slice A6 (m + L) c6) (m + L) (((ws.take (j + 1)).flatMap Wd.tx).flatMap Sc) from by rw [hst.out]; have := hownI.out; rw [hallk.out] at this; exact this)
            go_wp2
            go_roundw
            case rel => exact ⟨j + 1, m + L, by omega, by go_num, hsum, hown4, hbwI⟩
            case measure => first | (simp [intOf]; done) | (simp [intOf]; omega)
    · obtain rfl : n = j := by omega
      have hall : ws.take n = ws := by rw [← hn'.out, List.take_length]
      have hown2 := hown.out
      have hm2 := hm.out
      rw [hall] at hown2 hm2
      have hmpos : 0 < m := by rw [← hm2]; exact h1'.out
      have hm9 : m ≤ 900 := by rw [← hm2]; exact h9'.out
      have hJ := Lib.hid (join_any 0 m c5 A5 (ws.flatMap Wd.tx) wr (by
        have := hown2
        rw [← hm2] at this
        obtain ⟨A', c', e, h1⟩ := at_of_owns (cs := Sc) (sz := 1) (fun _ => rfl) this
        cases e
        exact h1) hm2 (own_le2 hown2) hmpos (by omega) hlen'.out)
      rw [hR'.out] at hJ
      clear hown2 hm2 hall hown
      go_wp2_with (go_at_call 65; refine hJ.out.mono ?_; rintro e w2 ⟨rfl, hb2⟩)
      go_ret
      exact ⟨rfl, via hbw hb2⟩
end Go.Proofs
