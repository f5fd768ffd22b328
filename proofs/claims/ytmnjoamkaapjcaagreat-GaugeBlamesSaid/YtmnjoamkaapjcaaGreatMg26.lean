import Derived.Test.YtmnjoamkaapjcaaGreatMg25
import Derived.Shelf.Small.Bits
import Derived.Shelf.Small.Wraps
import Derived.Shelf.Strconv.Itoa0
import Derived.Shelf.Sort.Plain
import Derived.Shelf.Slices.Turned
import Derived.Ground.Names2Prog
import Derived.Shelf.Slices.CompactI
import Derived.Shelf.Slices.SearchI
import Derived.Shelf.Slices.Cells
import Derived.Shelf.Slices.In.SortNone
import Derived.Test.YtmnjoamkaapjcaaGreatProg
set_option linter.unusedSimpArgs false
set_option linter.unusedVariables false
namespace Go.Proofs
open Go.RowKit
section
variable {P : Program}
/-- A drawn region in a call that began in 'w0': quiet operations; a call 'c' that hands back memory ('mkc', of which 'Pr' holds); an alloc 'm'; a store 'k' into it, behind both. -/
def mkCM (c : Nat) (mkc : Gh → Value) : Nat → Gh → Value := fun j g => if j = c then mkc g else .pointer (some ⟨g.b, 0, none⟩)
theorem region_cms {id : Nat} {Q : Exit → Act → World → Prop} {a0 : Act} {w : World} {l : List Oper} (w0 : World) (c m k : Nat) (mkc : Gh → Value) (Pr : Gh → World → Prop) (Ap : Nat → Gh → Prop) (z : Obj) (y : Gh → Obj) (af : (Nat → Gh) → Act) (hm : P.follows .mixedOrders = true)
    (hB : slotsOk l.toArray = true) (hB' : ∀ g, slotsOk (mixL [c, m, k] (mkCM c mkc) g 0 l).toArray = true) (hS : Region.noSelect l.toArray = true) (hN : spB l.toArray [c, m, k] = true)
    (hne : c ≠ m ∧ c ≠ k ∧ m ≠ k)
    (ht : (match l[k]? with | some o => o.dst.isNone && o.after.any (fun e => Region.binds .any e && e.on == m) && o.after.any (fun e => Region.binds .any e && e.on == c) | none => false) = true)
    (hw : Below w0.heap.size w0 w)
    (hPs : ∀ h x x', Pr h x → Below x.heap.size x x' → Pr h x') (hPa : ∀ h x, Pr h x → Ap x.heap.size h) (hPo : ∀ h b x x', Pr h x → Ap b h → OnlyB b x x' → Pr h x')
    (hal : ∀ o, l[m]? = some o → ∀ (a : Act) (x : World), (execOp a.eval o).run P x = .ok (.value (.pointer (some ⟨x.heap.size, 0, none⟩))) (x.alloc z))
    (hcl : ∀ o, l[c]? = some o → ∀ (g : Nat → Gh) (x : World), Below w.heap.size w x → Below w0.heap.size w0 x → ∃ f args, (execOp (af g).eval o).run P x = .ok (.enter f args) x ∧ Calls P f args x fun e x' => ∃ h, e = .returned (mkc h) ∧ Pr h x' ∧ (∀ b, b < x.heap.size → Ap b h) ∧ Below x.heap.size x x')
    (hq : ∀ g u, Below w.heap.size w u → (∀ (x : Grew u) (b o : Nat), b < u.heap.size → x.val.cell? ⟨b, o, none⟩ = u.cell? ⟨b, o, none⟩) → Hid (∀ x : Grew u, Below w0.heap.size w0 x.val) → Hid (∀ x : Grew u, Below w.heap.size w x.val) →
      wpQuiet P (mixL [c, m, k] (mkCM c mkc) g 0 l).toArray (fun w' => ∃ x : Grew u, w' = x.val) (fun a' => a' = af g) (mixL [c, m, k] (mkCM c mkc) g 0 l) a0)
    (hind : ∀ j ∈ [c, m, k], ∀ g h, maskL (coneS l.toArray j 0 l []) 0 (af g).tmps.toList = maskL (coneS l.toArray j 0 l []) 0 (af (upd g j h)).tmps.toList)
    (hs1 : ∀ o, l[k]? = some o → ∀ (g : Nat → Gh) (x : World), Below w.heap.size w x → x.heap[(g m).b]? = some z → Pr (g c) x → ∃ x', (execOp (af g).eval o).run P x = .ok .skip x' ∧ OnlyB (g m).b x x' ∧ x'.heap[(g m).b]? = some (y (g c)))
    (hend : ∀ (g : Nat → Gh) (x : World), w.heap.size ≤ (g m).b → Below w.heap.size w x → Below w0.heap.size w0 x → Pr (g c) x → Ap (g m).b (g c) → x.heap[(g m).b]? = some (y (g c)) → Q .normal (af g) x) :
    (Code.region id l.toArray true).wp P Q a0 w := by
  obtain ⟨n1, n2, n3⟩ := hne
  refine region_mix w0 [c, m, k] (mkCM c mkc) (fun L g x => (L k = true → L m = true ∧ L c = true) ∧ (L c = true → Pr (g c) x) ∧ (L m = true → w.heap.size ≤ (g m).b ∧ x.heap[(g m).b]? = some (if L k then y (g c) else z)) ∧ (L c = true → L m = true → Ap (g m).b (g c))) af hm hB hB' hS hN hw ?_ ?_ hq hind ?_ ?_
  · intro L h
    have a1 := h c (by simp)
    have a2 := h m (by simp)
    have a3 := h k (by simp)
    exact ⟨fun h => (by rw [a3] at h; cases h), fun h => (by rw [a1] at h; cases h), fun h => (by rw [a2] at h; cases h), fun h => (by rw [a1] at h; cases h)⟩
  · rintro L L' g x x' h ⟨h1, h2, h3, h4⟩ hb
    have a1 := h c (by simp)
    have a2 := h m (by simp)
    have a3 := h k (by simp)
    rw [a1, a2, a3]
    exact ⟨h1, fun h => hPs _ _ _ (h2 h) hb, fun h => ⟨(h3 h).1, bk_keep hb (h3 h).2⟩, h4⟩
  · intro j hj o ho L g x ⟨h1, h2, h3, h4⟩ hbx hb0 hL hafter
    simp only [List.mem_cons, List.not_mem_nil, or_false] at hj
    rcases hj with rfl | rfl | rfl
    · have lk : L k = false := by
        cases hk : L k with
        | false => rfl
        | true => rw [(h1 hk).2] at hL; cases hL
      obtain ⟨f, args, r1, r2⟩ := hcl o ho g x hbx hb0
      refine does_enter r1 (r2.mono ?_)
      rintro e x' ⟨h, rfl, p1, p2, p3⟩
      refine ⟨_, rfl, via hbx p3, .inr ⟨h, by simp [mkCM], ?_⟩⟩
      rw [setL_self, setL_ne (Ne.symm n1), setL_ne (Ne.symm n2), upd_self, upd_ne (Ne.symm n1), lk]
      refine ⟨(fun h => by cases h), fun _ => p1, fun hm => ?_, fun _ hm => p2 _ (bk_size (h3 hm).2)⟩
      have := h3 hm
      rw [lk] at this
      exact ⟨this.1, bk_keep p3 this.2⟩
    · have lk : L k = false := by
        cases hk : L k with
        | false => rfl
        | true => rw [(h1 hk).1] at hL; cases hL
      refine does_value (hal o ho _ x) ⟨via_alloc hbx _, .inr ⟨{ Gh.zero with b := x.heap.size }, by simp [mkCM, Ne.symm n1], ?_⟩⟩
      rw [setL_self, setL_ne n1, setL_ne (Ne.symm n3), upd_self, upd_ne n1, lk]
      refine ⟨(fun h => by cases h), fun h => hPs _ _ _ (h2 h) (new_below _ _), fun _ => ⟨hbx.size, bk_new _ _ rfl⟩, fun h _ => hPa _ _ (h2 h)⟩
    · rw [ho] at ht
      simp only [Bool.and_eq_true, Option.isNone_iff_eq_none] at ht
      obtain ⟨⟨hd, t1⟩, t2⟩ := ht
      obtain ⟨e1, he1, hb1⟩ := Array.any_eq_true'.1 t1
      obtain ⟨e2, he2, hb2⟩ := Array.any_eq_true'.1 t2
      simp only [Bool.and_eq_true, beq_iff_eq] at hb1 hb2
      have lm := hafter e1 he1 hb1.1
      have lc := hafter e2 he2 hb2.1
      rw [hb1.2] at lm
      rw [hb2.2] at lc
      obtain ⟨p1, p2⟩ := h3 lm
      rw [hL, if_neg (by decide)] at p2
      obtain ⟨x', r1, r2, r3⟩ := hs1 o ho g x hbx p2 (h2 lc)
      refine does_skip r1 ⟨hbx.trans (r2.below _ p1), .inl ⟨hd, ?_⟩⟩
      rw [setL_self, setL_ne n2, setL_ne n3]
      exact ⟨fun _ => ⟨lm, lc⟩, fun _ => hPo _ _ _ _ (h2 lc) (h4 lc lm) r2, fun _ => ⟨p1, by rw [if_pos rfl]; exact r3⟩, h4⟩
  · intro g x ⟨h1, h2, h3, h4⟩ hbx hb0
    exact hend g x (h3 rfl).1 hbx hb0 (h2 rfl) (h4 rfl rfl) (by have := (h3 rfl).2; rwa [if_pos rfl] at this)
end
end Go.Proofs

/-
  DERIVED: THE SHELF's CONTRACTS AT THIS DUMP, IN PLAIN WORDS (tools/lay-plain.mjs out of 'TryzShelf.lean', which tools/lay-shelf.mjs wrote): THE SAME DECLARATIONS UNDER THE SAME NAMES: 'import', 'namespace', 'open', 'def', 'theorem' AND NOTHING ELSE: no command of the shelf's: FOR A HAND-IN. Each laying: the table of numbers ('.._ren') and one theorem, a field a fact of the dump's own or the kernel's comparison; each contract: ONE APPLICATION.
-/
namespace Go.Proofs
open Go.Shelf
def Tryz.lays125_ren : Go.Shelf.Ren := ⟨fun | 125 => 55 | 128 => 91 | 129 => 92 | n => n, fun | 46 => 71 | 3 => 3 | 51 => 109 | 53 => 111 | 4 => 4 | 5 => 5 | 9 => 9 | n => n, fun | n => n⟩
theorem Tryz.lays125 : Go.Proofs.Lays.n125 Tryz.prog Tryz.lays125_ren := {
  mixed := by kernel_rfl
  f125 := Tryz.func55.trans (congrArg some (by kernel_rfl))
  f128 := Tryz.func91.trans (congrArg some (by kernel_rfl))
  f129 := Tryz.func92.trans (congrArg some (by kernel_rfl))
  t3 := Tryz.underlying3
  a3 := Tryz.isAgg3
  z3 := Tryz.sizeOf3
  v3 := Tryz.zeroValue3
  t4 := Tryz.underlying4
  a4 := Tryz.isAgg4
  z4 := Tryz.sizeOf4
  v4 := Tryz.zeroValue4
  t5 := Tryz.underlying5
  a5 := Tryz.isAgg5
  z5 := Tryz.sizeOf5
  v5 := Tryz.zeroValue5
  t9 := Tryz.underlying9
  a9 := Tryz.isAgg9
  z9 := Tryz.sizeOf9
  v9 := Tryz.zeroValue9
  t46 := Tryz.underlying71
  a46 := Tryz.isAgg71
  z46 := Tryz.sizeOf71
  v46 := Tryz.zeroValue71
  t51 := Tryz.underlying109
  a51 := Tryz.isAgg109
  z51 := Tryz.sizeOf109
  v51 := Tryz.zeroValue109
  t53 := Tryz.underlying111
  a53 := Tryz.isAgg111
  z53 := Tryz.sizeOf111
  v53 := Tryz.zeroValue111 }
theorem Tryz.bits_Len (x : Int) (w : World) (h0 : 0 ≤ x) (h1 : x ≤ 18446744073709551615) :
    Calls Tryz.prog 55 #[.int .u64 x] w fun e w' => e = .returned (.int .i64 (Lib.bitLen x.toNat)) ∧ w' = w := Any.bits_Len Tryz.lays125 x w h0 h1
def Tryz.lays189_ren : Go.Shelf.Ren := ⟨fun | 189 => 26 | 125 => 55 | 257 => 54 | 128 => 91 | 129 => 92 | 294 => 82 | 295 => 83 | 296 => 84 | 297 => 85 | 298 => 86 | 299 => 87 | 216 => 88 | 300 => 89 | 301 => 90 | 328 => 100 | 329 => 101 | 330 => 102 | 331 => 103 | 332 => 104 | 215 => 105 | 343 => 107 | n => n, fun | 28 => 28 | 3 => 3 | 46 => 71 | 0 => 0 | 51 => 109 | 53 => 111 | 4 => 4 | 183 => 133 | 182 => 132 | 131 => 137 | 5 => 5 | 9 => 9 | 218 => 143 | 222 => 146 | 228 => 148 | 229 => 149 | n => n, fun | n => n⟩
theorem Tryz.lays189 : Go.Proofs.Lays.n189 Tryz.prog Tryz.lays189_ren := {
  mixed := by kernel_rfl
  f125 := Tryz.func55.trans (congrArg some (by kernel_rfl))
  f128 := Tryz.func91.trans (congrArg some (by kernel_rfl))
  f129 := Tryz.func92.trans (congrArg some (by kernel_rfl))
  f189 := Tryz.func26.trans (congrArg some (by kernel_rfl))
  f215 := Tryz.func105.trans (congrArg some (by kernel_rfl))
  f216 := Tryz.func88.trans (congrArg some (by kernel_rfl))
  f257 := Tryz.func54.trans (congrArg some (by kernel_rfl))
  f294 := Tryz.func82.trans (congrArg some (by kernel_rfl))
  f295 := Tryz.func83.trans (congrArg some (by kernel_rfl))
  f296 := Tryz.func84.trans (congrArg some (by kernel_rfl))
  f297 := Tryz.func85.trans (congrArg some (by kernel_rfl))
  f298 := Tryz.func86.trans (congrArg some (by kernel_rfl))
  f299 := Tryz.func87.trans (congrArg some (by kernel_rfl))
  f300 := Tryz.func89.trans (congrArg some (by kernel_rfl))
  f301 := Tryz.func90.trans (congrArg some (by kernel_rfl))
  f328 := Tryz.func100.trans (congrArg some (by kernel_rfl))
  f329 := Tryz.func101.trans (congrArg some (by kernel_rfl))
  f330 := Tryz.func102.trans (congrArg some (by kernel_rfl))
  f331 := Tryz.func103.trans (congrArg some (by kernel_rfl))
  f332 := Tryz.func104.trans (congrArg some (by kernel_rfl))
  f343 := Tryz.func107.trans (congrArg some (by kernel_rfl))
  t0 := Tryz.underlying0
  a0 := Tryz.isAgg0
  z0 := Tryz.sizeOf0
  v0 := Tryz.zeroValue0
  t3 := Tryz.underlying3
  a3 := Tryz.isAgg3
  z3 := Tryz.sizeOf3
  v3 := Tryz.zeroValue3
  t4 := Tryz.underlying4
  a4 := Tryz.isAgg4
  z4 := Tryz.sizeOf4
  v4 := Tryz.zeroValue4
  t5 := Tryz.underlying5
  a5 := Tryz.isAgg5
  z5 := Tryz.sizeOf5
  v5 := Tryz.zeroValue5
  t9 := Tryz.underlying9
  a9 := Tryz.isAgg9
  z9 := Tryz.sizeOf9
  v9 := Tryz.zeroValue9
  t28 := Tryz.underlying28
  a28 := Tryz.isAgg28
  z28 := Tryz.sizeOf28
  v28 := Tryz.zeroValue28
  t46 := Tryz.underlying71
  a46 := Tryz.isAgg71
  z46 := Tryz.sizeOf71
  v46 := Tryz.zeroValue71
  t51 := Tryz.underlying109
  a51 := Tryz.isAgg109
  z51 := Tryz.sizeOf109
  v51 := Tryz.zeroValue109
  t53 := Tryz.underlying111
  a53 := Tryz.isAgg111
  z53 := Tryz.sizeOf111
  v53 := Tryz.zeroValue111
  t131 := Tryz.underlying137
  a131 := Tryz.isAgg137
  z131 := Tryz.sizeOf137
  v131 := Tryz.zeroValue137
  t182 := Tryz.underlying132
  a182 := Tryz.isAgg132
  z182 := Tryz.sizeOf132
  v182 := Tryz.zeroValue132
  t183 := Tryz.underlying133
  a183 := Tryz.isAgg133
  z183 := Tryz.sizeOf133
  v183 := Tryz.zeroValue133
  t218 := Tryz.underlying143
  a218 := Tryz.isAgg143
  z218 := Tryz.sizeOf143
  v218 := Tryz.zeroValue143
  t222 := Tryz.underlying146
  a222 := Tryz.isAgg146
  z222 := Tryz.sizeOf146
  v222 := Tryz.zeroValue146
  t228 := Tryz.underlying148
  a228 := Tryz.isAgg148
  z228 := Tryz.sizeOf148
  v228 := Tryz.zeroValue148
  t229 := Tryz.underlying149
  a229 := Tryz.isAgg149
  z229 := Tryz.sizeOf149
  v229 := Tryz.zeroValue149 }
open Go.Sort Go.RowKit in
theorem Tryz.slices_Sort_int (blk off cap : Nat) (zs : List Int) (w : World) (hH : Holds (Value.int .i64) w blk off zs.toArray) (hblk : blk < w.heap.size) (hsz : zs.length < 4611686018427387904) :
    Calls Tryz.prog 26 #[.slice (some ⟨blk, off, none⟩) zs.length cap] w fun e w' =>
      e = .returned (.tuple #[]) ∧ ∃ n os, w' = grow (putRow (Value.int .i64) (Sort.ahead w n) blk off (zs.mergeSort fun x y => decide (x ≤ y)).toArray) os := Any.slices_Sort_int Tryz.lays189 blk off cap zs w hH hblk hsz
def Tryz.lays108_ren : Go.Shelf.Ren := ⟨fun | 108 => 29 | n => n, fun | 28 => 28 | 3 => 3 | 0 => 0 | 4 => 4 | n => n, fun | n => n⟩
theorem Tryz.lays108 : Go.Proofs.Lays.n108 Tryz.prog Tryz.lays108_ren := {
  mixed := by kernel_rfl
  f108 := Tryz.func29.trans (congrArg some (by kernel_rfl))
  t0 := Tryz.underlying0
  a0 := Tryz.isAgg0
  z0 := Tryz.sizeOf0
  v0 := Tryz.zeroValue0
  t3 := Tryz.underlying3
  a3 := Tryz.isAgg3
  z3 := Tryz.sizeOf3
  v3 := Tryz.zeroValue3
  t4 := Tryz.underlying4
  a4 := Tryz.isAgg4
  z4 := Tryz.sizeOf4
  v4 := Tryz.zeroValue4
  t28 := Tryz.underlying28
  a28 := Tryz.isAgg28
  z28 := Tryz.sizeOf28
  v28 := Tryz.zeroValue28 }
open Go.Lib in
theorem Tryz.slices_Index_int (b off n c : Nat) (zs : List Int) (x : Int) (w : World) (hz : n ≤ zs.length) (hbig : n ≤ 9223372036854775807) (hc : ∀ j, j < zs.length → w.cell? ⟨b, off + j, none⟩ = some (.int .i64 (zs.getD j 0))) :
    Calls Tryz.prog 29 #[.slice (some ⟨b, off, none⟩) n c, .int .i64 x] w fun e w' => e = .returned (.int .i64 (Lib.idxOf (zs.take n) x)) ∧ w' = w := Any.slices_Index_int Tryz.lays108 b off n c zs x w hz hbig hc
open Go.Lib in
theorem Tryz.slices_Index_int_empty (a : Option Addr) (c : Nat) (x : Int) (w : World) :
    Calls Tryz.prog 29 #[.slice a 0 c, .int .i64 x] w fun e w' => e = .returned (.int .i64 (Lib.idxOf [] x)) ∧ w' = w := Any.slices_Index_int_empty Tryz.lays108 a c x w
def Tryz.lays107_ren : Go.Shelf.Ren := ⟨fun | 107 => 61 | 108 => 29 | n => n, fun | 28 => 28 | 3 => 3 | 4 => 4 | 0 => 0 | n => n, fun | n => n⟩
theorem Tryz.lays107 : Go.Proofs.Lays.n107 Tryz.prog Tryz.lays107_ren := {
  mixed := by kernel_rfl
  f107 := Tryz.func61.trans (congrArg some (by kernel_rfl))
  f108 := Tryz.func29.trans (congrArg some (by kernel_rfl))
  t0 := Tryz.underlying0
  a0 := Tryz.isAgg0
  z0 := Tryz.sizeOf0
  v0 := Tryz.zeroValue0
  t3 := Tryz.underlying3
  a3 := Tryz.isAgg3
  z3 := Tryz.sizeOf3
  v3 := Tryz.zeroValue3
  t4 := Tryz.underlying4
  a4 := Tryz.isAgg4
  z4 := Tryz.sizeOf4
  v4 := Tryz.zeroValue4
  t28 := Tryz.underlying28
  a28 := Tryz.isAgg28
  z28 := Tryz.sizeOf28
  v28 := Tryz.zeroValue28 }
open Go.Lib in
theorem Tryz.slices_Contains_int (b off n c : Nat) (zs : List Int) (x : Int) (w : World) (hz : n ≤ zs.length) (hbig : n ≤ 9223372036854775807) (hc : ∀ j, j < zs.length → w.cell? ⟨b, off + j, none⟩ = some (.int .i64 (zs.getD j 0))) :
    Calls Tryz.prog 61 #[.slice (some ⟨b, off, none⟩) n c, .int .i64 x] w fun e w' => e = .returned (.bool ((zs.take n).contains x)) ∧ w' = w := Any.slices_Contains_int Tryz.lays107 b off n c zs x w hz hbig hc
open Go.Lib in
theorem Tryz.slices_Contains_int_empty (a : Option Addr) (c : Nat) (x : Int) (w : World) :
    Calls Tryz.prog 61 #[.slice a 0 c, .int .i64 x] w fun e w' => e = .returned (.bool false) ∧ w' = w := Any.slices_Contains_int_empty Tryz.lays107 a c x w
def Tryz.laysNm220_ren : Go.Shelf.Ren := ⟨fun | 20 => 27 | n => n, fun | 22 => 28 | 3 => 3 | 4 => 4 | 0 => 0 | n => n, fun | n => n⟩
theorem Tryz.laysNm220 : Go.Proofs.Lays2.n20 Tryz.prog Tryz.laysNm220_ren := {
  mixed := by kernel_rfl
  f20 := Tryz.func27.trans (congrArg some (by kernel_rfl))
  t0 := Tryz.underlying0
  a0 := Tryz.isAgg0
  z0 := Tryz.sizeOf0
  v0 := Tryz.zeroValue0
  t3 := Tryz.underlying3
  a3 := Tryz.isAgg3
  z3 := Tryz.sizeOf3
  v3 := Tryz.zeroValue3
  t4 := Tryz.underlying4
  a4 := Tryz.isAgg4
  z4 := Tryz.sizeOf4
  v4 := Tryz.zeroValue4
  t22 := Tryz.underlying28
  a22 := Tryz.isAgg28
  z22 := Tryz.sizeOf28
  v22 := Tryz.zeroValue28
  i3 := by kernel_rfl }
open Go.RowKit Go.Lib Go.Sort in
theorem Tryz.slices_Compact_int_empty (a : Option Addr) (cap : Nat) (w : World) :
    Calls Tryz.prog 27 #[.slice a 0 cap] w fun e w' => e = .returned (.slice a 0 cap) ∧ w' = w := Any.slices_Compact_int_empty Tryz.laysNm220 a cap w
open Go.RowKit Go.Lib Go.Sort in
theorem Tryz.slices_Compact_int_cells (b off n c : Nat) (zs : List Int) (w : World) (hz : n ≤ zs.length) (hbig : n ≤ 9223372036854775807) (hcap : n ≤ c) (hc : ∀ j, j < zs.length → w.cell? ⟨b, off + j, none⟩ = some (.int .i64 (zs.getD j 0))) (hf : ∀ j, j < n → w.frozen? ⟨b, off + j, none⟩ = false) :
    Calls Tryz.prog 27 #[.slice (some ⟨b, off, none⟩) n c] w fun e w' => e = .returned (.slice (some ⟨b, off, none⟩) (Lib.compact (zs.take n)).length c) ∧ ∃ q, w' = (w.drewN q).setCells b off ((Lib.compact (zs.take n) ++ List.replicate (n - (Lib.compact (zs.take n)).length) 0).map (Value.int .i64)) := Any.slices_Compact_int_cells Tryz.laysNm220 b off n c zs w hz hbig hcap hc hf
open Go.RowKit Go.Sort in
theorem Tryz.slices_Sort_int_none (p : Option Addr) (cap : Nat) (w : World) :
    Calls Tryz.prog 26 #[.slice p 0 cap] w fun e w' => e = .returned (.tuple #[]) ∧ w' = w := Any.slices_Sort_int_none Tryz.lays189 p cap w
end Go.Proofs
