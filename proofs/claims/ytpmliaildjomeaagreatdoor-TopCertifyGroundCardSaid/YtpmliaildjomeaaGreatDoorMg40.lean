import Derived.Test.YtpmliaildjomeaaGreatDoorMg39
import Derived.Test.YtpmliaildjomeaaGreatDoorMg30
import Derived.Test.YtpmliaildjomeaaGreatDoorMg38
set_option linter.unusedSimpArgs false
set_option linter.unusedVariables false
namespace Go.Proofs
open Go.RowKit
set_option linter.unusedVariables false
/-! TopCertifyGround: the callees as the main walk meets them. -/
structure Cert (ps : List Pa) (es : List En) (k ag v den lev : Int) (W : List Int) : Prop where
  wr : WeightR es.length den lev W
  vr : 0 ≤ v ∧ v ≤ 1000
  lv : ∀ i, i < ps.length → lev ≤ (worthL ps k ag).getD i 0 * den + putsL (exs es) W i
  bd : v * den ≤ perK k (lev - spentL (exs es) W)
  st : standsB ps.length (exs es) (worthL ps k ag) k v = true
theorem cert_of {ps : List Pa} {es : List En} (hB : BookR ps es) (h4 : ps.length ≤ 4) {k ag : Int} (hk : k = 0 ∨ k = 1) {m : List Int} {d : Int} {p : Prf} (h : solvedL ps.length (exs es) (worthL ps k ag) = some (m, d, p)) :
    Cert ps es k ag (issLev k (dotL (worthL ps k ag) m) d) p.den p.lev p.W := by
  have hv := iss_val hB hk h
  have hD := dual_of hB.right hB.n1 hB.n5 (worthL_len _ _ _) h
  refine ⟨small_of hB.right hB.n1 h4 (worthL_len _ _ _) (hB.worths k ag) h, ⟨hv.1, hv.2.1⟩, fun i hi => hD.lev i (by rw [worthL_len]; exact hi), hv.2.2.1, ?_⟩
  unfold standsB
  rw [h]
  dsimp only
  rw [lessB_iff.2 hv.2.2.2]
  rfl
theorem bookT_sig {ps : List Pa} {es es2 : List En} (h : es2.map En.sig = es.map En.sig) : bookT ps es2 = bookT ps es := by
  have : ∀ l : List En, l.flatMap lineE = (l.map En.sig).flatMap fun s => Lib.join (txEntry :: s.1.data.toList :: Lib.itoa s.2.2 :: s.2.1.map Lib.itoa) [32] ++ [10] := fun l => by
    rw [List.flatMap_map]
    rfl
  unfold bookT
  rw [this, this, h]
theorem FewB.sig {ps : List Pa} {es es2 : List En} (hF : FewB ps es) (h : es2.map En.sig = es.map En.sig) : FewB ps es2 := by
  have hl : es2.length = es.length := by have := congrArg List.length h; simpa using this
  have hx : ∀ x ∈ es2, ∃ y ∈ es, y.sig = x.sig := fun x hx => by
    have : x.sig ∈ es.map En.sig := by rw [← h]; exact List.mem_map_of_mem hx
    obtain ⟨y, hy, e⟩ := List.mem_map.1 this
    exact ⟨y, hy, e⟩
  refine ⟨hF.p, by rw [hl]; exact hF.e, hF.pn, fun x hx' => ?_, fun x hx' => ?_⟩
  · obtain ⟨y, hy, e⟩ := hx x hx'
    have := hF.en y hy
    have e1 : y.nm = x.nm := congrArg (·.1) e
    rwa [e1] at this
  · obtain ⟨y, hy, e⟩ := hx x hx'
    have := hF.co y hy
    have e1 : y.co = x.co := congrArg (·.2.1) e
    rwa [e1] at this
/-- A book that is a copy of another one. -/
structure CopyAt (w : World) (A : Option Addr) (c : Nat) (ps : List Pa) (A2 : Option Addr) (c2 : Nat) (es es2 : List En) : Prop where
  at_ : BookAt w A c ps A2 c2 es2
  sig : es2.map En.sig = es.map En.sig
  nil : A = none → c = 0
theorem CopyAt.below {w w' : World} {A A2 : Option Addr} {c c2 : Nat} {ps : List Pa} {es es2 : List En} (h : CopyAt w A c ps A2 c2 es es2) (hb : Below w.heap.size w w') : CopyAt w' A c ps A2 c2 es es2 := ⟨h.at_.below hb, h.sig, h.nil⟩
theorem CopyAt.len {w : World} {A A2 : Option Addr} {c c2 : Nat} {ps : List Pa} {es es2 : List En} (h : CopyAt w A c ps A2 c2 es es2) : es2.length = es.length := by have := congrArg List.length h.sig; simpa using this
theorem c_copy (pA eA : Option Addr) (pc ec pn en : Nat) (ps : List Pa) (es : List En) (w : World) (hB : BookAt w pA pc ps eA ec es) (hF : FewB ps es) (hpn : ps.length = pn) (hen : es.length = en) (he9 : en ≤ 900) :
    Calls Tryz.prog 9 #[.agg #[.slice pA pn pc, .slice eA en ec]] w fun e w' => (∃ A c A2 c2 es2, e = .returned (.agg #[.slice A pn c, .slice A2 en c2]) ∧ CopyAt w' A c ps A2 c2 es es2) ∧ Below w.heap.size w w' := by
  refine (refCopy_any pA eA pc ec pn en ps es w hB hF hpn hen he9).mono ?_
  rintro e w' ⟨⟨A, c, A2, c2, es2, rfl, hl, hs, hO, hE⟩, hb⟩
  refine ⟨⟨A, c, A2, c2, es2, rfl, ⟨?_, hs, own_nil hO⟩⟩, hb⟩
  have hE1 := hE.own
  rw [hl] at hE1
  have hcc := own_le2 hE1
  obtain ⟨A', c', e', h1⟩ := at_of_owns (cs := Pa.cs) (sz := 5) (fun _ => rfl) (by rw [hpn]; exact hO)
  cases e'
  exact ⟨h1, hE.ensAt, by rw [hpn]; exact own_le2 hO, by omega, fun x hx => (hE.row x hx).2.1⟩
theorem Cert.sig {ps : List Pa} {es es2 : List En} {k ag v den lev : Int} {W : List Int} (h : Cert ps es k ag v den lev W) (hs : es2.map En.sig = es.map En.sig) : Cert ps es2 k ag v den lev W := by
  have hl : es2.length = es.length := by have := congrArg List.length hs; simpa using this
  have hx := exs_sig hs
  exact ⟨by rw [hl]; exact h.wr, h.vr, by rw [hx]; exact h.lv, by rw [hx]; exact h.bd, by rw [hx]; exact h.st⟩
theorem Cert.check {ps : List Pa} {es : List En} {k ag v den lev : Int} {W : List Int} (h : Cert ps es k ag v den lev W) (hB : BookR ps es) (ha : askE k ag = 0) {s : ByteArray} (hs : nameB s.data.toList = true) : checkE ps es s k ag v den lev W = 0 := checkE_zero hB hs ha h.vr h.wr h.lv h.bd
theorem Cert.nums {ps : List Pa} {es : List En} {k ag v den lev : Int} {W : List Int} (h : Cert ps es k ag v den lev W) (ha : askE k ag = 0) (h8 : es.length ≤ 8) : NumsR ag v den lev W := by
  have h1 := h.wr
  obtain ⟨-, a1, a2⟩ := askE_zero.1 ha
  exact ⟨⟨a1, a2⟩, h.vr, ⟨h1.d1, h1.dK⟩, h1.lK, h1.w, by rw [h1.len]; exact h8⟩
def oldS : List UInt8 := [111, 108, 100]
theorem oldS_name : nameB oldS = true := by decide +kernel
theorem c_issue (A A2 : Option Addr) (c c2 pn en : Nat) (ps : List Pa) (es es2 : List En) (k ag : Int) (w : World) (hB : CopyAt w A c ps A2 c2 es es2) (hF : FewB ps es) (hR : BookR ps es) (ha : askE k ag = 0) (hpn : ps.length = pn) (hen : es.length = en) :
    Calls Tryz.prog 8 #[.agg #[.slice A pn c, .slice A2 en c2], .agg #[.int .i64 k, .int .i64 ag], .string (bs oldS)] w fun e w' => (match solvedL ps.length (exs es) (worthL ps k ag) with
      | none => e = .returned (.tuple #[ceNone, .int .i64 12])
      | some (m, d, p) => ∃ A c, e = .returned (.tuple #[.agg #[.string (bs oldS), .int .i64 k, .int .i64 ag, .int .i64 (issLev k (dotL (worthL ps k ag) m) d), .int .i64 p.den, .int .i64 p.lev, .slice A en c], .int .i64 0]) ∧ w'.ownsRow w.heap.size 3 1 (.slice A en c) en (p.W.map (Value.int .i64))) ∧ Below w.heap.size w w' := by
  have hl := hB.len
  have hR2 := hR.sig hB.sig
  refine (issue_any A A2 c c2 pn en ps es2 k ag (bs oldS) w hB.at_ (hF.sig hB.sig) hpn (by rw [hl, hen]) (by decide +kernel)).mono ?_
  rintro e w' ⟨h, hb⟩
  refine ⟨?_, hb⟩
  unfold IssGot at h
  rw [bs_data, oldS_name, if_neg (by simp), bothE_zero.2 ⟨hR2, ha⟩, if_neg (by simp), exs_sig hB.sig, hl, hen] at h
  exact h
theorem c_parse (k ag v den lev : Int) (W : List Int) (wn : Nat) (w : World) (hk : (k = 0 ∧ ag = 0) ∨ k = 1) (hR : NumsR ag v den lev W) (hwn : W.length = wn) (ht : Tabs w) :
    Calls Tryz.prog 10 #[.string (bs (Lib.join (certW oldS k ag v den lev W) [32]))] w fun e w' => (∃ A c, e = .returned (.tuple #[.agg #[.string (bs oldS), .int .i64 k, .int .i64 ag, .int .i64 v, .int .i64 den, .int .i64 lev, .slice A wn c], .int .i64 0]) ∧ At 1 Zc w' A W) ∧ Below w.heap.size w w' := by
  rcases hk with ⟨rfl, rfl⟩ | rfl
  · exact parseMean_any oldS v den lev W wn w (by decide) oldS_name hR hwn ht
  · exact parseShare_any oldS ag v den lev W wn w (by decide) oldS_name hR hwn ht
theorem c_print (A A2 : Option Addr) (c c2 pn en : Nat) (ps : List Pa) (es es2 : List En) (w : World) (hB : CopyAt w A c ps A2 c2 es es2) (hF : FewB ps es) (hR : BookR ps es) (hpn : ps.length = pn) (hen : es.length = en) (ht : Tabs w) :
    Calls Tryz.prog 13 #[.agg #[.slice A pn c, .slice A2 en c2]] w fun e w' => e = .returned (.tuple #[.string (bs (bookT ps es)), .int .i64 0]) ∧ Below w.heap.size w w' := by
  have := print_any A A2 c c2 pn en ps es2 w hB.at_ (hF.sig hB.sig) (hR.sig hB.sig) hpn (by rw [hB.len, hen]) ht
  rwa [bookT_sig hB.sig] at this
theorem c_read (pn en : Nat) (ps : List Pa) (es : List En) (w : World) (hR : BookR ps es) (hpn : ps.length = pn) (hen : es.length = en) (ht : Tabs w) :
    Calls Tryz.prog 15 #[.string (bs (bookT ps es))] w fun e w' => (∃ A c A2 c2 ys, e = .returned (.tuple #[.agg #[.slice A pn c, .slice A2 en c2], .int .i64 0, .int .i64 0]) ∧ CopyAt w' A c ps A2 c2 es ys) ∧ Below w.heap.size w w' := by
  refine (parse_any ps es w hR ht).mono ?_
  rintro e w' ⟨⟨A, c, A2, c2, ys, rfl, hl, hs, hB, hn⟩, hb⟩
  rw [hpn, hen]
  exact ⟨⟨A, c, A2, c2, ys, rfl, ⟨hB, hs, hn⟩⟩, hb⟩
theorem c_same (A A2 pA eA : Option Addr) (c c2 pc ec pn en : Nat) (ps : List Pa) (es ys : List En) (w : World) (hB : CopyAt w A c ps A2 c2 es ys) (hB0 : BookAt w pA pc ps eA ec es) (hF : FewB ps es) (hpn : ps.length = pn) (hen : es.length = en) :
    Calls Tryz.prog 16 #[.agg #[.slice A pn c, .slice A2 en c2], .agg #[.slice pA pn pc, .slice eA en ec]] w fun e w' => e = .returned (.bool true) ∧ Below w.heap.size w w' :=
  refSame_any A A2 pA eA c c2 pc ec pn en ps ys es w hB.at_ hB0 hB.sig.symm (hF.sig hB.sig) hpn (by rw [hB.len, hen])
theorem hangsV_eq (W : List Int) (n : Nat) : hangsV W n = (natZ (hangsK W n)).map (Value.int .i64) := by
  unfold hangsV natZ
  rw [List.map_map]
  rfl
theorem c_hangs (A A2 C : Option Addr) (c c2 cc pn en : Nat) (ps : List Pa) (es ys : List En) (k ag v den lev : Int) (W : List Int) (w : World) (hB : CopyAt w A c ps A2 c2 es ys) (hF : FewB ps es) (hR : BookR ps es) (ha : askE k ag = 0) (hC : Cert ps es k ag v den lev W) (hW : At 1 Zc w C W) (hpn : ps.length = pn) (hen : es.length = en) :
    Calls Tryz.prog 17 #[.agg #[.slice A pn c, .slice A2 en c2], .agg #[.string (bs oldS), .int .i64 k, .int .i64 ag, .int .i64 v, .int .i64 den, .int .i64 lev, .slice C en cc]] w fun e w' => (∃ A3 c3, e = .returned (.tuple #[.slice A3 (hangsK W en).length c3, .int .i64 0]) ∧ w'.ownsRow w.heap.size 3 1 (.slice A3 (hangsK W en).length c3) (hangsK W en).length ((natZ (hangsK W en)).map (Value.int .i64))) ∧ Below w.heap.size w w' := by
  have hWn : W.length = en := by rw [hC.wr.len, hen]
  have hR2 := hR.sig hB.sig
  have he8 : en ≤ 8 := by rw [← hen]; exact hR.e8
  refine (hangsOn_any A A2 C c c2 pn en cc en ps ys (bs oldS) k ag v den lev W w hB.at_ (hF.sig hB.sig) hpn (by rw [hB.len, hen]) (by decide +kernel) hW hWn (by omega)).mono ?_
  rintro e w' ⟨h, hb⟩
  unfold HangsGot at h
  rw [(hC.sig hB.sig).check hR2 ha (by rw [bs_data]; exact oldS_name), if_neg (by simp), hWn, hangsV_eq] at h
  exact ⟨h, hb⟩
theorem c_ground (A A2 : Option Addr) (c c2 pn en : Nat) (ps : List Pa) (es es2 : List En) (k ag v den lev : Int) (W : List Int) (w : World) (hB : CopyAt w A c ps A2 c2 es es2) (hF : FewB ps es) (hR : BookR ps es) (ha : askE k ag = 0) (hC : Cert ps es k ag v den lev W) (hpn : ps.length = pn) (hen : es.length = en) :
    Calls Tryz.prog 22 #[.agg #[.slice A pn c, .slice A2 en c2], .agg #[.int .i64 k, .int .i64 ag], .int .i64 v] w fun e w' => (∃ A3 n c3, e = .returned (.tuple #[.slice A3 n c3, .int .i64 0]) ∧ n ≤ (hangsK W en).length) ∧ Below w.heap.size w w' := by
  have hC2 := hC.sig hB.sig
  have hR2 := hR.sig hB.sig
  obtain ⟨S, hS, hSl⟩ := ground_le hR2 hC2.wr hC2.lv hC2.bd
  have hen2 : es2.length = en := by rw [hB.len, hen]
  refine (ground_any A A2 c c2 pn en ps es2 k ag v S w hB.at_ (hF.sig hB.sig) hR2 hpn hen2 ha hC.vr (by rw [← hpn]; exact hC2.st) (by rw [← hpn, ← hen2]; exact hS)).mono ?_
  rintro e w' ⟨⟨A3, c3, rfl⟩, hb⟩
  exact ⟨⟨A3, _, c3, rfl, by rw [hC2.wr.len, hen2] at hSl; exact hSl⟩, hb⟩
theorem pickL_sig {es es2 : List En} (h : es2.map En.sig = es.map En.sig) (S : List Nat) : (pickL es2 S).map En.sig = (pickL es S).map En.sig := by
  have : ∀ l : List En, (pickL l S).map En.sig = S.filterMap fun i => (l.map En.sig)[i]? := fun l => by
    unfold pickL
    rw [List.map_filterMap]
    congr 1
    funext i
    rw [List.getElem?_map]
  rw [this, this, h]
theorem c_only (A A2 sA : Option Addr) (c c2 pn en sc sn : Nat) (ps : List Pa) (es es2 : List En) (S : List Nat) (w : World) (hB : CopyAt w A c ps A2 c2 es es2) (hF : FewB ps es) (hR : BookR ps es) (hpn : ps.length = pn) (hen : es.length = en) (hS : At 1 Zc w sA (natZ S)) (hSn : S.length = sn) (hasc : Asc 0 en S) :
    Calls Tryz.prog 19 #[.agg #[.slice A pn c, .slice A2 en c2], .slice sA sn sc] w fun e w' => (∃ A3 c3 A4 c4 es3, e = .returned (.tuple #[.agg #[.slice A3 pn c3, .slice A4 sn c4], .int .i64 0]) ∧ es3.length = sn ∧ es3.map En.sig = (pickL es S).map En.sig ∧ BookAt w' A3 c3 ps A4 c4 es3) ∧ Below w.heap.size w w' := by
  refine (onlyOk_any A A2 sA c c2 pn en sc sn ps es2 S w hB.at_ (hF.sig hB.sig) (hR.sig hB.sig) hpn (by rw [hB.len, hen]) hB.nil hS hSn hasc).mono ?_
  rintro e w' ⟨⟨A3, c3, A4, c4, es3, rfl, hl, hs, hB3, -⟩, hb⟩
  exact ⟨⟨A3, c3, A4, c4, es3, rfl, hl, hs.trans (pickL_sig hB.sig S), hB3⟩, hb⟩
theorem c_alone (A A2 C : Option Addr) (c c2 cc pn en sn : Nat) (ps : List Pa) (es es3 : List En) (k ag v den lev : Int) (W : List Int) (w : World) (hB : BookAt w A c ps A2 c2 es3) (h3 : es3.map En.sig = (pickL es (hangsK W en)).map En.sig) (hl3 : es3.length = sn) (hF : FewB ps es) (hR : BookR ps es) (ha : askE k ag = 0) (hC : Cert ps es k ag v den lev W) (hW : At 1 Zc w C ((hangsK W en).map fun i => W.getD i 0)) (hpn : ps.length = pn) (hen : es.length = en) (hsn : (hangsK W en).length = sn) :
    Calls Tryz.prog 21 #[.agg #[.slice A pn c, .slice A2 sn c2], .agg #[.string (bs oldS), .int .i64 k, .int .i64 ag, .int .i64 v, .int .i64 den, .int .i64 lev, .slice C sn cc]] w fun e w' => e = .returned (.int .i64 0) ∧ Below w.heap.size w w' := by
  have hWn : W.length = en := by rw [hC.wr.len, hen]
  obtain ⟨hR3, hz⟩ := alone_right hR (s := bs oldS) (by rw [bs_data]; exact oldS_name) ha hC.vr hC.wr hC.lv hC.bd (es2 := es3) (by rw [hWn]; exact h3)
  rw [hWn] at hz
  have hsn8 : sn ≤ 8 := by rw [← hl3]; exact hR3.e8
  have hF3 : FewB ps es3 := by
    have h4 : FewB ps (pickL es (hangsK W en)) := ⟨hF.p, by have := congrArg List.length h3; simp at this; omega, hF.pn, fun x hx => hF.en x (pickL_mem hx), fun x hx => hF.co x (pickL_mem hx)⟩
    exact h4.sig h3
  have := checkCert_any A A2 C c c2 pn sn cc sn ps es3 (bs oldS) k ag v den lev _ w hB hF3 hpn hl3 (by decide +kernel) hW (by rw [List.length_map]; exact hsn) (by omega)
  rwa [hz] at this
end Go.Proofs

set_option linter.unusedSimpArgs false
set_option linter.unusedVariables false
namespace Go.Proofs
open Go.RowKit
set_option linter.unusedVariables false
section
variable {P : Program}
/-! Drawn regions in which a call hands back memory and a second call takes it. -/
theorem any_cc {Q : Exit → Act → World → Prop} {a0 : Act} {w : World} {l : List Oper} (w0 : World) (c q : Nat) (mk : Nat → Gh → Value) (R1 R2 : Gh → World → Prop) (af : (Nat → Gh) → Act)
    (hB : slotsOk l.toArray = true) (hB' : ∀ g, slotsOk (mixL [c, q] mk g 0 l).toArray = true) (hS : Region.noSelect l.toArray = true) (hN : spB l.toArray [c, q] = true) (hne : c ≠ q)
    (hd : ∀ L : Nat → Bool, ∀ o, l[q]? = some o → (∀ e ∈ o.after, Region.binds .any e = true → L e.on = true) → L c = true)
    (hw : Below w0.heap.size w0 w) (hR1 : ∀ h x x', R1 h x → Below x.heap.size x x' → R1 h x') (hR2 : ∀ h x x', R2 h x → Below x.heap.size x x' → R2 h x')
    (hc : ∀ o, l[c]? = some o → ∀ (g : Nat → Gh) (x : World), Below w.heap.size w x → Does P (fun v x' => Below x.heap.size x x' ∧ ∃ h, v = mk c h ∧ R1 h x') ((execOp (af g).eval o).run P x))
    (hqq : ∀ o, l[q]? = some o → ∀ (g : Nat → Gh) (x : World), Below w.heap.size w x → R1 (g c) x → Does P (fun v x' => Below x.heap.size x x' ∧ ∃ h, v = mk q h ∧ R2 h x') ((execOp (af g).eval o).run P x))
    (hq : ∀ g u, Below w.heap.size w u → (∀ (x : Grew u) (b o : Nat), b < u.heap.size → x.val.cell? ⟨b, o, none⟩ = u.cell? ⟨b, o, none⟩) → Hid (∀ x : Grew u, Below w0.heap.size w0 x.val) → Hid (∀ x : Grew u, Below w.heap.size w x.val) →
      wpQuiet P (mixL [c, q] mk g 0 l).toArray (fun w' => ∃ x : Grew u, w' = x.val) (fun a' => a' = af g) (mixL [c, q] mk g 0 l) a0)
    (hind : ∀ j ∈ [c, q], ∀ g h, maskL (coneS l.toArray j 0 l []) 0 (af g).tmps.toList = maskL (coneS l.toArray j 0 l []) 0 (af (upd g j h)).tmps.toList)
    (hend : ∀ (g : Nat → Gh) (x : World), Below w.heap.size w x → Below w0.heap.size w0 x → R2 (g q) x → Q .normal (af g) x) :
    wpAny P .any l.toArray Q l.toArray.size (Array.replicate l.toArray.size false) a0 { w with drawn := w.drawn + 1 } := by
  refine any_mixC w0 (fun y => Below w.heap.size w y) [c, q] mk (fun L g x => (L c = true → R1 (g c) x) ∧ (L q = true → R2 (g q) x)) af hB hB' hS hN (Below.refl _ _) (fun x x' h hb => h.trans (hb.mono h.size)) (fun x h => via hw h) ?_ ?_ hq hind ?_ ?_
  · intro L h
    rw [h c (by simp), h q (by simp)]
    exact ⟨(fun h => by cases h), fun h => by cases h⟩
  · rintro L L' g x x' h ⟨j0, j1⟩ hb
    rw [h c (by simp), h q (by simp)]
    exact ⟨fun h => hR1 _ _ _ (j0 h) hb, fun h => hR2 _ _ _ (j1 h) hb⟩
  · intro j hj o ho L g x ⟨j0, j1⟩ hC hb0 hL hafter hclo
    simp only [List.mem_cons, List.not_mem_nil, or_false] at hj
    rcases hj with rfl | rfl
    · refine does_mono (hc o ho g x hC) ?_
      rintro v x' ⟨hb, h, rfl, hr⟩
      refine ⟨hC.trans (hb.mono hC.size), .inr ⟨h, rfl, ?_, ?_⟩⟩
      · rw [upd_self]
        exact fun _ => hr
      · rw [setL_ne (Ne.symm hne), upd_ne (Ne.symm hne)]
        exact fun h => hR2 _ _ _ (j1 h) hb
    · have lc := hd L o ho hafter
      refine does_mono (hqq o ho g x hC (j0 lc)) ?_
      rintro v x' ⟨hb, h, rfl, hr⟩
      refine ⟨hC.trans (hb.mono hC.size), .inr ⟨h, rfl, ?_, ?_⟩⟩
      · rw [upd_ne hne]
        exact fun _ => hR1 _ _ _ (j0 lc) hb
      · rw [upd_self]
        exact fun _ => hr
  · rintro g x ⟨-, j1⟩ hC hb0
    exact hend g x hC hb0 (j1 rfl)
/-- The same, with a block of its own into which the answer is stored. -/
theorem any_ccs {Q : Exit → Act → World → Prop} {a0 : Act} {w : World} {l : List Oper} (w0 : World) (c q m k : Nat) (mk : Nat → Gh → Value) (R1 : Gh → World → Prop) (e : TypeId) (n : Nat) (vs : List Value) (z : Obj) (zO : Gh → Obj) (af : (Nat → Gh) → Act)
    (hB : slotsOk l.toArray = true) (hB' : ∀ g, slotsOk (mixL [c, q, m, k] mk g 0 l).toArray = true) (hS : Region.noSelect l.toArray = true) (hN : spB l.toArray [c, q, m, k] = true) (hne : [c, q, m, k].Nodup)
    (hd : ∀ L : Nat → Bool, ∀ o, l[q]? = some o → (∀ e ∈ o.after, Region.binds .any e = true → L e.on = true) → L c = true)
    (hD : depB l [k] (fun _ => [q, m]) = true) (hkd : ∀ o, l[k]? = some o → o.dst = none)
    (hm : ∀ h, mk m h = .pointer (some ⟨h.b, 0, none⟩))
    (hw : Below w0.heap.size w0 w) (hR1 : ∀ h x x', R1 h x → Below x.heap.size x x' → R1 h x')
    (hc : ∀ o, l[c]? = some o → ∀ (g : Nat → Gh) (x : World), Below w.heap.size w x → Does P (fun v x' => Below x.heap.size x x' ∧ ∃ h, v = mk c h ∧ R1 h x') ((execOp (af g).eval o).run P x))
    (hqq : ∀ o, l[q]? = some o → ∀ (g : Nat → Gh) (x : World), Below w.heap.size w x → R1 (g c) x → Does P (fun v x' => Below x.heap.size x x' ∧ ∃ h, v = mk q h ∧ x'.ownsRow x.heap.size e 1 (.slice h.a1 n h.c1) n vs) ((execOp (af g).eval o).run P x))
    (hal : ∀ o, l[m]? = some o → ∀ (a : Act) (x : World), (execOp a.eval o).run P x = .ok (.value (.pointer (some ⟨x.heap.size, 0, none⟩))) (x.alloc z))
    (hst : ∀ o, l[k]? = some o → ∀ (g : Nat → Gh) (x : World), Below w.heap.size w x → x.heap[(g m).b]? = some z → ∃ x', (execOp (af g).eval o).run P x = .ok .skip x' ∧ OnlyB (g m).b x x' ∧ x.heap.size = x'.heap.size ∧ x'.heap[(g m).b]? = some (zO (g q)))
    (hq : ∀ g u, Below w.heap.size w u → (∀ (x : Grew u) (b o : Nat), b < u.heap.size → x.val.cell? ⟨b, o, none⟩ = u.cell? ⟨b, o, none⟩) → Hid (∀ x : Grew u, Below w0.heap.size w0 x.val) → Hid (∀ x : Grew u, Below w.heap.size w x.val) →
      wpQuiet P (mixL [c, q, m, k] mk g 0 l).toArray (fun w' => ∃ x : Grew u, w' = x.val) (fun a' => a' = af g) (mixL [c, q, m, k] mk g 0 l) a0)
    (hind : ∀ j ∈ [c, q, m, k], ∀ g h, maskL (coneS l.toArray j 0 l []) 0 (af g).tmps.toList = maskL (coneS l.toArray j 0 l []) 0 (af (upd g j h)).tmps.toList)
    (hend : ∀ (g : Nat → Gh) (x : World), Below w.heap.size w x → Below w0.heap.size w0 x → w.heap.size ≤ (g m).b → x.heap[(g m).b]? = some (zO (g q)) → x.ownsRow w.heap.size e 1 (.slice (g q).a1 n (g q).c1) n vs → (∀ r, (Value.slice (g q).a1 n (g q).c1).ownBlock = some r → r ≠ (g m).b) → Q .normal (af g) x) :
    wpAny P .any l.toArray Q l.toArray.size (Array.replicate l.toArray.size false) a0 { w with drawn := w.drawn + 1 } := by
  simp only [List.nodup_cons, List.mem_cons, List.not_mem_nil, or_false, not_or, List.nodup_nil, and_true, not_false_eq_true] at hne
  obtain ⟨⟨n1, n2, n3⟩, ⟨n4, n5⟩, n6⟩ := hne
  refine any_mixC w0 (fun y => Below w.heap.size w y) [c, q, m, k] mk (fun L g x => (L k = true → L q = true ∧ L m = true) ∧ (L c = true → L k = false → R1 (g c) x) ∧ (L q = true → x.ownsRow w.heap.size e 1 (.slice (g q).a1 n (g q).c1) n vs) ∧
      (L m = true → w.heap.size ≤ (g m).b ∧ (g m).b < x.heap.size) ∧ (L m = true → L k = false → x.heap[(g m).b]? = some z) ∧ (L k = true → x.heap[(g m).b]? = some (zO (g q))) ∧ (L q = true → L m = true → ∀ r, (Value.slice (g q).a1 n (g q).c1).ownBlock = some r → r ≠ (g m).b)) af hB hB' hS hN (Below.refl _ _) (fun x x' h hb => h.trans (hb.mono h.size)) (fun x h => via hw h) ?_ ?_ hq hind ?_ ?_
  · intro L h
    rw [h c (by simp), h q (by simp), h m (by simp), h k (by simp)]
    refine ⟨?_, ?_, ?_, ?_, ?_, ?_, ?_⟩ <;> (intro h; cases h)
  · rintro L L' g x x' h ⟨j0, j1, j2, j3, j4, j5, j6⟩ hb
    rw [h c (by simp), h q (by simp), h m (by simp), h k (by simp)]
    exact ⟨j0, fun h h2 => hR1 _ _ _ (j1 h h2) hb, fun h => owns_below (j2 h) hb, fun h => ⟨(j3 h).1, Nat.lt_of_lt_of_le (j3 h).2 hb.size⟩, fun h h2 => bk_keep hb (j4 h h2), fun h => bk_keep hb (j5 h), j6⟩
  · intro j hj o ho L g x ⟨j0, j1, j2, j3, j4, j5, j6⟩ hC hb0 hL hafter hclo
    simp only [List.mem_cons, List.not_mem_nil, or_false] at hj
    rcases hj with rfl | rfl | rfl | rfl
    · refine does_mono (hc o ho g x hC) ?_
      rintro v x' ⟨hb, h, rfl, hr⟩
      refine ⟨hC.trans (hb.mono hC.size), .inr ⟨h, rfl, ?_⟩⟩
      rw [upd_self, upd_ne (Ne.symm n1), upd_ne (Ne.symm n2), setL_self, setL_ne (Ne.symm n1), setL_ne (Ne.symm n2), setL_ne (Ne.symm n3)]
      exact ⟨j0, fun _ _ => hr, fun h => owns_below (j2 h) hb, fun h => ⟨(j3 h).1, Nat.lt_of_lt_of_le (j3 h).2 hb.size⟩, fun h h2 => bk_keep hb (j4 h h2), fun h => bk_keep hb (j5 h), j6⟩
    · have lc := hd L o ho hafter
      have lk : L k = false := by
        cases hh : L k with
        | false => rfl
        | true => rw [(j0 hh).1] at hL; cases hL
      refine does_mono (hqq o ho g x hC (j1 lc lk)) ?_
      rintro v x' ⟨hb, h, rfl, hr⟩
      refine ⟨hC.trans (hb.mono hC.size), .inr ⟨h, rfl, ?_⟩⟩
      rw [upd_self, upd_ne n1, upd_ne (Ne.symm n4), setL_self, setL_ne n1, setL_ne (Ne.symm n4), setL_ne (Ne.symm n5), lk]
      refine ⟨(fun h => by cases h), fun h h2 => hR1 _ _ _ (j1 h lk) hb, fun _ => owns_base hr hC.size, fun h => ⟨(j3 h).1, Nat.lt_of_lt_of_le (j3 h).2 hb.size⟩, fun h h2 => bk_keep hb (j4 h lk), (fun h => by cases h), fun _ h r e => ?_⟩
      have := (hr.lt r e).1
      have := (j3 h).2
      omega
    · have lk : L k = false := by
        cases hh : L k with
        | false => rfl
        | true => rw [(j0 hh).2] at hL; cases hL
      refine does_value (hal o ho _ x) ⟨hC.trans ((new_below _ _).mono hC.size), .inr ⟨⟨x.heap.size, none, none, none, 0, 0, 0⟩, (hm ⟨x.heap.size, none, none, none, 0, 0, 0⟩).symm, ?_⟩⟩
      rw [upd_self, upd_ne n2, upd_ne n4, setL_self, setL_ne n2, setL_ne n4, setL_ne (Ne.symm n6), lk]
      refine ⟨(fun h => by cases h), fun h _ => hR1 _ _ _ (j1 h lk) (new_below _ _), fun h => owns_below (j2 h) (new_below _ _), fun _ => ⟨hC.size, by simp⟩, fun _ _ => bk_new _ _ rfl, (fun h => by cases h), fun h _ r e => ?_⟩
      have := ((j2 h).lt r e).2
      dsimp only
      omega
    · have hdj := depB_spec hD hclo (by simp) ho hafter
      have lq := hdj q (by simp)
      have lm := hdj m (by simp)
      obtain ⟨x', r1, r2, r3, r4⟩ := hst o ho g x hC (j4 lm hL)
      have hO := owns_kept (j2 lq) fun r e => r2.other r (j6 lq lm r e)
      refine does_skip r1 ⟨hC.trans (r2.below _ (j3 lm).1), .inl ⟨hkd o ho, ?_⟩⟩
      rw [setL_self, setL_ne n3, setL_ne n5, setL_ne n6, lq, lm]
      exact ⟨fun _ => ⟨rfl, rfl⟩, (fun _ h => by cases h), fun _ => hO, fun _ => ⟨(j3 lm).1, by rw [← r3]; exact (j3 lm).2⟩, (fun _ h => by cases h), fun _ => r4, fun _ _ => j6 lq lm⟩
  · rintro g x ⟨j0, j1, j2, j3, j4, j5, j6⟩ hC hb0
    exact hend g x hC hb0 (j3 rfl).1 (j5 rfl) (j2 rfl) (j6 rfl rfl)
end
end Go.Proofs

set_option linter.unusedSimpArgs false
set_option linter.unusedVariables false
namespace Go.Proofs
open Go.RowKit
set_option linter.unusedVariables false
/-! TopCertifyGround: the ways out ahead of what it asks. -/
set_option maxRecDepth 100000 in
set_option maxHeartbeats 4000000 in
theorem ground_few (pA eA : Option Addr) (pc ec pn en : Nat) (ps : List Pa) (es : List En) (k ag : Int) (w : World) (hB : BookAt w pA pc ps eA ec es) (hpn : ps.length = pn) (hen : es.length = en) (ht : Tabs w) (hF : ¬ FewR ps es) :
    Calls Tryz.prog 3 #[.agg #[.slice pA pn pc, .slice eA en ec], .agg #[.int .i64 k, .int .i64 ag]] w fun e w' => e = .returned (.bool true) ∧ Below w.heap.size w w' := by
  have hCe := Lib.hid fun W (hb : Below w.heap.size w W) => certified_any W (ht.below hb)
  have hFe := Lib.hid fun W (hb : Below w.heap.size w W) => (few_any pA eA pc ec pn en ps es W (hB.below hb) hpn hen).mono (R' := fun e w' => e = .returned (.bool false) ∧ Below W.heap.size W w') fun e w' h => ⟨by
    obtain ⟨r, rfl, hr⟩ := h.1
    cases r with
    | false => rfl
    | true => exact absurd (hr rfl) hF, h.2⟩
  clear hB hpn hen ht hF
  go_enter Tryz.func3, Tryz.ntmps3
  go_wp2_with (first
    | (go_at_call 4; refine (hCe.out _ (by go_grown)).mono ?_; rintro e w1 ⟨rfl, hb1⟩; (have M0 := bk_keep hb1 (by (repeat (first | assumption | (refine bk_new _ _ ?_; (simp; done)) | refine bk_drew ?_ | refine bk_alloc ?_ _ | refine bk_set ?_ (by simp <;> omega) _)) : ((w.alloc (.cells #[.slice pA pn pc, .slice eA en ec] 25 (0, 0))).alloc (.cells #[.int .i64 k, .int .i64 ag] 27 (0, 0))).heap[w.heap.size]? = some (.cells #[.slice pA pn pc, .slice eA en ec] 25 (0, 0)))); (have M1 := bk_keep hb1 (by (repeat (first | assumption | (refine bk_new _ _ ?_; (simp; done)) | refine bk_drew ?_ | refine bk_alloc ?_ _ | refine bk_set ?_ (by simp <;> omega) _)) : ((w.alloc (.cells #[.slice pA pn pc, .slice eA en ec] 25 (0, 0))).alloc (.cells #[.int .i64 k, .int .i64 ag] 27 (0, 0))).heap[w.heap.size + 1]? = some (.cells #[.int .i64 k, .int .i64 ag] 27 (0, 0)))); (have hbw : Below w.heap.size w w1 := via (by go_grown) hb1); (have D0 := bk2 M0); (have D1 := bk2 M1))
    | (go_at_call 5; refine (hFe.out _ hbw).mono ?_; rintro e w2 ⟨rfl, hb2⟩; (have M0 := bk_keep hb2 M0); (have M1 := bk_keep hb2 M1); (have hbw := via hbw hb2); clear D0 D1; (have D0 := bk2 M0); (have D1 := bk2 M1)))
  go_ret
  exact ⟨rfl, by go_grown⟩
set_option maxRecDepth 100000 in
set_option maxHeartbeats 4000000 in
theorem ground_err (pA eA : Option Addr) (pc ec pn en : Nat) (ps : List Pa) (es : List En) (k ag : Int) (w : World) (hB : BookAt w pA pc ps eA ec es) (hpn : ps.length = pn) (hen : es.length = en) (ht : Tabs w) (hF : FewR ps es) (hno : ¬ (BookR ps es ∧ askE k ag = 0)) :
    Calls Tryz.prog 3 #[.agg #[.slice pA pn pc, .slice eA en ec], .agg #[.int .i64 k, .int .i64 ag]] w fun e w' => e = .returned (.bool true) ∧ Below w.heap.size w w' := by
  have hCe := Lib.hid fun W (hb : Below w.heap.size w W) => certified_any W (ht.below hb)
  have hFe := Lib.hid fun W (hb : Below w.heap.size w W) => (few_any pA eA pc ec pn en ps es W (hB.below hb) hpn hen).mono (R' := fun e w' => (e = .returned (.bool false) ∨ e = .returned (.bool true)) ∧ Below W.heap.size W w') fun e w' h => ⟨by
    obtain ⟨r, rfl, hr⟩ := h.1
    cases r with
    | false => exact .inl rfl
    | true => exact .inr rfl, h.2⟩
  have hAs := Lib.hid fun W => refAsk_any k ag W
  have hBk := Lib.hid fun W (hb : Below w.heap.size w W) => refBook_any pA eA pc ec pn en ps es W (hB.below hb) hF.fewB hpn hen
  have hno' := Lib.hid hno
  clear hB hpn hen ht hF hno
  go_enter Tryz.func3, Tryz.ntmps3
  go_wp2_with (first
    | (go_at_call 4; refine (hCe.out _ (by go_grown)).mono ?_; rintro e w1 ⟨rfl, hb1⟩; (have M0 := bk_keep hb1 (by (repeat (first | assumption | (refine bk_new _ _ ?_; (simp; done)) | refine bk_drew ?_ | refine bk_alloc ?_ _ | refine bk_set ?_ (by simp <;> omega) _)) : ((w.alloc (.cells #[.slice pA pn pc, .slice eA en ec] 25 (0, 0))).alloc (.cells #[.int .i64 k, .int .i64 ag] 27 (0, 0))).heap[w.heap.size]? = some (.cells #[.slice pA pn pc, .slice eA en ec] 25 (0, 0)))); (have M1 := bk_keep hb1 (by (repeat (first | assumption | (refine bk_new _ _ ?_; (simp; done)) | refine bk_drew ?_ | refine bk_alloc ?_ _ | refine bk_set ?_ (by simp <;> omega) _)) : ((w.alloc (.cells #[.slice pA pn pc, .slice eA en ec] 25 (0, 0))).alloc (.cells #[.int .i64 k, .int .i64 ag] 27 (0, 0))).heap[w.heap.size + 1]? = some (.cells #[.int .i64 k, .int .i64 ag] 27 (0, 0)))); (have hbw : Below w.heap.size w w1 := via (by go_grown) hb1); (have D0 := bk2 M0); (have D1 := bk2 M1))
    | (go_at_call 5; refine (hFe.out _ hbw).mono ?_; rintro e w2 ⟨hr, hb2⟩; (have M0 := bk_keep hb2 M0); (have M1 := bk_keep hb2 M1); (have hbw := via hbw hb2); clear D0 D1; (have D0 := bk2 M0); (have D1 := bk2 M1); rcases hr with rfl | rfl)
    | (go_at_call 6; refine (hAs.out _).mono ?_; rintro e w3 ⟨⟨E, rfl, hE⟩, hb3⟩; (have M0 := bk_keep hb3 M0); (have M1 := bk_keep hb3 M1); (have hbw := via hbw hb3); clear D0 D1; (have D0 := bk2 M0); (have D1 := bk2 M1); (have hE' := Lib.hid hE); clear hE)
    | (go_at_call 7; refine (hBk.out _ hbw).mono ?_; rintro e w4 ⟨⟨n2, E2, rfl, hE2⟩, hb4⟩; (have M0 := bk_keep hb4 M0); (have M1 := bk_keep hb4 M1); (have hbw := via hbw hb4); clear D0 D1; (have D0 := bk2 M0); (have D1 := bk2 M1); (have hE2' := Lib.hid hE2); clear hE2))
  · go_ret
    exact ⟨rfl, by go_grown⟩
  · go_ret
    exact ⟨rfl, by go_grown⟩
  · go_ret
    exact ⟨rfl, by go_grown⟩
  · skip
    have q1 : (E != 0) = false := by assumption
    have q2 : (E2 != 0) = false := by assumption
    exact absurd ⟨hE2'.out (by simpa using q2), hE'.out (by simpa using q1)⟩ hno'.out
  · skip
    have q1 : (E != 0) = false := by assumption
    have q2 : (E2 != 0) = false := by assumption
    exact absurd ⟨hE2'.out (by simpa using q2), hE'.out (by simpa using q1)⟩ hno'.out
/-- A store of a struct into a block. -/
theorem exec_store_block {P : Program} {f : Operand → Value} {o : Oper} {w : World} (p q : Operand) (t : TypeId) (ho : o.op = .store t p q) (b : Nat) (vs cs : List Value) (T : TypeId) (hp : f p = .pointer (some ⟨b, 0, none⟩)) (hq : f q = .agg vs.toArray)
    (hsz : (sizeOf t).run P w = .ok vs.length w) (hb : w.heap[b]? = some (.cells cs.toArray T (0, 0))) (hl : cs.length = vs.length) (h1 : ∀ u ∈ vs, u.oneCell' = true) :
    ∃ x', (execOp f o).run P w = .ok .skip x' ∧ OnlyB b w x' ∧ w.heap.size = x'.heap.size ∧ x'.heap[b]? = some (.cells vs.toArray T (0, 0)) := by
  obtain ⟨x', r1, r2, r3, r4⟩ := run_storeCells (P := P) b T vs 0 cs w hb (by omega) h1
  have hoth : ∀ k, k ≠ b → x'.heap[k]? = w.heap[k]? := fun k hk => by
    by_cases hlt : k < w.heap.size
    · exact r3.block k hlt (fun e => hk (Option.some.inj e))
    · rw [Array.getElem?_eq_none (by omega), Array.getElem?_eq_none (by omega)]
  refine ⟨x', ?_, ⟨fun n hn => ⟨r3.os, r3.tape, r3.output, r3.size, fun k hk => hoth k (by omega)⟩, hoth⟩, r4.symm, ?_⟩
  · unfold execOp
    have e2 : (storeVar t ⟨b, 0, none⟩ (.agg vs.toArray)).run P w = .ok () x' := by
      unfold storeVar
      simp only [Sem.run_bind, hsz, Result.andThen_ok, Value.cells, List.size_toArray, ne_eq, not_true_eq_false, if_false]
      exact r1
    simp only [ho, Instr.storeAt, Instr.sureAddr, hp, hq, Sem.run_bind, Sem.run_pure, Result.andThen_ok, e2]
  · rw [r2]
    congr 2
    apply congrArg
    simp [hl]
end Go.Proofs
