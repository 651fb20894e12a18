/-
  Joined texts: LevR, LevF, LevT, LevV, LevH, LevJ, LevK, LevX.
-/
import Derived.Test.YthchfdobdghdoaaGreatHbp
import Derived.Maps.OwnSet
import Derived.OwnWalk
import Derived.Test.YthchfdobdghdoaaGreatHbe
import Derived.StillTailTactics
import Derived.Test.YthchfdobdghdoaaGreatHav
set_option linter.unusedVariables false
set_option linter.unusedSimpArgs false
set_option linter.unusedSectionVars false
set_option linter.unnecessarySimpa false
section

/-
  A level's spots, in plain Lean: each stands once on a way, and what two ways have in common.
-/
namespace Go.Sg
open Go Go.RowKit Go.Proofs.YthchfdobdghdoaaGreat
theorem spRow_mem {first S nd : Int} {k : Nat} {s : Sp} : s ∈ spRow first S nd k ↔ ∃ j : Nat, j < k ∧ s = (first, nd * S + j) := by
  unfold spRow
  rw [List.mem_map]
  constructor
  · rintro ⟨j, hj, rfl⟩; exact ⟨j, List.mem_range.1 hj, rfl⟩
  · rintro ⟨j, hj, rfl⟩; exact ⟨j, List.mem_range.2 hj, rfl⟩
theorem spTree_mem {first S : Int} {ns : List Int} {s : Sp} : s ∈ spTree first S ns ↔ ∃ nd ∈ ns, ∃ j : Nat, j < S.toNat ∧ s = (first, nd * S + j) := by
  unfold spTree
  rw [List.mem_flatMap]
  constructor
  · rintro ⟨nd, h1, h2⟩; exact ⟨nd, h1, spRow_mem.1 h2⟩
  · rintro ⟨nd, h1, h2⟩; exact ⟨nd, h1, spRow_mem.2 h2⟩
theorem spSt_mem {first : Int} {k : Nat} {s : Sp} : s ∈ spSt first k ↔ ∃ j : Nat, j < k ∧ s = (first + 1, (j : Int)) := by
  unfold spSt
  rw [List.mem_map]
  constructor
  · rintro ⟨j, hj, rfl⟩; exact ⟨j, List.mem_range.1 hj, rfl⟩
  · rintro ⟨j, hj, rfl⟩; exact ⟨j, List.mem_range.2 hj, rfl⟩
theorem spL_mem {first : Int} {c : Lc} {lf : Int} {s : Sp} : s ∈ spL first c lf ↔ (∃ nd ∈ pathL c.1 lf, ∃ j : Nat, j < c.2.1.toNat ∧ s = (first, nd * c.2.1 + j)) ∨ (∃ j : Nat, j < c.2.2.toNat ∧ s = (first + 1, (j : Int))) := by
  unfold spL
  rw [List.mem_append, spTree_mem, spSt_mem]
theorem spRow_up (first S nd : Int) (k : Nat) : (spRow first S nd k).Pairwise (fun a b => a.2 < b.2) := by
  unfold spRow
  rw [List.pairwise_map]
  exact (List.pairwise_lt_range (n := k)).imp (fun {a b} h => by show nd * S + (a : Int) < nd * S + (b : Int); omega)
theorem spTree_up {first S : Int} (hS : 0 ≤ S) : ∀ {ns : List Int}, ns.Pairwise (· < ·) → (spTree first S ns).Pairwise (fun a b => a.2 < b.2)
  | [], _ => List.Pairwise.nil
  | n :: ns, h => by
    have h1 := List.pairwise_cons.1 h
    show (spRow first S n S.toNat ++ spTree first S ns).Pairwise _
    refine List.pairwise_append.2 ⟨spRow_up _ _ _ _, spTree_up hS h1.2, fun a ha b hb => ?_⟩
    obtain ⟨j, hj, rfl⟩ := spRow_mem.1 ha
    obtain ⟨nd, hnd, k, hk, rfl⟩ := spTree_mem.1 hb
    have h2 := h1.1 nd hnd
    have h3 : (n + 1) * S ≤ nd * S := Int.mul_le_mul_of_nonneg_right (by omega) hS
    rw [Int.add_mul, Int.one_mul] at h3
    show n * S + (j : Int) < nd * S + (k : Int)
    omega
theorem pathL_up {n l : Int} (h : hasB n l = true) : (pathL n l).Pairwise (· < ·) := by
  obtain ⟨D, hD, rfl, he, h0, h1⟩ := hasB_of h
  rw [List.pairwise_iff_getElem]
  intro i j hi hj hij
  have hl := pathL_len h
  rw [he, Int.toNat_natCast] at hl
  rw [pathL_at h, pathL_at h]
  have b1 := node_bd hD h0 h1 i (by omega)
  have b2 := node_bd hD h0 h1 j (by omega)
  have h3 := pow_mono' (i + 1) j (by omega)
  omega
theorem spL_nodup {first : Int} {c : Lc} {lf : Int} (hr : lcRight c = true) (h : hasB c.1 lf = true) : (spL first c lf).Nodup := by
  have hb := lcRight_bd hr
  unfold spL
  refine List.pairwise_append.2 ⟨(spTree_up (by omega) (pathL_up h)).imp (fun {a b} h e => by rw [e] at h; omega), ?_, fun a ha b hb e => ?_⟩
  · unfold spSt
    rw [List.pairwise_map]
    exact (List.pairwise_lt_range (n := c.2.2.toNat)).imp (fun {a b} h e => by have := congrArg Prod.snd e; simp at this; omega)
  · obtain ⟨nd, _, j, _, rfl⟩ := spTree_mem.1 ha
    obtain ⟨k, _, rfl⟩ := spSt_mem.1 hb
    have := congrArg Prod.fst e
    simp at this
    omega
/-- two ways have their first nodes in common -/
theorem path_common {n a b : Int} (ha : hasB n a = true) (hb : hasB n b = true) {d : Nat} (hd : (d : Int) ≤ deepI n a b) : nodeI n a (d : Int) = nodeI n b (d : Int) := by
  have hbd := deepI_bd ha hb
  obtain ⟨D, hD, rfl, he, a0, a1⟩ := hasB_of ha
  obtain ⟨D', hD', e', he', b0, b1⟩ := hasB_of hb
  rw [← e'] at b1
  have hdD : d ≤ D := by omega
  rw [nodeI_at hD a0 a1 d hdD, nodeI_at hD b0 b1 d hdD]
  congr 1
  refine (eqs_first a0 a1 b0 b1 (D - d)).2 ?_
  unfold deepI at hd
  rw [if_pos ⟨ha, hb⟩, he, Int.toNat_natCast] at hd
  omega
theorem spTree_get {first S : Int} (hS : 0 < S) : ∀ {ns : List Int} {i : Nat} (hi : i < (spTree first S ns).length), ∃ (h : i / S.toNat < ns.length), (spTree first S ns)[i] = (first, ns[i / S.toNat] * S + ((i % S.toNat : Nat) : Int))
  | [], i, hi => by simp [spTree] at hi
  | n :: ns, i, hi => by
    have e : spTree first S (n :: ns) = spRow first S n S.toNat ++ spTree first S ns := rfl
    have hlen : (spTree first S (n :: ns)).length = S.toNat + (spTree first S ns).length := by rw [e, List.length_append, spRow_len]
    have hS' : 0 < S.toNat := by omega
    have e2 : (spTree first S (n :: ns))[i]? = (spRow first S n S.toNat ++ spTree first S ns)[i]? := by rw [e]
    rw [List.getElem?_eq_getElem hi] at e2
    by_cases h : i < S.toNat
    · refine ⟨by rw [Nat.div_eq_of_lt h]; simp, ?_⟩
      rw [List.getElem?_append_left (by rw [spRow_len]; exact h), List.getElem?_eq_getElem (by rw [spRow_len]; exact h)] at e2
      have e3 := Option.some.inj e2
      rw [e3]
      have hm : i % S.toNat = i := Nat.mod_eq_of_lt h
      have hd : i / S.toNat = 0 := Nat.div_eq_of_lt h
      simp [spRow, hm, hd]
    · have hi2 : i - S.toNat < (spTree first S ns).length := by omega
      obtain ⟨h1, h2⟩ := spTree_get (ns := ns) hS hi2
      rw [List.getElem?_append_right (by rw [spRow_len]; omega), spRow_len, List.getElem?_eq_getElem hi2] at e2
      have e3 := Option.some.inj e2
      have hd : i / S.toNat = (i - S.toNat) / S.toNat + 1 := by rw [Nat.div_eq_sub_div hS' (by omega)]
      have hm : i % S.toNat = (i - S.toNat) % S.toNat := Nat.mod_eq_sub_mod (by omega)
      refine ⟨by rw [hd, List.length_cons]; omega, ?_⟩
      rw [e3, h2, hm]
      simp [hd]
/-- a block that stands no deeper than both ways are one stands on its own way -/
theorem spL_on {first : Int} {c : Lc} {fr lf : Int} (hr : lcRight c = true) (hfr : hasB c.1 fr = true) (hlf : hasB c.1 lf = true) {i : Nat} (hi : i < (spL first c fr).length) (h : (i : Int) < levelsD (lcSh c) → (i : Int) / c.2.1 ≤ deepI c.1 fr lf) : (spL first c fr)[i] ∈ spL first c lf := by
  have hb := lcRight_bd hr
  have hlt : ((spTree first c.2.1 (pathL c.1 fr)).length : Int) = levelsD (lcSh c) := by
    have h1 := spL_len (first := first) hr hfr
    have h2 := (lcRight_iff hr).2
    unfold placesD at h1
    rw [if_pos h2] at h1
    unfold spL at h1
    rw [List.length_append, spSt_len] at h1
    have : (lcSh c).2.2 = c.2.2 := rfl
    omega
  rw [spL_mem]
  have e2 : (spL first c fr)[i]? = (spTree first c.2.1 (pathL c.1 fr) ++ spSt first c.2.2.toNat)[i]? := rfl
  rw [List.getElem?_eq_getElem hi] at e2
  by_cases ht : i < (spTree first c.2.1 (pathL c.1 fr)).length
  · left
    have h3 := h (by omega)
    obtain ⟨h4, h5⟩ := spTree_get (first := first) (by omega : 0 < c.2.1) ht
    rw [List.getElem?_append_left ht, List.getElem?_eq_getElem ht, h5] at e2
    have e3 := Option.some.inj e2
    obtain ⟨S, hS⟩ : ∃ S : Nat, c.2.1 = S := ⟨c.2.1.toNat, by omega⟩
    have hSn : c.2.1.toNat = S := by omega
    have hdd : (((i / S : Nat)) : Int) ≤ deepI c.1 fr lf := by rw [hS] at h3; push_cast; exact h3
    have hbd := deepI_bd hfr hlf
    have hll := pathL_len hlf
    rw [hSn] at h4
    have h6 : i / S < (pathL c.1 lf).length := by omega
    refine ⟨(pathL c.1 lf)[i / S], List.getElem_mem _, i % S, by rw [hSn]; exact Nat.mod_lt _ (by omega), ?_⟩
    rw [e3]
    simp only [hSn]
    rw [pathL_at hfr (i / S) h4, pathL_at hlf (i / S) h6, path_common hfr hlf hdd]
  · right
    rw [List.getElem?_append_right (by omega)] at e2
    have h6 : (spL first c fr)[i] ∈ spSt first c.2.2.toNat := List.mem_of_getElem? e2.symm
    exact spSt_mem.1 h6
end Go.Sg
end
section

/-
  The walk of a level's Access.
-/
namespace Go.Sg
open Go Go.RowKit
/-- the ids that were ever put, as a map -/
def idsD (ids : List Int) : DataW Unit := Maps.setOf (.lit (.int .i64 1)) (ids.map (fun x => Lit.int .u64 x))
theorem idsD_snoc (ids : List Int) (x : Int) : idsD (ids ++ [x]) = (idsD ids).put (.int .u64 x) (.lit (.int .i64 1)) := by
  unfold idsD
  rw [List.map_append]
  exact Maps.setOf_snoc _ _ _
/-- is an access refused? -/
def badA (c : Lc) (op id at' fr lf : Int) : Bool := decide (op < 0) || (decide (3 < op) || (decide (2147483648 < id) || ((decide (fr < 0) || decide (c.1 ≤ fr)) || ((decide (lf < 0) || decide (c.1 ≤ lf)) || ((op == 2) && (decide (at' < 0) || decide (6 < at')))))))
/-- a level's state -/
structure Ls where
  M : Mm
  over : Bool
  ids : List Int
/-- a level behind an access -/
def Ls.acc (S : Ls) (first : Int) (c : Lc) (op id at' : Int) (d : List Int) (fr lf : Int) : Ls :=
  if badA c op id at' fr lf = true then S else
    ⟨accM S.M first c fr (accT S.M first c fr lf id op at' d), S.over || decide (0 < (lostL c fr (accT S.M first c fr lf id op at' d)).length), if op = 1 ∨ op = 2 then S.ids ++ [id] else S.ids⟩
/-- what it tells -/
def Ls.tell (S : Ls) (first : Int) (c : Lc) (op id at' fr lf : Int) : List Int × Bool := if badA c op id at' fr lf = true then (zero8, false) else accO S.M first c fr id
/-- a level lies in a memory -/
structure LvOk (c : Lc) (first : Int) (M : Mm) : Prop where
  sp : ∀ lf, hasB c.1 lf = true → ∀ s ∈ spL first c lf, M.has s.1 s.2 = true ∧ CellOk c.1 (M.read s.1 s.2)
  tab : (lcTab c).toNat ≤ M.size (first + 2)
theorem badA_no {c : Lc} {op id at' fr lf : Int} (hr : lcRight c = true) (h : badA c op id at' fr lf = false) : (0 ≤ op ∧ op ≤ 3) ∧ id ≤ 2147483648 ∧ hasB c.1 fr = true ∧ hasB c.1 lf = true ∧ (op = 2 → 0 ≤ at' ∧ at' ≤ 6) := by
  unfold badA at h
  simp only [Bool.or_eq_false_iff, decide_eq_false_iff_not, Bool.and_eq_false_iff, beq_eq_false_iff_ne] at h
  obtain ⟨h1, h2, h3, ⟨h4, h5⟩, ⟨h6, h7⟩, h8⟩ := h
  have hR := (lcRight_iff hr).1
  refine ⟨by omega, by omega, ?_, ?_, fun e => ?_⟩
  · unfold hasB; rw [hR, decide_eq_true (by omega), decide_eq_true (by omega)]; rfl
  · unfold hasB; rw [hR, decide_eq_true (by omega), decide_eq_true (by omega)]; rfl
  · rcases h8 with h8 | h8
    · exact absurd e h8
    · omega
end Go.Sg
namespace Go.Proofs.YthchfdobdghdoaaGreat
open Go Go.RowKit Go.Sg
def MapW (w : World) (ib : Nat) (ids : List Int) : Prop := w.ownsMap Tryz.prog 56 (plainElem Tryz.prog 3) ib ids.length (idsD ids)
/-- a level's own cells, and its ids -/
def LvX (p q ib : Nat) (c : Lc) (first : Int) (over : Bool) (ids : List Int) (w : World) : Prop := Blk w q (lvV c p first over ib) 92 ∧ MapW w ib ids
theorem keeps_map (ib : Nat) (ids : List Int) : Keeps (fun k => k = ib) (fun w => MapW w ib ids) := by
  rintro w w' hs hb ⟨es, clock, h1, h2⟩
  exact ⟨es, clock, (hb ib rfl).trans h1, h2⟩
theorem keeps_lv (p q ib : Nat) (c : Lc) (first : Int) (over : Bool) (ids : List Int) : Keeps (fun k => k = q ∨ k = ib) (LvX p q ib c first over ids) := keeps_and (keeps_blk q _ _) (keeps_map ib ids)
/-- a level, and whatever lies beside it -/
structure LvR (w0 w : World) (p q ib : Nat) (c : Lc) (first : Int) (S : Ls) (D : Nat → Prop) (X : World → Prop) : Prop where
  one : OneX 88 w0 w p S.M (fun k => D k ∨ (k = q ∨ k = ib)) (fun w => X w ∧ LvX p q ib c first S.over S.ids w)
  off : ∀ k, D k → k ≠ q ∧ k ≠ ib
  ne : q ≠ ib
  ge : w0.heap.size ≤ q ∧ w0.heap.size ≤ ib
variable {w0 w w' : World} {p : Nat} {M : Mm} {D : Nat → Prop} {X : World → Prop}
theorem LvR.x {q ib : Nat} {c : Lc} {first : Int} {S : Ls} (h : LvR w0 w p q ib c first S D X) : X w := h.one.x.1
theorem LvR.below {q ib : Nat} {c : Lc} {first : Int} {S : Ls} (hK : Keeps D X) (h : LvR w0 w p q ib c first S D X) (hb : Below w.heap.size w w') : LvR w0 w' p q ib c first S D X := ⟨h.one.below (keeps_and hK (keeps_lv _ _ _ _ _ _ _)) hb, h.off, h.ne, h.ge⟩
/-- the boxes of an access -/
def BxF (A q : Nat) (op at' : Int) (d : List Int) (w : World) : Prop := Blk w A #[.pointer (some ⟨q, 0, none⟩)] 37 ∧ Blk w (A + 1) #[.int .i64 op] 3 ∧ Blk w (A + 2) #[.int .i64 at'] 3 ∧ Blk w (A + 3) (cw d) 61
theorem keeps_bxF (A q : Nat) (op at' : Int) (d : List Int) : Keeps (fun k => A ≤ k ∧ k < A + 4) (BxF A q op at' d) := by
  rintro x x' hs hb ⟨y1, y2, y3, y4⟩
  exact ⟨blk_keepL y1 (hb A (by omega)), blk_keepL y2 (hb (A + 1) (by omega)), blk_keepL y3 (hb (A + 2) (by omega)), blk_keepL y4 (hb (A + 3) (by omega))⟩
set_option maxHeartbeats 8000000 in
set_option maxRecDepth 100000 in
theorem lAccess_any (hK : Keeps D X) (c : Lc) (hc : LcOk c) (hr : lcRight c = true) (first : Int) (hf : 0 ≤ first ∧ first ≤ 1099511627776) (op id at' fr lf : Int) (d : List Int) (hd : d.length = 8) (hdw : ∀ x ∈ d, Word x) (hid : Word id) (q ib : Nat) (S : Ls) (hids : S.ids.length ≤ 1000000)
    (hok : LvOk c first S.M) (hN : S.M.evs.length ≤ 1099500000000) (h : LvR w0 w p q ib c first S D X) :
    Calls Tryz.prog 22 #[.pointer (some ⟨q, 0, none⟩), .int .i64 op, .int .u64 id, .int .i64 at', .agg (cw d), .int .i64 fr, .int .i64 lf] w fun e w' =>
      e = .returned (.tuple #[.agg (cw (S.tell first c op id at' fr lf).1), .bool (S.tell first c op id at' fr lf).2]) ∧ LvR w0 w' p q ib c first (S.acc first c op id at' d fr lf) D X := by
  obtain ⟨h1, hoff, hqi, hge⟩ := h
  obtain ⟨M, over, ids⟩ := S
  simp only at h1 hok hids hN ⊢
  have hKL := keeps_and hK (keeps_lv p q ib c first over ids)
  obtain ⟨A, hA⟩ : ∃ A, w.heap.size = A := ⟨_, rfl⟩
  obtain ⟨w5, hw5⟩ : ∃ w5, ((((w.alloc (.cells #[.pointer (some ⟨q, 0, none⟩)] 37)).alloc (.cells #[.int .i64 op] 3)).alloc (.cells #[.int .i64 at'] 3)).alloc (.cells (cw d) 61)).alloc (.cells #[.int .u64 0, .int .u64 0, .int .u64 0, .int .u64 0, .int .u64 0, .int .u64 0, .int .u64 0, .int .u64 0] 61) = w5 := ⟨_, rfl⟩
  have hb5 : Below w.heap.size w w5 := by rw [← hw5]; exact (((((Below.refl _ _).alloc (Nat.le_refl _) _).alloc (by simp) _).alloc (by simp; omega) _).alloc (by simp; omega) _).alloc (by simp; omega) _
  have hs5 : w5.heap.size = A + 5 := by rw [← hw5, ← hA]; simp
  have hbx : BxF A q op at' d w5 := by
    rw [← hw5, ← hA]
    refine ⟨(((Blk.new w _ _).alloc _).alloc _).alloc _ |>.alloc _, ?_, ?_, ?_⟩
    · have := Blk.new (w.alloc (.cells #[.pointer (some ⟨q, 0, none⟩)] 37)) #[.int .i64 op] 3
      have h2 := ((this.alloc (.cells #[.int .i64 at'] 3)).alloc (.cells (cw d) 61)).alloc (.cells #[.int .u64 0, .int .u64 0, .int .u64 0, .int .u64 0, .int .u64 0, .int .u64 0, .int .u64 0, .int .u64 0] 61)
      simpa using h2
    · have := Blk.new ((w.alloc (.cells #[.pointer (some ⟨q, 0, none⟩)] 37)).alloc (.cells #[.int .i64 op] 3)) #[.int .i64 at'] 3
      have h2 := (this.alloc (.cells (cw d) 61)).alloc (.cells #[.int .u64 0, .int .u64 0, .int .u64 0, .int .u64 0, .int .u64 0, .int .u64 0, .int .u64 0, .int .u64 0] 61)
      simpa using h2
    · have := Blk.new (((w.alloc (.cells #[.pointer (some ⟨q, 0, none⟩)] 37)).alloc (.cells #[.int .i64 op] 3)).alloc (.cells #[.int .i64 at'] 3)) (cw d) 61
      have h2 := this.alloc (.cells #[.int .u64 0, .int .u64 0, .int .u64 0, .int .u64 0, .int .u64 0, .int .u64 0, .int .u64 0, .int .u64 0] 61)
      simpa using h2
  have hbr' : Blk w5 (A + 4) #[.int .u64 0, .int .u64 0, .int .u64 0, .int .u64 0, .int .u64 0, .int .u64 0, .int .u64 0, .int .u64 0] 61 := by
    rw [← hw5, ← hA]
    have := Blk.new ((((w.alloc (.cells #[.pointer (some ⟨q, 0, none⟩)] 37)).alloc (.cells #[.int .i64 op] 3)).alloc (.cells #[.int .i64 at'] 3)).alloc (.cells (cw d) 61)) #[.int .u64 0, .int .u64 0, .int .u64 0, .int .u64 0, .int .u64 0, .int .u64 0, .int .u64 0, .int .u64 0] 61
    simpa using this
  have hbr : Blk w5 (A + 4) (cw zero8) 61 := hbr'
  have h5 := h1.ret hKL (E := fun k => A ≤ k ∧ k < A + 5) (Y := fun w => BxF A q op at' d w ∧ Blk w (A + 4) (cw zero8) 61) hb5 (fun k hk => by omega) ⟨hbx, hbr⟩
  have hqA : q < A ∧ ib < A := by rw [← hA]; exact ⟨h1.ltD q (.inr (.inl rfl)), h1.ltD ib (.inr (.inr rfl))⟩
  have hDA : ∀ k, D k → k < A := fun k hk => by rw [← hA]; exact h1.ltD k (.inl hk)
  have hA0 : w0.heap.size ≤ A := by rw [← hA]; exact h1.old.size
  have c1 : w5.cell? ⟨A + 1, 0, none⟩ = some (.int .i64 op) := hbx.2.1.cell 0
  have c2 : w5.cell? ⟨A + 2, 0, none⟩ = some (.int .i64 at') := hbx.2.2.1.cell 0
  have c0 : w5.cell? ⟨A, 0, none⟩ = some (.pointer (some ⟨q, 0, none⟩)) := hbx.1.cell 0
  have cq : w5.cell? ⟨q, 0, none⟩ = some (.int .i64 c.1) := h5.x.1.2.1.cell 0
  have cm : w5.cell? ⟨q, 6, none⟩ = some (.map (some ib)) := h5.x.1.2.1.cell 6
  have KW1 := Lib.hid (lwrong_any c.1 fr A q w5 c0 cq)
  have KW2 := Lib.hid (lwrong_any c.1 lf A q w5 c0 cq)
  have H5 := Lib.hid h5
  have HK := Lib.hid hK
  have HOK := Lib.hid hok
  have HW5 := Lib.hid hw5
  have HOFF := Lib.hid hoff
  have HDA := Lib.hid hDA
  have HBD : Hid (badA c op id at' fr lf = (decide (op < 0) || (decide (3 < op) || (decide (2147483648 < id) || ((decide (fr < 0) || decide (c.1 ≤ fr)) || ((decide (lf < 0) || decide (c.1 ≤ lf)) || ((op == 2) && (decide (at' < 0) || decide (6 < at'))))))))) := Lib.hid rfl
  have HNO : Hid (badA c op id at' fr lf = false → (0 ≤ op ∧ op ≤ 3) ∧ id ≤ 2147483648 ∧ hasB c.1 fr = true ∧ hasB c.1 lf = true ∧ (op = 2 → 0 ≤ at' ∧ at' ≤ 6)) := Lib.hid (badA_no hr)
  obtain ⟨S2, hS2⟩ : ∃ S2, Ls.acc ⟨M, over, ids⟩ first c op id at' d fr lf = S2 := ⟨_, rfl⟩
  obtain ⟨tl, htl⟩ : ∃ tl, Ls.tell ⟨M, over, ids⟩ first c op id at' fr lf = tl := ⟨_, rfl⟩
  rw [hS2, htl]
  have HS2 := Lib.hid hS2
  have HTL := Lib.hid htl
  obtain ⟨tl1, tl2⟩ := tl
  obtain ⟨M9, over9, ids9⟩ := S2
  simp only
  obtain ⟨bad, hbad⟩ : ∃ b, badA c op id at' fr lf = b := ⟨_, rfl⟩
  rw [hbad] at HBD HNO
  have HBAD := Lib.hid hbad
  clear hS2 htl
  obtain ⟨b4, hb4⟩ : ∃ b, (decide (fr < 0) || decide (c.1 ≤ fr)) = b := ⟨_, rfl⟩
  obtain ⟨b5, hb5'⟩ : ∃ b, (decide (lf < 0) || decide (c.1 ≤ lf)) = b := ⟨_, rfl⟩
  rw [hb4] at HBD KW1
  rw [hb5'] at HBD KW2
  clear h1 hKL hb5 hbx h5 hbr hok hK hw5 hbad hb4 hb5' hoff hDA
  go_enter Tryz.func22, Tryz.ntmps22
  go_upto_region 2 with fail
  rw [HW5.out]
  go_cut [49] (fun b wx => b = .bool bad ∧ wx = w5)
  case first =>
    by_cases e1 : op < 0
    · have d1 : decide (op < 0) = true := decide_eq_true e1
      have hb : Hid (bad = true) := Lib.hid (by rw [HBD.out, d1]; rfl)
      clear e1
      go_wp2_with fail
      go_meet
      exact ⟨by rw [hb.out], rfl⟩
    have d1 : decide (op < 0) = false := decide_eq_false e1
    by_cases e2 : 3 < op
    · have d2 : decide (3 < op) = true := decide_eq_true e2
      have hb : Hid (bad = true) := Lib.hid (by rw [HBD.out, d1, d2]; rfl)
      clear e1 e2
      go_wp2_with fail
      go_meet
      exact ⟨by rw [hb.out], rfl⟩
    have d2 : decide (3 < op) = false := decide_eq_false e2
    by_cases e3 : 2147483648 < id
    · have d3 : decide (2147483648 < id) = true := decide_eq_true e3
      have hb : Hid (bad = true) := Lib.hid (by rw [HBD.out, d1, d2, d3]; rfl)
      clear e1 e2 e3
      go_wp2_with fail
      go_meet
      exact ⟨by rw [hb.out], rfl⟩
    have d3 : decide (2147483648 < id) = false := decide_eq_false e3
    cases b4 with
    | true =>
      have hb : Hid (bad = true) := Lib.hid (by rw [HBD.out, d1, d2, d3]; rfl)
      clear e1 e2 e3
      go_wp2_with fail
      refine KW1.out.mono ?_
      rintro e w' ⟨rfl, rfl⟩
      go_wp2_with fail
      go_meet
      exact ⟨by rw [hb.out], rfl⟩
    | false =>
    cases b5 with
    | true =>
      have hb : Hid (bad = true) := Lib.hid (by rw [HBD.out, d1, d2, d3]; rfl)
      clear e1 e2 e3
      go_wp2_with fail
      refine KW1.out.mono ?_
      rintro e w' ⟨rfl, rfl⟩
      go_wp2_with fail
      refine KW2.out.mono ?_
      rintro e w' ⟨rfl, rfl⟩
      go_wp2_with fail
      go_meet
      exact ⟨by rw [hb.out], rfl⟩
    | false =>
    by_cases e6 : op = 2
    · have d6 : (op == 2) = true := beq_iff_eq.2 e6
      by_cases e7 : at' < 0
      · have d7 : decide (at' < 0) = true := decide_eq_true e7
        have hb : Hid (bad = true) := Lib.hid (by rw [HBD.out, d1, d2, d3, d6, d7]; rfl)
        clear e1 e2 e3 e6 e7
        go_wp2_with fail
        refine KW1.out.mono ?_
        rintro e w' ⟨rfl, rfl⟩
        go_wp2_with fail
        refine KW2.out.mono ?_
        rintro e w' ⟨rfl, rfl⟩
        go_wp2_with fail
        go_meet
        exact ⟨by rw [hb.out], rfl⟩
      · have d7 : decide (at' < 0) = false := decide_eq_false e7
        obtain ⟨b8, hb8⟩ : ∃ b, decide (6 < at') = b := ⟨_, rfl⟩
        have hb : Hid (bad = b8) := Lib.hid (by rw [HBD.out, d1, d2, d3, d6, d7, hb8]; rfl)
        clear e1 e2 e3 e6 e7
        go_wp2_with fail
        refine KW1.out.mono ?_
        rintro e w' ⟨rfl, rfl⟩
        go_wp2_with fail
        refine KW2.out.mono ?_
        rintro e w' ⟨rfl, rfl⟩
        go_wp2_with fail
        go_meet
        exact ⟨by rw [hb.out], rfl⟩
    · have d6 : (op == 2) = false := beq_eq_false_iff_ne.2 e6
      have hb : Hid (bad = false) := Lib.hid (by rw [HBD.out, d1, d2, d3, d6]; rfl)
      clear e1 e2 e3 e6
      go_wp2_with fail
      refine KW1.out.mono ?_
      rintro e w' ⟨rfl, rfl⟩
      go_wp2_with fail
      refine KW2.out.mono ?_
      rintro e w' ⟨rfl, rfl⟩
      go_wp2_with fail
      go_meet
      exact ⟨by rw [hb.out], rfl⟩
  case rest =>
    obtain ⟨rfl, rfl⟩ := hcut
    have HROW : Hid (∀ (w' : World) (M' : Mm) (ov : Bool) (is : List Int) (n2 : Array Value), OneX 88 w0 w' p M' (fun k => ((D k ∨ k = ib) ∨ (A ≤ k ∧ k < A + 5)) ∨ k = q) (fun w => ((X w ∧ MapW w ib is) ∧ (BxF A q op at' d w ∧ Blk w (A + 4) (cw zero8) 61)) ∧ Blk w q (lvV c p first ov ib) 92) →
        LvR w0 (w'.setRow (A + 4) n2) p q ib c first ⟨M', ov, is⟩ D X ∧ Blk (w'.setRow (A + 4) n2) (A + 4) n2 61) := Lib.hid fun w' M' ov is n2 h => by
      have h2 := h.less (E := fun k => (D k ∨ (k = q ∨ k = ib)) ∨ k = A + 4) (Y := fun w => (X w ∧ LvX p q ib c first ov is w) ∧ Blk w (A + 4) (cw zero8) 61) (fun k hk => by
        rcases hk with (hk | hk | hk) | hk
        · exact .inl (.inl (.inl hk))
        · exact .inr hk
        · exact .inl (.inl (.inr hk))
        · exact .inl (.inr (by omega))) (fun hx => ⟨⟨hx.1.1.1, hx.2, hx.1.1.2⟩, hx.1.2.2⟩)
      have h3 := h2.rowF (c2 := n2) (keeps_and HK.out (keeps_lv p q ib c first ov is)) (fun k hk => by
        rcases hk with hk | hk | hk
        · have := HDA.out k hk; omega
        · omega
        · omega) (by omega)
      exact ⟨⟨h3.less (fun k hk => .inl hk) (fun hx => hx.1), HOFF.out, hqi, hge⟩, h3.x.2⟩
    have H6 : Hid (OneX 88 w0 wc p M (fun k => ((D k ∨ k = ib) ∨ (A ≤ k ∧ k < A + 5)) ∨ k = q) (fun w => ((X w ∧ MapW w ib ids) ∧ (BxF A q op at' d w ∧ Blk w (A + 4) (cw zero8) 61)) ∧ Blk w q (lvV c p first over ib) 92)) := Lib.hid (by
      refine H5.out.less (fun k hk => ?_) (fun hx => ⟨⟨⟨hx.1.1, hx.1.2.2⟩, hx.2⟩, hx.1.2.1⟩)
      rcases hk with ((hk | hk) | hk) | hk
      · exact .inl (.inl hk)
      · exact .inl (.inr (.inr hk))
      · exact .inr hk
      · exact .inl (.inr (.inl hk)))
    have HR0 : Hid (∀ (w' : World) (M' : Mm) (ov : Bool) (is : List Int), OneX 88 w0 w' p M' (fun k => ((D k ∨ k = ib) ∨ (A ≤ k ∧ k < A + 5)) ∨ k = q) (fun w => ((X w ∧ MapW w ib is) ∧ (BxF A q op at' d w ∧ Blk w (A + 4) (cw zero8) 61)) ∧ Blk w q (lvV c p first ov ib) 92) → Blk w' (A + 4) (cw zero8) 61) := Lib.hid fun w' M' ov is h => h.x.1.2.2
    clear KW1 KW2 H5 HBD HW5 cq
    cases bad with
    | true =>
      have HIZ : Hid ((Tryz.prog.info? 61).map (·.size) = some (cw zero8).size) := Lib.hid (info_dataL zero8 rfl)
      have HOZ : Hid ((cw zero8).all (·.oneCell') = true) := Lib.hid (cw_all _)
      have HF := Lib.hid (HROW.out _ _ _ _ (cw zero8) H6.out)
      go_wp2_with (first
        | (refine wpList_store_row rfl 61 (.tmp 14) (.tmp 50) rfl (A + 4) (cw zero8) rfl rfl 61 _ (HR0.out _ _ _ _ H6.out) HIZ.out rfl HOZ.out ?_)
        | fail)
      have hpl : (Tryz.prog.info? 61).map (·.size) = some (cw zero8).toList.length := by have := HIZ.out; simpa using this
      have hb' : Blk (wc.setRow (A + 4) (cw zero8)) (A + 4) (cw zero8).toList.toArray 61 := by have := HF.out.2; simpa using this
      have HR := results_row_tmp (P := Tryz.prog) (fn := Tryz.f22) rfl
      refine bodyPost_ret (HR _ _ (A + 4) (cw zero8).toList _ (.bool false) rfl rfl hb'.range Tryz.underlying61 rfl hpl) rfl ⟨?_, ?_⟩
      · have h := HTL.out
        unfold Ls.tell at h
        rw [if_pos HBAD.out] at h
        cases h
        simp
      · have h := HS2.out
        unfold Ls.acc at h
        rw [if_pos HBAD.out] at h
        rw [← h]
        exact HF.out.1
    | false =>
      obtain ⟨hop, hid2, hfr, hlf, hat⟩ := HNO.out rfl
      have hsp := HOK.out.sp fr hfr
      have hcs : ∀ x ∈ accC M first c fr, CellOk c.1 x := fun x hx => by
        obtain ⟨s, hs, rfl⟩ := List.mem_map.1 hx
        exact (hsp s hs).2
      have hol : (accO M first c fr id).1.length = 8 := (oldL_ok id (accC M first c fr) (fun x hx => ⟨(hcs x hx).1, (hcs x hx).2.1⟩)).1
      have HKA : Hid (∀ is, Keeps (fun k => (D k ∨ k = ib) ∨ (A ≤ k ∧ k < A + 5)) (fun w => (X w ∧ MapW w ib is) ∧ (BxF A q op at' d w ∧ Blk w (A + 4) (cw zero8) 61))) := Lib.hid fun is =>
        keeps_and (keeps_and HK.out (keeps_map ib is)) (Keeps.more (keeps_and (keeps_bxF A q op at' d) (keeps_blk (A + 4) (cw zero8) 61)) (fun k hk => by rcases hk with hk | hk <;> omega))
      have KA := Lib.hid (fun w' is h' => laccess_any (w := w') (p := p) (M := M) (w0 := w0) (HKA.out is) c hc hr fr lf hfr hlf first hf id ⟨hid.1, hid2⟩ op at' d hd hdw hop hat (A + 1) (A + 3) (A + 2) q ib over
        (fun k hk => by
          rcases hk with (hk | hk) | hk
          · exact (HOFF.out k hk).1
          · omega
          · omega) hge.1 (fun w hx => ⟨hx.2.1.2.1, hx.2.1.2.2.2, hx.2.1.2.2.1⟩) hsp HOK.out.tab hN h')
      obtain ⟨ov, hov⟩ : ∃ ov, (over || decide (0 < (lostL c fr (accT M first c fr lf id op at' d)).length)) = ov := ⟨_, rfl⟩
      obtain ⟨M2, hM2⟩ : ∃ M2, accM M first c fr (accT M first c fr lf id op at' d) = M2 := ⟨_, rfl⟩
      rw [hov, hM2] at KA
      have HE2 := Lib.hid (And.intro hov hM2)
      clear hov hM2 hcs hsp
      have HOO : Hid (∀ o, accO M first c fr id = o → accO M first c fr id = o) := Lib.hid fun _ h => h
      obtain ⟨oo, hoo⟩ : ∃ oo, accO M first c fr id = oo := ⟨_, rfl⟩
      rw [hoo] at KA hol
      have HO2 := Lib.hid hoo
      clear hoo HOO
      obtain ⟨o1, o2⟩ := oo
      simp only at KA hol
      have HIO : Hid ((Tryz.prog.info? 61).map (·.size) = some (cw o1).size) := Lib.hid (info_dataL o1 hol)
      have HOA : Hid ((cw o1).all (·.oneCell') = true) := Lib.hid (cw_all _)
      have hsz : (cw zero8).size = (cw o1).size := by rw [cw_size, cw_size, hol]; rfl
      have HSZ := Lib.hid hsz
      have hwf : (Lit.int .u64 id).wf = true := by
        have hw := hid
        unfold Word at hw
        simp only [Lit.wf, IntKind.min, IntKind.max, IntKind.signed, IntKind.bits, Bool.and_eq_true, decide_eq_true_eq, Bool.false_eq_true, if_false]
        omega
      have HKEY : Hid (keyOf Tryz.prog 56 (.int .u64 id) = some (.int .u64 id)) := Lib.hid (Maps.keyOf_int_mk Tryz.underlying56 hwf)
      have HVAL : Hid (plainElem (H := Unit) Tryz.prog 3 (.int .i64 1) = some (.lit (.int .i64 1), [])) := Lib.hid (plainElem_int Tryz.underlying3 (by decide))
      have HMW : Hid (MapW wc ib ids) := Lib.hid H6.out.x.1.1.2
      have HSW : Hid (∀ w6, wc.grownBy w6 (some ib) → MapW w6 ib (ids ++ [id]) → OneX 88 w0 w6 p M (fun k => ((D k ∨ k = ib) ∨ (A ≤ k ∧ k < A + 5)) ∨ k = q) (fun w => ((X w ∧ MapW w ib (ids ++ [id])) ∧ (BxF A q op at' d w ∧ Blk w (A + 4) (cw zero8) 61)) ∧ Blk w q (lvV c p first over ib) 92)) := Lib.hid fun w6 hg hm => by
        have h1 := H6.out.less (E := fun k => ((D k ∨ k = q) ∨ (A ≤ k ∧ k < A + 5)) ∨ k = ib) (Y := fun w => ((X w ∧ Blk w q (lvV c p first over ib) 92) ∧ (BxF A q op at' d w ∧ Blk w (A + 4) (cw zero8) 61)) ∧ MapW w ib ids) (fun k hk => by
          rcases hk with ((hk | hk) | hk) | hk
          · exact .inl (.inl (.inl hk))
          · exact .inr hk
          · exact .inl (.inr hk)
          · exact .inl (.inl (.inr hk))) (fun hx => ⟨⟨⟨hx.1.1.1, hx.2⟩, hx.1.2⟩, hx.1.1.2⟩)
        have h2 := OneX.swap (keeps_and (keeps_and HK.out (keeps_blk q (lvV c p first over ib) 92)) (Keeps.more (keeps_and (keeps_bxF A q op at' d) (keeps_blk (A + 4) (cw zero8) 61)) (E := fun k => A ≤ k ∧ k < A + 5) (fun k hk => by rcases hk with hk | hk <;> omega))) h1 (E' := fun k => k = ib) (Y' := fun w => MapW w ib (ids ++ [id])) (fun k hk he => by
          rcases hk with (hk | hk) | hk
          · exact (HOFF.out k hk).2 he
          · omega
          · omega) (fun k hk => by rw [hk]; exact hge.2) ⟨hg.os, hg.tape, hg.output, hg.size, fun k hk hn => hg.block k hk (fun e => hn (by injection e))⟩ (fun k hk => ⟨.inl hk, by rw [hk]; exact Nat.lt_of_lt_of_le (H6.out.ltD ib (.inl (.inl (.inr rfl)))) hg.size⟩) hm
        refine h2.less (fun k hk => ?_) (fun hx => ⟨⟨⟨hx.1.1.1, hx.2⟩, hx.1.2⟩, hx.1.1.2⟩)
        rcases hk with ((hk | hk) | hk) | hk
        · exact .inl (.inl (.inl hk))
        · exact .inr hk
        · exact .inl (.inr hk)
        · exact .inl (.inl (.inr hk))
      have hcase : (op = 1 ∧ (op == 1) = true) ∨ (op = 2 ∧ (op == 1) = false ∧ (op == 2) = true) ∨ ((¬ (op = 1 ∨ op = 2)) ∧ (op == 1) = false ∧ (op == 2) = false) := by
        by_cases e1 : op = 1
        · exact .inl ⟨e1, beq_iff_eq.2 e1⟩
        · by_cases e2 : op = 2
          · exact .inr (.inl ⟨e2, beq_eq_false_iff_ne.2 e1, beq_iff_eq.2 e2⟩)
          · exact .inr (.inr ⟨by omega, beq_eq_false_iff_ne.2 e1, beq_eq_false_iff_ne.2 e2⟩)
      clear hol hwf hsz hop hid2 hfr hlf hat HNO
      rcases hcase with ⟨hop, o1b⟩ | ⟨hop, o1b, o2b⟩ | ⟨hop, o1b, o2b⟩
      focus
        have HIF : Hid ((if op = 1 ∨ op = 2 then ids ++ [id] else ids) = ids ++ [id]) := Lib.hid (if_pos (.inl hop))
        clear hop
        go_wp2_with (first
          | (at_mapUpdate; refine wpList_mapUpdate_own _ rfl (.tmp 60) (.tmp 61) (.const (.int .i64 1)) 90 rfl 56 3 (Maps.int_keyed Tryz.underlying56) Tryz.underlying90 _ ib ids.length (idsD ids) rfl HMW.out (by unfold maxLen; omega) _ _ (.int .u64 id) rfl rfl HKEY.out (.lit (.int .i64 1)) [] HVAL.out ?_)
          | fail)
        intro w6 hown hgrow
        have hm6 : MapW w6 ib (ids ++ [id]) := by unfold MapW; rw [idsD_snoc, List.length_append, List.length_singleton]; exact hown
        have h6 := HSW.out w6 hgrow hm6
        have c06 : w6.cell? ⟨A, 0, none⟩ = some (.pointer (some ⟨q, 0, none⟩)) := h6.x.1.2.1.1.cell 0
        clear hown hgrow hm6
        have KA6 := Lib.hid (KA.out w6 (ids ++ [id]) h6)
        clear h6
        go_wp2_with fail
        refine KA6.out.mono ?_
        rintro e w7 ⟨rfl, h7⟩
        have HF7 := Lib.hid (HROW.out _ _ _ _ (cw o1) h7)
        have HB7 := Lib.hid (HR0.out _ _ _ _ h7)
        clear h7 KA6
        go_wp2_with (first
          | (refine wpList_store_row rfl 61 (.tmp 14) (.tmp 68) rfl (A + 4) (cw o1) rfl rfl 61 _ HB7.out HIO.out HSZ.out HOA.out ?_)
          | fail)
        have hpl : (Tryz.prog.info? 61).map (·.size) = some (cw o1).toList.length := by have := HIO.out; simpa using this
        have hb' : Blk (w7.setRow (A + 4) (cw o1)) (A + 4) (cw o1).toList.toArray 61 := by have := HF7.out.2; simpa using this
        have HR := results_row_tmp (P := Tryz.prog) (fn := Tryz.f22) rfl
        refine bodyPost_ret (HR _ _ (A + 4) (cw o1).toList _ (.bool o2) rfl rfl hb'.range Tryz.underlying61 rfl hpl) rfl ⟨?_, ?_⟩
        · have h := HTL.out
          unfold Ls.tell at h
          rw [if_neg (by rw [HBAD.out]; decide), HO2.out] at h
          cases h
          simp
        · have h := HS2.out
          unfold Ls.acc at h
          rw [if_neg (by rw [HBAD.out]; decide), HE2.out.1, HE2.out.2, HIF.out] at h
          rw [← h]
          exact HF7.out.1
      focus
        have HIF : Hid ((if op = 1 ∨ op = 2 then ids ++ [id] else ids) = ids ++ [id]) := Lib.hid (if_pos (.inr hop))
        clear hop
        go_wp2_with (first
          | (at_mapUpdate; refine wpList_mapUpdate_own _ rfl (.tmp 60) (.tmp 61) (.const (.int .i64 1)) 90 rfl 56 3 (Maps.int_keyed Tryz.underlying56) Tryz.underlying90 _ ib ids.length (idsD ids) rfl HMW.out (by unfold maxLen; omega) _ _ (.int .u64 id) rfl rfl HKEY.out (.lit (.int .i64 1)) [] HVAL.out ?_)
          | fail)
        intro w6 hown hgrow
        have hm6 : MapW w6 ib (ids ++ [id]) := by unfold MapW; rw [idsD_snoc, List.length_append, List.length_singleton]; exact hown
        have h6 := HSW.out w6 hgrow hm6
        have c06 : w6.cell? ⟨A, 0, none⟩ = some (.pointer (some ⟨q, 0, none⟩)) := h6.x.1.2.1.1.cell 0
        clear hown hgrow hm6
        have KA6 := Lib.hid (KA.out w6 (ids ++ [id]) h6)
        clear h6
        go_wp2_with fail
        refine KA6.out.mono ?_
        rintro e w7 ⟨rfl, h7⟩
        have HF7 := Lib.hid (HROW.out _ _ _ _ (cw o1) h7)
        have HB7 := Lib.hid (HR0.out _ _ _ _ h7)
        clear h7 KA6
        go_wp2_with (first
          | (refine wpList_store_row rfl 61 (.tmp 14) (.tmp 68) rfl (A + 4) (cw o1) rfl rfl 61 _ HB7.out HIO.out HSZ.out HOA.out ?_)
          | fail)
        have hpl : (Tryz.prog.info? 61).map (·.size) = some (cw o1).toList.length := by have := HIO.out; simpa using this
        have hb' : Blk (w7.setRow (A + 4) (cw o1)) (A + 4) (cw o1).toList.toArray 61 := by have := HF7.out.2; simpa using this
        have HR := results_row_tmp (P := Tryz.prog) (fn := Tryz.f22) rfl
        refine bodyPost_ret (HR _ _ (A + 4) (cw o1).toList _ (.bool o2) rfl rfl hb'.range Tryz.underlying61 rfl hpl) rfl ⟨?_, ?_⟩
        · have h := HTL.out
          unfold Ls.tell at h
          rw [if_neg (by rw [HBAD.out]; decide), HO2.out] at h
          cases h
          simp
        · have h := HS2.out
          unfold Ls.acc at h
          rw [if_neg (by rw [HBAD.out]; decide), HE2.out.1, HE2.out.2, HIF.out] at h
          rw [← h]
          exact HF7.out.1
      focus
        have HIF : Hid ((if op = 1 ∨ op = 2 then ids ++ [id] else ids) = ids) := Lib.hid (if_neg hop)
        have h6 := H6.out
        clear hop
        have KA6 := Lib.hid (KA.out wc ids h6)
        clear h6
        go_wp2_with fail
        refine KA6.out.mono ?_
        rintro e w7 ⟨rfl, h7⟩
        have HF7 := Lib.hid (HROW.out _ _ _ _ (cw o1) h7)
        have HB7 := Lib.hid (HR0.out _ _ _ _ h7)
        clear h7 KA6
        go_wp2_with (first
          | (refine wpList_store_row rfl 61 (.tmp 14) (.tmp 68) rfl (A + 4) (cw o1) rfl rfl 61 _ HB7.out HIO.out HSZ.out HOA.out ?_)
          | fail)
        have hpl : (Tryz.prog.info? 61).map (·.size) = some (cw o1).toList.length := by have := HIO.out; simpa using this
        have hb' : Blk (w7.setRow (A + 4) (cw o1)) (A + 4) (cw o1).toList.toArray 61 := by have := HF7.out.2; simpa using this
        have HR := results_row_tmp (P := Tryz.prog) (fn := Tryz.f22) rfl
        refine bodyPost_ret (HR _ _ (A + 4) (cw o1).toList _ (.bool o2) rfl rfl hb'.range Tryz.underlying61 rfl hpl) rfl ⟨?_, ?_⟩
        · have h := HTL.out
          unfold Ls.tell at h
          rw [if_neg (by rw [HBAD.out]; decide), HO2.out] at h
          cases h
          simp
        · have h := HS2.out
          unfold Ls.acc at h
          rw [if_neg (by rw [HBAD.out]; decide), HE2.out.1, HE2.out.2, HIF.out] at h
          rw [← h]
          exact HF7.out.1
end Go.Proofs.YthchfdobdghdoaaGreat
end
section

/-
  What a level's memory reads as behind an access.
-/
namespace Go.Sg
open Go Go.RowKit Go.Proofs.YthchfdobdghdoaaGreat
theorem bakM_at {M : Mm} {r : Int} {sp : List Sp} {U : Nat → List Int} (hn : sp.Nodup) (hs : ∀ s ∈ sp, M.has s.1 s.2 = true) : ∀ {k : Nat}, k ≤ sp.length → ∀ {i : Nat} (hi : i < k) (hl : i < sp.length), (bakM M r sp U k).read sp[i].1 sp[i].2 = U i := by
  intro k
  induction k with
  | zero => intro _ i hi; omega
  | succ k ih =>
    intro hk i hi hl
    have hkl : k < sp.length := by omega
    have e : sp.getD k (0, 0) = sp[k] := by rw [List.getD_eq_getElem?_getD, List.getElem?_eq_getElem hkl]; rfl
    have hh : (putsM M (bakL sp U k)).has sp[k].1 sp[k].2 = true := by
      rw [Mm.has_of_size (putsM_size _ _)]; exact hs _ (List.getElem_mem hkl)
    have h1 : (bakM M r sp U (k + 1)).read sp[i].1 sp[i].2 = ((putsM M (bakL sp U k)).put sp[k].1 sp[k].2 (U k)).read sp[i].1 sp[i].2 := by
      unfold bakM
      rw [Mm.noted_read, bakL_succ, putsM_snoc, e]
    rw [h1, Mm.read_put _ hh]
    by_cases hik : i = k
    · subst hik
      rw [if_pos ⟨rfl, rfl⟩]
    · rw [if_neg (fun h2 => (List.pairwise_iff_getElem.1 hn) i k hl hkl (by omega) (Prod.ext h2.1.symm h2.2.symm))]
      have h2 := ih (by omega) (i := i) (by omega) hl
      unfold bakM at h2
      rw [Mm.noted_read] at h2
      exact h2
theorem bakM_off {M : Mm} {r : Int} {sp : List Sp} {U : Nat → List Int} (hs : ∀ s ∈ sp, M.has s.1 s.2 = true) {k : Nat} (hk : k ≤ sp.length) {s : Sp} (h : s ∉ sp) : (bakM M r sp U k).read s.1 s.2 = M.read s.1 s.2 := by
  unfold bakM
  rw [Mm.noted_read]
  refine putsM_read_other _ _ (fun y hy => ?_)
  obtain ⟨i, hi, rfl⟩ := List.mem_map.1 hy
  have hi' : i < sp.length := by have := List.mem_range.1 hi; omega
  have e : sp.getD i (0, 0) = sp[i] := by rw [List.getD_eq_getElem?_getD, List.getElem?_eq_getElem hi']; rfl
  simp only [e]
  exact ⟨hs _ (List.getElem_mem hi'), fun h2 => h (by have : s = sp[i] := Prod.ext h2.1.symm h2.2.symm; rw [this]; exact List.getElem_mem hi')⟩
section
variable {M : Mm} {first : Int} {c : Lc} {fr : Int} {T : Nat → List Int}
theorem accM_size (hs : (lcTab c).toNat ≤ M.size (first + 2)) (x : Int) : (accM M first c fr T).size x = M.size x := by
  unfold accM
  rw [bakM_size, dealM_size (by rw [gatM_size hs]; exact hs), gatM_size hs]
theorem accM_has (hs : (lcTab c).toNat ≤ M.size (first + 2)) (x a : Int) : (accM M first c fr T).has x a = M.has x a := Mm.has_of_size (accM_size hs) x a
theorem mid_has (hs : (lcTab c).toNat ≤ M.size (first + 2)) (x a : Int) : (dealM (gatM M (first + 2) (spL first c fr) T (lcTab c).toNat) (first + 2) c fr T).has x a = M.has x a := Mm.has_of_size (fun y => by rw [dealM_size (by rw [gatM_size hs]; exact hs), gatM_size hs]) x a
theorem dealM_other {N : Mm} {r : Int} (h0 : 0 ≤ r) (hs : (lcTab c).toNat ≤ N.size r) {x : Int} (hx : x ≠ r) (a : Int) : (dealM N r c fr T).read x a = N.read x a := by
  unfold dealM
  rw [Mm.noted_read, Mm.fill_read_other (by rw [tab4_len]; exact hs) h0 hx]
theorem accM_at (hr : lcRight c = true) (hfr : hasB c.1 fr = true) (hf : 0 ≤ first) (hs : (lcTab c).toNat ≤ M.size (first + 2)) (hsp : ∀ s ∈ spL first c fr, M.has s.1 s.2 = true) {i : Nat} (hi : i < (spL first c fr).length) : (accM M first c fr T).read ((spL first c fr)[i]).1 ((spL first c fr)[i]).2 = accU c fr T i := by
  unfold accM
  exact bakM_at (spL_nodup hr hfr) (fun s h => by rw [mid_has hs]; exact hsp s h) (Nat.le_refl _) hi hi
theorem accM_off (hf : 0 ≤ first) (hs : (lcTab c).toNat ≤ M.size (first + 2)) (hsp : ∀ s ∈ spL first c fr, M.has s.1 s.2 = true) {s : Sp} (h : s ∉ spL first c fr) (h2 : s.1 ≠ first + 2) : (accM M first c fr T).read s.1 s.2 = M.read s.1 s.2 := by
  unfold accM
  rw [bakM_off (fun s h => by rw [mid_has hs]; exact hsp s h) (Nat.le_refl _) h, dealM_other (by omega) (by rw [gatM_size hs]; exact hs) h2, gatM_read_other hs (by omega) h2]
end
/-- every access keeps a level whole -/
theorem acc_lvOk {M : Mm} {first : Int} {c : Lc} {fr : Int} {T : Nat → List Int} (hr : lcRight c = true) (hfr : hasB c.1 fr = true) (hf : 0 ≤ first) (hT : TabOk c T) (h : LvOk c first M) : LvOk c first (accM M first c fr T) := by
  have hsp := fun s hs => (h.sp fr hfr s hs).1
  refine ⟨fun lf hlf s hs => ⟨by rw [accM_has h.tab]; exact (h.sp lf hlf s hs).1, ?_⟩, by rw [accM_size h.tab]; exact h.tab⟩
  by_cases hin : s ∈ spL first c fr
  · obtain ⟨i, hi, rfl⟩ := List.getElem_of_mem hin
    rw [accM_at hr hfr hf h.tab hsp hi]
    have h1 := spL_len (first := first) hr hfr
    have hbd := lcTab_bd c
    exact accU_cell hr hfr hT (by omega)
  · rw [accM_off hf h.tab hsp hin (by rcases spL_reg s hs with h | h <;> omega)]
    exact (h.sp lf hlf s hs).2
end Go.Sg
end
section

/-
  What a level keeps: each block once, on its way; what an access makes of it.
-/
namespace Go.Sg
open Go Go.RowKit Go.Proofs.YthchfdobdghdoaaGreat
/-- all spots -/
def allS (first : Int) (c : Lc) : List Sp := (List.range (c.2.1 * nodesI c.1).toNat).map (fun a : Nat => (first, (a : Int))) ++ spSt first c.2.2.toNat
theorem allS_nodup (first : Int) (c : Lc) : (allS first c).Nodup := by
  unfold allS
  refine List.pairwise_append.2 ⟨?_, ?_, fun a ha b hb e => ?_⟩
  · rw [List.pairwise_map]
    exact (List.pairwise_lt_range (n := (c.2.1 * nodesI c.1).toNat)).imp (fun {a b} h e => by have := congrArg Prod.snd e; simp at this; omega)
  · unfold spSt
    rw [List.pairwise_map]
    exact (List.pairwise_lt_range (n := c.2.2.toNat)).imp (fun {a b} h e => by have := congrArg Prod.snd e; simp at this; omega)
  · obtain ⟨j, _, rfl⟩ := List.mem_map.1 ha
    obtain ⟨k, _, rfl⟩ := spSt_mem.1 hb
    have := congrArg Prod.fst e
    simp at this
    omega
theorem spL_sub {first : Int} {c : Lc} {lf : Int} (hr : lcRight c = true) (h : hasB c.1 lf = true) : ∀ s ∈ spL first c lf, s ∈ allS first c := by
  intro s hs
  have hb := lcRight_bd hr
  unfold allS
  rw [List.mem_append]
  rcases spL_mem.1 hs with ⟨nd, hnd, j, hj, rfl⟩ | ⟨j, hj, rfl⟩
  · left
    have hR := (lcRight_iff hr).1
    obtain ⟨D, hD, e, he, h0, h1⟩ := hasB_of h
    obtain ⟨d, hd, rfl⟩ := List.getElem_of_mem hnd
    have hl := pathL_len h
    rw [he, Int.toNat_natCast] at hl
    rw [pathL_at h]
    have b1 : 2 ^ d - 1 ≤ nodeI c.1 lf (d : Int) ∧ nodeI c.1 lf (d : Int) < 2 ^ (d + 1) - 1 := by rw [e]; exact node_bd hD h0 h1 d (by omega)
    have h3 := pow_mono' (d + 1) (D + 1) (by omega)
    have h4 := pow_mono' 0 d (by omega)
    have h5 : (2 : Int) ^ 0 = 1 := by decide
    have hn : nodesI c.1 = 2 ^ (D + 1) - 1 := by
      unfold nodesI
      rw [if_pos hR, e, Int.pow_succ]
      omega
    have h6 : 0 ≤ nodeI c.1 lf (d : Int) * c.2.1 := Int.mul_nonneg (by omega) (by omega)
    have h7 : (nodeI c.1 lf (d : Int) + 1) * c.2.1 ≤ nodesI c.1 * c.2.1 := Int.mul_le_mul_of_nonneg_right (by omega) (by omega)
    rw [Int.add_mul, Int.one_mul, Int.mul_comm (nodesI c.1)] at h7
    refine List.mem_map.2 ⟨(nodeI c.1 lf (d : Int) * c.2.1 + (j : Int)).toNat, List.mem_range.2 (by omega), ?_⟩
    rw [Int.toNat_of_nonneg (by omega)]
  · right
    exact spSt_mem.2 ⟨j, hj, rfl⟩
theorem allS_reg {first : Int} {c : Lc} : ∀ s ∈ allS first c, s.1 = first ∨ s.1 = first + 1 := by
  intro s hs
  unfold allS at hs
  rcases List.mem_append.1 hs with h | h
  · obtain ⟨j, _, rfl⟩ := List.mem_map.1 h; exact .inl rfl
  · obtain ⟨j, _, rfl⟩ := spSt_mem.1 h; exact .inr rfl
/-- a level holds these blocks -/
structure LvInv (c : Lc) (first : Int) (M : Mm) (mp : List Bk) : Prop where
  ok : LvOk c first M
  ids : (mp.map (·.1)).Nodup
  perm : ((allS first c).filterMap (fun s => bk (M.read s.1 s.2))).Perm mp
  on : ∀ s ∈ allS first c, ∀ b, bk (M.read s.1 s.2) = some b → s ∈ spL first c b.2.1
/-- what is known of a block -/
def findB (id : Int) (mp : List Bk) : List Int × Bool := match mp.find? (fun b => b.1 == id) with
  | some b => (b.2.2, true)
  | none => (zero8, false)
def mpN (mp : List Bk) (id lf : Int) (e : List Int × Bool) : List Bk := mp.filter (fun b => !(b.1 == id)) ++ (if e.2 then [(id, lf, e.1)] else [])
theorem hit_iff {id : Int} {x : List Int} : hitC id x = true ↔ ∃ b, bk x = some b ∧ b.1 = id := by
  unfold hitC bk
  rw [Bool.and_eq_true, decide_eq_true_eq, decide_eq_true_eq]
  constructor
  · rintro ⟨h1, h2⟩
    rw [if_pos h1]
    exact ⟨_, rfl, h2⟩
  · rintro ⟨b, h1, h2⟩
    split at h1
    · rename_i h
      cases h1
      exact ⟨h, h2⟩
    · cases h1
theorem bk_data {x : List Int} {b : Bk} (h : bk x = some b) : b.2.2 = dataC x := by
  unfold bk at h
  split at h
  · cases h; rfl
  · cases h
theorem rev_ind {α : Type} {P : List α → Prop} (nil : P []) (snoc : ∀ l a, P l → P (l ++ [a])) (l : List α) : P l := by
  rw [← List.reverse_reverse l]
  generalize l.reverse = r
  induction r with
  | nil => exact nil
  | cons a r ih => rw [List.reverse_cons]; exact snoc _ _ ih
theorem oldL_none {id : Int} {cs : List (List Int)} (h : ∀ x ∈ cs, ∀ b, bk x = some b → b.1 ≠ id) : oldL id cs = (zero8, false) := by
  induction cs using rev_ind with
  | nil => rfl
  | snoc cs x ih =>
    rw [oldL_snoc, if_neg, ih (fun y hy => h y (List.mem_append_left _ hy))]
    intro hh
    obtain ⟨b, h1, h2⟩ := hit_iff.1 hh
    exact h x (by simp) b h1 h2
theorem oldL_one {id : Int} {b0 : Bk} {cs : List (List Int)} (h0 : b0.1 = id) (h1 : ∃ x ∈ cs, bk x = some b0) (h : ∀ x ∈ cs, ∀ b, bk x = some b → b.1 = id → b = b0) : oldL id cs = (b0.2.2, true) := by
  induction cs using rev_ind with
  | nil => obtain ⟨x, hx, _⟩ := h1; cases hx
  | snoc cs x ih =>
    rw [oldL_snoc]
    by_cases hh : hitC id x = true
    · rw [if_pos hh]
      obtain ⟨b, h2, h3⟩ := hit_iff.1 hh
      have := h x (by simp) b h2 h3
      subst this
      rw [bk_data h2]
    · rw [if_neg hh]
      refine ih ?_ (fun y hy => h y (List.mem_append_left _ hy))
      obtain ⟨y, hy, h2⟩ := h1
      rcases List.mem_append.1 hy with h3 | h3
      · exact ⟨y, h3, h2⟩
      · rw [List.mem_singleton] at h3
        subst h3
        exact absurd (hit_iff.2 ⟨b0, h2, h0⟩) hh
theorem off_blocks (id : Int) : ∀ cs : List (List Int), (cs.map (offC id)).filterMap bk = (cs.filterMap bk).filter (fun b => !(b.1 == id))
  | [] => rfl
  | x :: cs => by
    have ih := off_blocks id cs
    rw [List.map_cons, List.filterMap_cons, List.filterMap_cons, ih]
    cases hb : bk x with
    | none =>
      have h1 : ¬ hitC id x = true := fun h => by obtain ⟨b, h2, _⟩ := hit_iff.1 h; rw [hb] at h2; cases h2
      unfold offC
      rw [if_neg h1, hb]
    | some b =>
      by_cases h : b.1 = id
      · have h1 : hitC id x = true := hit_iff.2 ⟨b, hb, h⟩
        unfold offC
        rw [if_pos h1, bk_zeros]
        simp [h]
      · have h1 : ¬ hitC id x = true := fun h2 => by obtain ⟨b', h3, h4⟩ := hit_iff.1 h2; rw [hb] at h3; cases h3; exact h h4
        unfold offC
        rw [if_neg h1, hb]
        simp [h]
theorem bk_blkC {id lf : Int} {d : List Int} (hd : d.length = 8) : bk (blkC id lf d) = some (id, lf, d) := by
  unfold bk
  rw [if_pos (by rfl)]
  have h : dataC (blkC id lf d) = d := by
    unfold dataC blkC
    simp [hd]
  rw [h]
  rfl
theorem bk_nowC {id lf : Int} {e : List Int × Bool} (hd : e.1.length = 8) : bk (nowC id lf e) = if e.2 then some (id, lf, e.1) else none := by
  unfold nowC
  split
  · exact bk_blkC hd
  · exact bk_zeros
theorem gat_blocks {id lf : Int} {e : List Int × Bool} {cs : List (List Int)} (hd : e.1.length = 8) {n : Nat} (hn : cs.length < n) :
    (List.range n).filterMap (fun i => bk (gatT id lf e cs i)) = (cs.filterMap bk).filter (fun b => !(b.1 == id)) ++ (if e.2 then [(id, lf, e.1)] else []) := by
  obtain ⟨K, rfl⟩ : ∃ K, n = (gatL id lf e cs).length + K := ⟨n - (gatL id lf e cs).length, by unfold gatL; rw [List.length_append, List.length_map, List.length_singleton]; omega⟩
  have hl : (gatL id lf e cs).length = cs.length + 1 := by unfold gatL; rw [List.length_append, List.length_map, List.length_singleton]
  rw [List.range_add, List.filterMap_append]
  have e2 : ((List.range K).map ((gatL id lf e cs).length + ·)).filterMap (fun i => bk (gatT id lf e cs i)) = [] := by
    rw [List.filterMap_eq_nil_iff]
    intro x hx
    obtain ⟨k, _, rfl⟩ := List.mem_map.1 hx
    rw [gatT_gt (by omega), bk_zeros]
  have e1 : (List.range (gatL id lf e cs).length).filterMap (fun i => bk (gatT id lf e cs i)) = (gatL id lf e cs).filterMap bk := by
    conv => rhs; rw [← getD_range (gatL id lf e cs) zeros]
    rw [List.filterMap_map]
    rfl
  rw [e2, e1, List.append_nil]
  unfold gatL
  rw [List.filterMap_append, off_blocks]
  congr 1
  rw [List.filterMap_cons, bk_nowC hd]
  cases e.2 <;> rfl
theorem find_of {mp : List Bk} {id : Int} (hn : (mp.map (·.1)).Nodup) {b : Bk} (hb : b ∈ mp) (he : b.1 = id) : findB id mp = (b.2.2, true) ∧ ∀ b' ∈ mp, b'.1 = id → b' = b := by
  have huniq : ∀ b' ∈ mp, b'.1 = id → b' = b := by
    intro b' hb' h
    obtain ⟨i, hi, rfl⟩ := List.getElem_of_mem hb
    obtain ⟨j, hj, rfl⟩ := List.getElem_of_mem hb'
    have hp := List.pairwise_iff_getElem.1 hn
    rcases Nat.lt_trichotomy i j with h1 | h1 | h1
    · have := hp i j (by simpa using hi) (by simpa using hj) h1
      simp only [List.getElem_map] at this
      exact absurd (he.trans h.symm) this
    · subst h1; rfl
    · have := hp j i (by simpa using hj) (by simpa using hi) h1
      simp only [List.getElem_map] at this
      exact absurd (h.trans he.symm) this
  refine ⟨?_, huniq⟩
  unfold findB
  cases hf : mp.find? (fun b => b.1 == id) with
  | none =>
    have := List.find?_eq_none.1 hf b hb
    simp [he] at this
  | some b' =>
    have h1 := List.mem_of_find?_eq_some hf
    have h2 := List.find?_some hf
    rw [huniq b' h1 (by simpa using h2)]
theorem find_not {mp : List Bk} {id : Int} (h : ∀ b ∈ mp, b.1 ≠ id) : findB id mp = (zero8, false) := by
  unfold findB
  have : mp.find? (fun b => b.1 == id) = none := List.find?_eq_none.2 fun b hb => by simpa using h b hb
  rw [this]
/-- what an access does -/
theorem acc_step {M : Mm} {first : Int} {c : Lc} {fr lf id op at' : Int} {d : List Int} {mp : List Bk} (hr : lcRight c = true) (hf : 0 ≤ first) (hI : LvInv c first M mp) (hfr : hasB c.1 fr = true) (hlf : hasB c.1 lf = true) (hid : 0 ≤ id ∧ id ≤ 2147483648)
    (hd : d.length = 8 ∧ ∀ x ∈ d, Word x) (hat : op = 2 → 0 ≤ at' ∧ at' ≤ 6) (hc : ∀ b ∈ mp, b.1 = id → b.2.1 = fr) :
    accO M first c fr id = findB id mp ∧
    (lostL c fr (accT M first c fr lf id op at' d) = [] → LvInv c first (accM M first c fr (accT M first c fr lf id op at' d)) (mpN mp id lf (edL op at' d (findB id mp).1 (findB id mp).2))) ∧
    (((mpN mp id lf (edL op at' d (findB id mp).1 (findB id mp).2)).length : Int) ≤ c.2.2 → lostL c fr (accT M first c fr lf id op at' d) = []) := by
  obtain ⟨hok, hids, hperm, hon⟩ := hI
  have hbd := lcTab_bd c
  have hlen := spL_len (first := first) hr hfr
  have hW := spL_nodup (first := first) hr hfr
  have hsp := fun s hs => (hok.sp fr hfr s hs).1
  obtain ⟨W, hWe⟩ : ∃ W, spL first c fr = W := ⟨_, rfl⟩
  obtain ⟨O, hOe⟩ : ∃ O, (allS first c).filter (fun s => !decide (s ∈ W)) = O := ⟨_, rfl⟩
  have hWO : (allS first c).Perm (W ++ O) := by
    have h1 := (List.filter_append_perm (fun s => decide (s ∈ W)) (allS first c)).symm
    rw [hOe] at h1
    refine h1.trans (List.Perm.append_right _ ?_)
    refine nodup_perm ((allS_nodup first c).sublist List.filter_sublist) (fun x hx => by simpa using (List.mem_filter.1 hx).2) ?_
    exact nodup_le (hWe ▸ hW) (fun x hx => List.mem_filter.2 ⟨spL_sub hr hfr x (hWe ▸ hx), by simpa using hx⟩)
  obtain ⟨f, hfe⟩ : ∃ f : Sp → Option Bk, (fun s => bk (M.read s.1 s.2)) = f := ⟨_, rfl⟩
  have hfs : ∀ s : Sp, bk (M.read s.1 s.2) = f s := fun s => by rw [← hfe]
  rw [hfe] at hperm
  have hp2 : (W.filterMap f ++ O.filterMap f).Perm mp := by
    rw [← List.filterMap_append]
    exact (hWO.filterMap f).symm.trans hperm
  have hcs : (accC M first c fr).filterMap bk = W.filterMap f := by
    unfold accC
    rw [hWe, List.filterMap_map, ← hfe]
    rfl
  have hOb : ∀ b ∈ O.filterMap f, b.1 ≠ id := by
    intro b hb he
    have hbm : b ∈ mp := hp2.mem_iff.1 (List.mem_append_right _ hb)
    obtain ⟨s, hs, h1⟩ := List.mem_filterMap.1 hb
    rw [← hOe, List.mem_filter] at hs
    have h2 := hon s hs.1 b (by rw [hfs]; exact h1)
    rw [hc b hbm he, hWe] at h2
    simp [h2] at hs
  -- what is told
  have hO : accO M first c fr id = findB id mp := by
    unfold accO
    by_cases hex : ∃ b ∈ mp, b.1 = id
    · obtain ⟨b, hb, he⟩ := hex
      obtain ⟨h1, h2⟩ := find_of hids hb he
      rw [h1]
      refine oldL_one he ?_ (fun x hx b' hb' he' => ?_)
      · rcases List.mem_append.1 (hp2.mem_iff.2 hb) with h3 | h3
        · rw [← hcs] at h3
          exact List.mem_filterMap.1 h3
        · exact absurd he (hOb b h3)
      · refine h2 b' (hp2.mem_iff.1 (List.mem_append_left _ ?_)) he'
        rw [← hcs]
        exact List.mem_filterMap.2 ⟨x, hx, hb'⟩
    · have hno : ∀ b ∈ mp, b.1 ≠ id := fun b hb he => hex ⟨b, hb, he⟩
      rw [find_not hno]
      refine oldL_none fun x hx b hb => hno b (hp2.mem_iff.1 (List.mem_append_left _ ?_))
      rw [← hcs]
      exact List.mem_filterMap.2 ⟨x, hx, hb⟩
  refine ⟨hO, ?_⟩
  have hcell : ∀ x ∈ accC M first c fr, CellOk c.1 x := fun x hx => by
    obtain ⟨s, hs, rfl⟩ := List.mem_map.1 hx
    exact (hok.sp fr hfr s hs).2
  have hold : (accO M first c fr id).1.length = 8 ∧ ∀ x ∈ (accO M first c fr id).1, Word x := oldL_ok id (accC M first c fr) (fun x hx => ⟨(hcell x hx).1, (hcell x hx).2.1⟩)
  have hed := edL_ok (t := (accO M first c fr id).2) hd hold hat
  have hlfb := hasB_lt hlf
  have hTe : accT M first c fr lf id op at' d = gatT id lf (edL op at' d (findB id mp).1 (findB id mp).2) (accC M first c fr) := by unfold accT; rw [hO]
  rw [hO] at hed
  obtain ⟨e, hee⟩ : ∃ e, edL op at' d (findB id mp).1 (findB id mp).2 = e := ⟨_, rfl⟩
  rw [hee] at hed hTe ⊢
  rw [hTe]
  have hnow : CellOk c.1 (nowC id lf e) := by
    unfold nowC
    split
    · exact blkC_ok hlfb.2.2 hid hlf ⟨hlfb.1, hlfb.2.1⟩ hed.1 hed.2
    · exact zeros_ok _
  have hT : TabOk c (gatT id lf e (accC M first c fr)) := ⟨fun i _ => gatT_ok hcell hnow i⟩
  have hCl : (accC M first c fr).length = W.length := by unfold accC; rw [List.length_map, hWe]
  rw [hWe] at hlen
  have hblank : ∀ i : Nat, placesD (lcSh c) ≤ i → i < (lcTab c).toNat → (gatT id lf e (accC M first c fr) i).getD 0 0 ≠ 1 := fun i h1 _ => by
    rw [gatT_gt (by omega)]
    decide
  have hTb := gat_blocks (id := id) (lf := lf) (e := e) (cs := accC M first c fr) hed.1 (n := (lcTab c).toNat) (by omega)
  rw [hcs] at hTb
  have hOf : (O.filterMap f).filter (fun b => !(b.1 == id)) = O.filterMap f := List.filter_eq_self.2 fun b hb => by simpa using hOb b hb
  have hmf : (mp.filter (fun b => !(b.1 == id))).Perm ((W.filterMap f).filter (fun b => !(b.1 == id)) ++ O.filterMap f) := by
    have h1 := (hp2.filter (fun b => !(b.1 == id))).symm
    rw [List.filter_append, hOf] at h1
    exact h1
  generalize gatT id lf e (accC M first c fr) = T at *
  refine ⟨fun hL => ?_, fun h => ?_⟩
  · have hnew := acc_blocks hr hfr hT hblank hL (n := W.length) hlen
    have hsp' : ∀ s ∈ spL first c fr, M.has s.1 s.2 = true := hsp
    have hWr : ∀ (i : Nat) (hi : i < W.length), (accM M first c fr T).read (W[i]).1 (W[i]).2 = accU c fr T i := fun i hi => by
      subst hWe
      exact accM_at hr hfr hf hok.tab hsp' hi
    have hOr : ∀ s ∈ allS first c, s ∉ W → (accM M first c fr T).read s.1 s.2 = M.read s.1 s.2 := fun s hs hn => by
      subst hWe
      exact accM_off hf hok.tab hsp' hn (by rcases allS_reg s hs with h | h <;> omega)
    refine ⟨acc_lvOk hr hfr hf hT hok, ?_, ?_, ?_⟩
    · unfold mpN
      rw [List.map_append]
      refine List.pairwise_append.2 ⟨hids.sublist (List.filter_sublist.map _), ?_, fun a ha b hb hab => ?_⟩
      · cases e.2
        · exact List.Pairwise.nil
        · exact List.pairwise_singleton _ _
      · obtain ⟨x, hx, rfl⟩ := List.mem_map.1 ha
        have h1 := (List.mem_filter.1 hx).2
        cases h2 : e.2 with
        | false => rw [h2] at hb; cases hb
        | true =>
          rw [h2] at hb
          have h3 : b = id := by simpa using hb
          rw [h3] at hab
          simp [hab] at h1
    · have e1 : W.filterMap (fun s => bk ((accM M first c fr T).read s.1 s.2)) = (List.range W.length).filterMap (fun i => bk (accU c fr T i)) := by
        conv => lhs; rw [← getD_range W (0, 0)]
        rw [List.filterMap_map]
        refine filterMap_congrL fun i hi => ?_
        have hi2 := List.mem_range.1 hi
        have h3 : W.getD i (0, 0) = W[i] := by rw [List.getD_eq_getElem?_getD, List.getElem?_eq_getElem hi2]; rfl
        simp only [Function.comp]
        rw [h3, hWr i hi2]
      have e2 : O.filterMap (fun s => bk ((accM M first c fr T).read s.1 s.2)) = O.filterMap f := by
        refine filterMap_congrL fun s hs => ?_
        rw [← hOe, List.mem_filter] at hs
        rw [hOr s hs.1 (by simpa using hs.2), hfs]
      refine (hWO.filterMap _).trans ?_
      rw [List.filterMap_append, e1, e2]
      unfold mpN
      refine (List.Perm.append_right _ hnew).trans ?_
      rw [hTb, List.append_assoc]
      refine (List.Perm.append_left _ List.perm_append_comm).trans ?_
      rw [← List.append_assoc]
      exact List.Perm.append_right _ hmf.symm
    · intro s hs b hb
      by_cases hin : s ∈ W
      · obtain ⟨i, hi, rfl⟩ := List.getElem_of_mem hin
        rw [hWr i hi, bk_accU hr hfr hT (by omega)] at hb
        obtain ⟨h1, h2, h3⟩ := row_spec hr hfr hT hblank hL (by omega) hb
        subst hWe
        exact spL_on hr hfr h2 hi h3
      · rw [hOr s hs hin] at hb
        exact hon s hs b hb
  · refine lost_few hr hfr hT ?_
    rw [hTb, List.length_append]
    unfold mpN at h
    rw [List.length_append] at h
    have h1 := hmf.length_eq
    rw [List.length_append] at h1
    omega
end Go.Sg
end
section

/-
  The walks of a level's Over, Blocks, Sizes and New.
-/
namespace Go.Sg
open Go Go.RowKit
/-- how many blocks were ever put -/
def cntL (ids : List Int) : Nat := Maps.size (idsD ids)
/-- how many cells a level needs -/
def szL (c : Lc) : Int × Int × Int := if lcRight c then (c.2.1 * nodesI c.1, c.2.2, lcTab c) else (0, 0, 0)
end Go.Sg
namespace Go.Proofs.YthchfdobdghdoaaGreat
open Go Go.RowKit Go.Sg
variable {w0 w w' : World} {p : Nat} {M : Mm} {D : Nat → Prop} {X : World → Prop}
set_option maxRecDepth 100000 in
theorem lOver_any (p q ib : Nat) (c : Lc) (first : Int) (over : Bool) (w : World) (h : Blk w q (lvV c p first over ib) 92) :
    Calls Tryz.prog 26 #[.pointer (some ⟨q, 0, none⟩)] w fun e w' => e = .returned (.bool over) ∧ w' = w := by
  have c5 : w.cell? ⟨q, 5, none⟩ = some (.bool over) := h.cell 5
  clear h
  go_enter Tryz.func26, Tryz.ntmps26
  go_wp2
  go_ret
  exact ⟨rfl, rfl⟩
set_option maxRecDepth 100000 in
theorem lBlocks_any (p q ib : Nat) (c : Lc) (first : Int) (over : Bool) (ids : List Int) (w : World) (h : LvX p q ib c first over ids w) :
    Calls Tryz.prog 27 #[.pointer (some ⟨q, 0, none⟩)] w fun e w' => e = .returned (.int .i64 (cntL ids)) ∧ w' = w := by
  have c6 : w.cell? ⟨q, 6, none⟩ = some (.map (some ib)) := h.1.cell 6
  have HMW := Lib.hid h.2
  have HC : Hid (Maps.size (idsD ids) = cntL ids) := Lib.hid rfl
  clear h
  go_enter Tryz.func27, Tryz.ntmps27
  go_wp2_with (first
    | (at_len; refine wpList_len_own _ rfl (.tmp 6) 90 rfl 56 3 Tryz.underlying90 _ ib ids.length (idsD ids) rfl HMW.out ?_)
    | fail)
  rw [HC.out]
  go_wp2
  go_ret
  exact ⟨rfl, rfl⟩
set_option maxHeartbeats 1000000 in
set_option maxRecDepth 100000 in
theorem lSizes_any (c : Lc) (hc : LcOk c) (w : World) :
    Calls Tryz.prog 6 #[.agg #[.int .i64 c.1, .int .i64 c.2.1, .int .i64 c.2.2]] w fun e w' => e = .returned (.tuple #[.int .i64 (szL c).1, .int .i64 (szL c).2.1, .int .i64 (szL c).2.2]) ∧ Below w.heap.size w w' := by
  have KR := Lib.hid (fun w' => lright_any c hc w')
  have KT := Lib.hid (fun w' => table_any c hc w')
  have KN := Lib.hid (fun w' => pathNodes_any c.1 hc.1 w')
  obtain ⟨A, hA⟩ : ∃ A, w.heap.size = A := ⟨_, rfl⟩
  obtain ⟨w1, hw1⟩ : ∃ w1, w.alloc (.cells #[.int .i64 c.1, .int .i64 c.2.1, .int .i64 c.2.2] 23) = w1 := ⟨_, rfl⟩
  have hb1 : Below w.heap.size w w1 := by rw [← hw1]; exact (Below.refl _ _).alloc (Nat.le_refl _) _
  have k1 : Blk w1 A #[.int .i64 c.1, .int .i64 c.2.1, .int .i64 c.2.2] 23 := by rw [← hw1, ← hA]; exact Blk.new w _ _
  have HB1 := Lib.hid hb1
  have K1 := Lib.hid k1
  have HW1 := Lib.hid hw1
  have a0 : w1.cell? ⟨A, 0, none⟩ = some (.int .i64 c.1) := k1.cell 0
  have a1 : w1.cell? ⟨A, 1, none⟩ = some (.int .i64 c.2.1) := k1.cell 1
  have a2 : w1.cell? ⟨A, 2, none⟩ = some (.int .i64 c.2.2) := k1.cell 2
  have HIL := Lib.hid (info_lcL c)
  clear hw1 hb1 k1
  by_cases hr : lcRight c = true
  · have hS : szL c = (c.2.1 * nodesI c.1, c.2.2, lcTab c) := by unfold szL; rw [if_pos hr]
    have hb := lcRight_bd hr
    have hn : 0 ≤ nodesI c.1 ∧ nodesI c.1 ≤ 2047 := by
      have hR := (lcRight_iff hr).1
      obtain ⟨D, hD, e⟩ := rightB_of hR
      have h1 := pow_mono' D 10 hD
      have h2 : (2 : Int) ^ 10 = 1024 := by decide
      have h3 := pow_mono' 0 D (by omega)
      have h4 : (2 : Int) ^ 0 = 1 := by decide
      unfold nodesI
      rw [if_pos hR]
      omega
    have hm : 0 ≤ c.2.1 * nodesI c.1 ∧ c.2.1 * nodesI c.1 ≤ 8 * 2047 := ⟨Int.mul_nonneg (by omega) hn.1, Int.mul_le_mul (by omega) hn.2 hn.1 (by omega)⟩
    have wm : IntKind.i64.wrap (c.2.1 * nodesI c.1) = c.2.1 * nodesI c.1 := by rw [IntKind.wrap_i64]; omega
    rw [hS]
    rw [hr] at KR
    clear hS hr
    go_enter Tryz.func6, Tryz.ntmps6
    go_wp2_with fail
    rw [HW1.out]
    refine (KR.out _).mono ?_
    rintro e w2 ⟨rfl, hb2⟩
    have HC : Hid (∀ w', Below w2.heap.size w2 w' → w'.cell? ⟨A, 0, none⟩ = some (.int .i64 c.1) ∧ w'.cell? ⟨A, 1, none⟩ = some (.int .i64 c.2.1) ∧ w'.cell? ⟨A, 2, none⟩ = some (.int .i64 c.2.2)) := Lib.hid fun w' hb => by
      have k2 := (K1.out.below hb2 K1.out.lt).below hb (K1.out.below hb2 K1.out.lt).lt
      exact ⟨k2.cell 0, k2.cell 1, k2.cell 2⟩
    have HB2 : Hid (Below w.heap.size w w2) := Lib.hid (HB1.out.trans (hb2.mono HB1.out.size))
    have hd : Below w2.heap.size w2 w2.drew := (Below.refl _ _).drew
    clear hb2 a0 a1 a2
    go_upto_region 3 with fail
    go_region_held3 (fun w' => w'.cell? ⟨A, 0, none⟩ = some (.int .i64 c.1) ∧ w'.cell? ⟨A, 1, none⟩ = some (.int .i64 c.2.1) ∧ w'.cell? ⟨A, 2, none⟩ = some (.int .i64 c.2.2)) (first | exact HC.out _ hd | exact HC.out _ h3) (first
      | (go_at_call 32; with_reducible refine (KN.out _).mono ?_; rintro e wn ⟨rfl, rfl⟩)
      | (go_at_call 33; with_reducible refine (KT.out _).mono ?_; rintro e w3 ⟨rfl, hb3⟩; have h3 : Below w2.heap.size w2 w3 := hd.trans (hb3.mono hd.size)))
    all_goals
      have HB3 : Hid (Below w.heap.size w w3) := Lib.hid (HB2.out.trans (h3.mono HB2.out.size))
      clear h3 hb3 hd
      go_wp2
      go_ret3
      exact ⟨rfl, HB3.out⟩
  · have hr' : lcRight c = false := by simpa using hr
    have hS : szL c = (0, 0, 0) := by unfold szL; rw [if_neg hr]
    rw [hS]
    rw [hr'] at KR
    clear hS hr hr'
    go_enter Tryz.func6, Tryz.ntmps6
    go_wp2_with fail
    rw [HW1.out]
    refine (KR.out _).mono ?_
    rintro e w2 ⟨rfl, hb2⟩
    have HB2 : Hid (Below w.heap.size w w2) := Lib.hid (HB1.out.trans (hb2.mono HB1.out.size))
    clear hb2
    go_wp2
    go_ret3
    exact ⟨rfl, HB2.out⟩
/-- can a level be made here? -/
def newOk (M : Mm) (first : Int) (c : Lc) : Bool := lcRight c && (decide ((szL c).1 ≤ (M.size first : Int)) && (decide ((szL c).2.1 ≤ (M.size (first + 1) : Int)) && decide ((szL c).2.2 ≤ (M.size (first + 2) : Int))))
set_option maxHeartbeats 2000000 in
set_option maxRecDepth 100000 in
theorem lNew_any (hK : Keeps D X) (c : Lc) (hc : LcOk c) (first : Int) (hf : Num first) (hf2 : first < 9223372036854775800) (h : OneX 88 w0 w p M D X) :
    Calls Tryz.prog 12 #[.pointer (some ⟨p, 0, none⟩), .int .i64 first, .agg #[.int .i64 c.1, .int .i64 c.2.1, .int .i64 c.2.2]] w fun e w' =>
      if newOk M first c then ∃ q ib, e = .returned (.tuple #[.pointer (some ⟨q, 0, none⟩), .int .i64 0]) ∧ LvR w0 w' p q ib c first ⟨M, false, []⟩ D X
      else e = .returned (.tuple #[.pointer none, .int .i64 1]) ∧ OneX 88 w0 w' p M D X := by
  have KR := Lib.hid (fun w' => lright_any c hc w')
  have KZ := Lib.hid (fun w' => lSizes_any c hc w')
  have KS := Lib.hid (fun r w' (h' : OneX 88 w0 w' p M D X) => one_size r h')
  obtain ⟨A, hA⟩ : ∃ A, w.heap.size = A := ⟨_, rfl⟩
  obtain ⟨w1, hw1⟩ : ∃ w1, w.alloc (.cells #[.int .i64 c.1, .int .i64 c.2.1, .int .i64 c.2.2] 23) = w1 := ⟨_, rfl⟩
  have hb1 : Below w.heap.size w w1 := by rw [← hw1]; exact (Below.refl _ _).alloc (Nat.le_refl _) _
  have k1 : Blk w1 A #[.int .i64 c.1, .int .i64 c.2.1, .int .i64 c.2.2] 23 := by rw [← hw1, ← hA]; exact Blk.new w _ _
  have HX1 := Lib.hid (h.below hK hb1)
  have K1 := Lib.hid k1
  have HW1 := Lib.hid hw1
  have a0 : w1.cell? ⟨A, 0, none⟩ = some (.int .i64 c.1) := k1.cell 0
  have a1 : w1.cell? ⟨A, 1, none⟩ = some (.int .i64 c.2.1) := k1.cell 1
  have a2 : w1.cell? ⟨A, 2, none⟩ = some (.int .i64 c.2.2) := k1.cell 2
  have HIL := Lib.hid (info_lcL c)
  have HK := Lib.hid hK
  obtain ⟨z, hz⟩ : ∃ z, szL c = z := ⟨_, rfl⟩
  obtain ⟨t1, t2, t3⟩ := z
  rw [hz] at KZ
  unfold newOk
  rw [hz]
  have hs1 := Mm.size_le h.ok first
  have hs2 := Mm.size_le h.ok (first + 1)
  have hs3 := Mm.size_le h.ok (first + 2)
  have wf1 : IntKind.i64.wrap (first + 1) = first + 1 := by unfold Num at hf; rw [IntKind.wrap_i64]; omega
  have wf2 : IntKind.i64.wrap (first + 2) = first + 2 := by unfold Num at hf; rw [IntKind.wrap_i64]; omega
  have KS1 := Lib.hid (KS.out first)
  have KS2 := Lib.hid (KS.out (first + 1))
  have KS3 := Lib.hid (KS.out (first + 2))
  clear hw1 hb1 k1 KS hz h hK
  generalize M.size first = m1 at *
  generalize M.size (first + 1) = m2 at *
  generalize M.size (first + 2) = m3 at *
  obtain ⟨ok, hok⟩ : ∃ ok, (lcRight c && (decide (t1 ≤ (m1 : Int)) && (decide (t2 ≤ (m2 : Int)) && decide (t3 ≤ (m3 : Int))))) = ok := ⟨_, rfl⟩
  simp only
  rw [hok]
  obtain ⟨rt, hrt⟩ : ∃ rt, lcRight c = rt := ⟨_, rfl⟩
  rw [hrt] at KR hok
  have HOK := Lib.hid hok
  clear hok hrt
  go_enter Tryz.func12, Tryz.ntmps12
  go_wp2_with fail
  rw [HW1.out]
  refine (KZ.out _).mono ?_
  rintro e w2 ⟨rfl, hb2⟩
  have HX2 := Lib.hid (HX1.out.below HK.out hb2)
  have K2 := Lib.hid (K1.out.below hb2 K1.out.lt)
  have b0 : w2.cell? ⟨A, 0, none⟩ = some (.int .i64 c.1) := K2.out.cell 0
  have b1 : w2.cell? ⟨A, 1, none⟩ = some (.int .i64 c.2.1) := K2.out.cell 1
  have b2 : w2.cell? ⟨A, 2, none⟩ = some (.int .i64 c.2.2) := K2.out.cell 2
  clear a0 a1 a2 hb2 HX1 K1 KZ
  go_upto_region 2 with fail
  go_cut [42] (fun b wx => b = .bool (!ok) ∧ Hid (OneX 88 w0 wx p M D X) ∧ Hid (Blk wx A #[.int .i64 c.1, .int .i64 c.2.1, .int .i64 c.2.2] 23))
  case first =>
    go_wp2_with fail
    refine (KR.out _).mono ?_
    rintro e w3 ⟨rfl, hb3⟩
    have HX3 := Lib.hid (HX2.out.below HK.out hb3)
    have K3 := Lib.hid (K2.out.below hb3 K2.out.lt)
    clear hb3 HX2 K2
    cases rt with
    | false =>
      have hb : Hid (ok = false) := Lib.hid (by rw [← HOK.out]; rfl)
      go_wp2_with fail
      go_meet
      exact ⟨by rw [hb.out]; rfl, HX3, K3⟩
    | true =>
    by_cases e1 : (m1 : Int) < t1
    · have d1 : decide ((m1 : Int) < t1) = true := decide_eq_true e1
      have hb : Hid (ok = false) := Lib.hid (by rw [← HOK.out, decide_eq_false (show ¬ t1 ≤ (m1 : Int) by omega)]; rfl)
      clear e1
      go_wp2_with fail
      refine (KS1.out _ HX3.out).mono ?_
      rintro e w4 ⟨rfl, rfl⟩
      go_wp2_with fail
      go_meet
      exact ⟨by rw [hb.out]; rfl, HX3, K3⟩
    have d1 : decide ((m1 : Int) < t1) = false := decide_eq_false e1
    by_cases e2 : (m2 : Int) < t2
    · have d2 : decide ((m2 : Int) < t2) = true := decide_eq_true e2
      have hb : Hid (ok = false) := Lib.hid (by rw [← HOK.out, decide_eq_true (show t1 ≤ (m1 : Int) by omega), decide_eq_false (show ¬ t2 ≤ (m2 : Int) by omega)]; rfl)
      clear e1 e2
      go_wp2_with fail
      refine (KS1.out _ HX3.out).mono ?_
      rintro e w4 ⟨rfl, rfl⟩
      go_wp2_with fail
      refine (KS2.out _ HX3.out).mono ?_
      rintro e w4 ⟨rfl, rfl⟩
      go_wp2_with fail
      go_meet
      exact ⟨by rw [hb.out]; rfl, HX3, K3⟩
    have d2 : decide ((m2 : Int) < t2) = false := decide_eq_false e2
    obtain ⟨b3, hb3⟩ : ∃ b, decide ((m3 : Int) < t3) = b := ⟨_, rfl⟩
    have hb : Hid ((!ok) = b3) := Lib.hid (by
      rw [← HOK.out, ← hb3, decide_eq_true (show t1 ≤ (m1 : Int) by omega), decide_eq_true (show t2 ≤ (m2 : Int) by omega)]
      by_cases e3 : (m3 : Int) < t3
      · rw [decide_eq_true e3, decide_eq_false (show ¬ t3 ≤ (m3 : Int) by omega)]; rfl
      · rw [decide_eq_false e3, decide_eq_true (show t3 ≤ (m3 : Int) by omega)]; rfl)
    clear e1 e2
    go_wp2_with fail
    refine (KS1.out _ HX3.out).mono ?_
    rintro e w4 ⟨rfl, rfl⟩
    go_wp2_with fail
    refine (KS2.out _ HX3.out).mono ?_
    rintro e w4 ⟨rfl, rfl⟩
    go_wp2_with fail
    refine (KS3.out _ HX3.out).mono ?_
    rintro e w4 ⟨rfl, rfl⟩
    go_wp2_with fail
    go_meet
    exact ⟨by rw [hb.out], HX3, K3⟩
  case rest =>
    obtain ⟨rfl, HX3, K3⟩ := hcut
    generalize wc = w3 at *
    have b0 : w3.cell? ⟨A, 0, none⟩ = some (.int .i64 c.1) := K3.out.cell 0
    have b1 : w3.cell? ⟨A, 1, none⟩ = some (.int .i64 c.2.1) := K3.out.cell 1
    have b2 : w3.cell? ⟨A, 2, none⟩ = some (.int .i64 c.2.2) := K3.out.cell 2
    clear HX2 K2 KR KS1 KS2 KS3
    cases ok with
    | false =>
      go_wp2_with fail
      go_ret2
      exact ⟨rfl, HX3.out⟩
    | true =>
      obtain ⟨B, hB⟩ : ∃ B, w3.heap.size = B := ⟨_, rfl⟩
      have hmm := @run_makeMap Tryz.prog
      go_wp2_with fail
      go_ret2
      have hX := HX3.out
      have hB0 : w0.heap.size ≤ B := by rw [← hB]; exact hX.old.size
      have hb1 : Below w3.heap.size w3 (w3.alloc (.map #[] 0)) := (Below.refl _ _).alloc (Nat.le_refl _) _
      have hm : MapW (w3.alloc (.map #[] 0)) B [] := by rw [← hB]; exact World.ownsMap_made w3 _ _ _
      have h1 := hX.ret HK.out (E := fun k => k = B) (Y := fun w => MapW w B []) hb1 (fun k hk => by rw [hk]; simp; omega) hm
      have h2 := h1.box (keeps_and HK.out (keeps_map B [])) (lvV c p first false B) 92
      have hs : (w3.alloc (.map #[] 0)).heap.size = B + 1 := by simp [hB]
      rw [hs] at h2
      refine ⟨B + 1, rfl, B, ?_⟩
      refine ⟨h2.less (fun k hk => ?_) (fun hx => ⟨hx.1.1, hx.2, hx.1.2⟩), fun k hk => ?_, by omega, by omega⟩
      · rcases hk with hk | hk | hk
        · exact .inl (.inl hk)
        · exact .inr hk
        · exact .inl (.inr hk)
      · have := hX.ltD k hk
        omega
end Go.Proofs.YthchfdobdghdoaaGreat
end
section

/-
  The walks of shellgamelaw10's own functions: pick, leaf, config, data.
-/
namespace Go.Sg
open Go Go.RowKit
/-- a small config, of a raw number -/
def cfgL (n : Int) : Lc := (2 ^ (pickD n 4).toNat, 1 + pickD (n.tdiv 4) 3, 1 + pickD (n.tdiv 12) 8)
/-- data of a number -/
def datF (n : Int) (i : Nat) : Int := IntKind.u64.wrap (IntKind.u64.wrap (n * (2 * i + 3)) + i)
def datU (n : Int) (k : Nat) : List Int := (List.range 8).map (fun i => if i < k then datF n i else 0)
def datL (n : Int) : List Int := (List.range 8).map (datF n)
theorem datU_len (n : Int) (k : Nat) : (datU n k).length = 8 := by simp [datU]
theorem datU_end (n : Int) : datU n 8 = datL n := by
  unfold datU datL
  refine List.map_congr_left (fun i hi => ?_)
  rw [if_pos (List.mem_range.1 hi)]
theorem datU_zero (n : Int) : datU n 0 = zero8 := by simp [datU, zero8, List.range_succ]
theorem datU_set (n : Int) {k : Nat} (hk : k < 8) : (datU n k).set k (datF n k) = datU n (k + 1) := by
  apply List.ext_getElem?
  intro j
  rw [List.getElem?_set]
  unfold datU
  by_cases e : k = j
  · subst e
    simp [hk]
  · rw [if_neg e]
    by_cases hj : j < 8
    · simp only [List.getElem?_map, List.getElem?_range hj, Option.map_some]
      by_cases h : j < k
      · rw [if_pos h, if_pos (by omega)]
      · rw [if_neg h, if_neg (by omega)]
    · rw [List.getElem?_eq_none (by simpa using hj), List.getElem?_eq_none (by simpa using hj)]
theorem datL_len (n : Int) : (datL n).length = 8 := by simp [datL]
theorem datF_word (n : Int) (i : Nat) : Word (datF n i) := by
  unfold datF Word
  rw [IntKind.wrap_u64]
  omega
theorem datL_word (n : Int) : ∀ x ∈ datL n, Word x := by
  intro x hx
  obtain ⟨i, _, rfl⟩ := List.mem_map.1 hx
  exact datF_word n i
end Go.Sg
namespace Go.Proofs.YthchfdobdghdoaaGreat
open Go Go.RowKit Go.Sg
theorem lpick_any (c n : Int) (hc : Num c) (hn : 0 < n) (hn2 : n < 9223372036854775808) (w : World) : Calls Tryz.prog 13 #[.int .i64 c, .int .i64 n] w fun e w' => e = .returned (.int .i64 (pickD c n)) ∧ w' = w := by
  have h1 : (n == 0) = false := by simp; omega
  obtain ⟨hc1, hc2⟩ := hc
  by_cases h : c < 0
  · have hw : IntKind.i64.wrap (c + 1) = c + 1 := by rw [IntKind.wrap_i64]; omega
    have hw2 : IntKind.i64.wrap (-(c + 1)) = -(c + 1) := by rw [IntKind.wrap_i64]; omega
    have HP : Hid ((-(c + 1)).tmod n = pickD c n) := Lib.hid (by unfold pickD; rw [if_pos h, Int.tmod_eq_emod_of_nonneg (by omega)])
    have hb : Hid (0 ≤ pickD c n ∧ pickD c n < n) := Lib.hid (pickD_bd hn)
    go_enter Tryz.func13, Tryz.ntmps13
    go_wp2
    go_ret
    exact ⟨ret_i64' (by rw [← HP.out, Int.neg_tmod]), rfl⟩
  · have HP : Hid (c.tmod n = pickD c n) := Lib.hid (by unfold pickD; rw [if_neg h, Int.tmod_eq_emod_of_nonneg (by omega)])
    go_enter Tryz.func13, Tryz.ntmps13
    go_wp2
    go_ret
    exact ⟨ret_i64' (by unfold pickD; rw [if_neg (by omega)]), rfl⟩
set_option maxHeartbeats 1000000 in
set_option maxRecDepth 100000 in
theorem ldata_any (n : Int) (hn : Word n) (w : World) : Calls Tryz.prog 23 #[.int .u64 n] w fun e w' => e = .returned (.agg (cw (datL n))) ∧ Below w.heap.size w w' := by
  obtain ⟨B, hB⟩ : ∃ B, w.heap.size = B := ⟨_, rfl⟩
  obtain ⟨w2, hw2⟩ : ∃ w2, (w.alloc (.cells #[.int .u64 0, .int .u64 0, .int .u64 0, .int .u64 0, .int .u64 0, .int .u64 0, .int .u64 0, .int .u64 0] 61)).alloc (.cells #[.int .u64 0, .int .u64 0, .int .u64 0, .int .u64 0, .int .u64 0, .int .u64 0, .int .u64 0, .int .u64 0] 61) = w2 := ⟨_, rfl⟩
  have hb2 : Below w.heap.size w w2 := by rw [← hw2]; exact ((Below.refl _ _).alloc (Nat.le_refl _) _).alloc (by simp) _
  have h1 : Blk w2 B #[.int .u64 0, .int .u64 0, .int .u64 0, .int .u64 0, .int .u64 0, .int .u64 0, .int .u64 0, .int .u64 0] 61 := by rw [← hw2, ← hB]; exact (Blk.new w _ _).alloc _
  have h2 : Blk w2 (B + 1) #[.int .u64 0, .int .u64 0, .int .u64 0, .int .u64 0, .int .u64 0, .int .u64 0, .int .u64 0, .int .u64 0] 61 := by
    rw [← hw2, ← hB]
    have := Blk.new (w.alloc (.cells #[.int .u64 0, .int .u64 0, .int .u64 0, .int .u64 0, .int .u64 0, .int .u64 0, .int .u64 0, .int .u64 0] 61)) #[.int .u64 0, .int .u64 0, .int .u64 0, .int .u64 0, .int .u64 0, .int .u64 0, .int .u64 0, .int .u64 0] 61
    simpa using this
  have H0 : Hid (Blk w2 B (cw zero8) 61 ∧ Blk w2 (B + 1) (cw (datU n 0)) 61 ∧ Below w.heap.size w w2) := Lib.hid ⟨h1, by rw [datU_zero]; exact h2, hb2⟩
  have HBB : Hid (w.heap.size = B) := Lib.hid hB
  have HW2 := Lib.hid hw2
  clear hb2 h1 h2 hw2
  go_enter Tryz.func23, Tryz.ntmps23
  go_upto_region 3 with fail
  rw [HW2.out]
  go_loopw [4] (fun iv wr => ∃ k : Nat, k ≤ 8 ∧ iv = .int .i64 k ∧ Hid (Blk wr B (cw zero8) 61 ∧ Blk wr (B + 1) (cw (datU n k)) 61 ∧ Below w.heap.size w wr)) (fun iv _ => 8 - (intOf iv).toNat)
  case atStart => exact ⟨0, by omega, rfl, H0⟩
  case round =>
    obtain ⟨k, hk, rfl, HS⟩ := hrel
    by_cases hlt : k < 8
    · have d : decide ((k : Int) < 8) = true := decide_eq_true (by omega)
      have d' : decide (k < 8) = true := decide_eq_true hlt
      have f1 : IntKind.i64.wrap (2 * (k : Int)) = 2 * k := by rw [IntKind.wrap_i64]; omega
      have f2 : IntKind.i64.wrap (2 * (k : Int) + 3) = 2 * k + 3 := by rw [IntKind.wrap_i64]; omega
      have f3 : IntKind.u64.wrap (2 * (k : Int) + 3) = 2 * k + 3 := by rw [IntKind.wrap_u64]; omega
      have f4 : IntKind.u64.wrap (k : Int) = k := by rw [IntKind.wrap_u64]; omega
      have k0 : (0 : Int) ≤ (k : Int) := by omega
      have k8 : (k : Int) < 8 := by omega
      have HF : Hid (IntKind.u64.wrap (IntKind.u64.wrap (n * (2 * k + 3)) + k) = datF n k) := Lib.hid rfl
      have hs : k < (cw (datU n k)).size := by rw [cw_size, datU_len]; exact hlt
      have ck : wr.cell? ⟨B + 1, k, none⟩ = some (cw (datU n k))[k] := by rw [HS.out.2.1.cell, Array.getElem?_eq_getElem hs]
      have fk : wr.frozen? ⟨B + 1, k, none⟩ = false := HS.out.2.1.free k
      generalize (cw (datU n k))[k] = y at *
      go_wp2_with fail
      rw [HF.out]
      refine ⟨⟨k + 1, by omega, by push_cast; rfl, Lib.hid ⟨?_, ?_, ?_⟩⟩, by simp [intOf]; omega⟩
      · have h := HS.out.1
        unfold Blk at h ⊢
        rw [Go.Deep.blk_setCell_other _ _ _ _ (show B ≠ (⟨B + 1, k, none⟩ : Addr).block from by simp)]
        exact h
      · have h := HS.out.2.1.set k (.int .u64 (datF n k))
        have e : (cw (datU n k)).setIfInBounds k (.int .u64 (datF n k)) = cw (datU n (k + 1)) := by
          rw [cw_eq, cw_eq, List.setIfInBounds_toArray, ← datU_set n hlt]
          unfold wv
          rw [List.map_set]
        rwa [e] at h
      · exact below_setCells (vs := [.int .u64 (datF n k)]) (by have := HBB.out; omega) k HS.out.2.2
    · obtain rfl : k = 8 := by omega
      have d : decide (((8 : Nat) : Int) < 8) = false := by decide
      have hs := HS.out
      rw [datU_end] at hs
      have HS2 := Lib.hid hs
      have HI : Hid ((Tryz.prog.info? 61).map (·.size) = some (cw (datL n)).size) := Lib.hid (info_dataL _ (datL_len n))
      have HO : Hid ((cw (datL n)).all (·.oneCell') = true) := Lib.hid (cw_all _)
      have HZ : Hid ((cw zero8).size = (cw (datL n)).size) := Lib.hid (by rw [cw_size, cw_size, datL_len]; rfl)
      clear hs HS H0
      go_wp2_with (first
        | (refine wpList_load_row rfl 61 (.tmp 3) rfl (B + 1) rfl 61 (cw (datL n)) (0, 0) _ HS2.out.2.1 Tryz.underlying61 rfl HI.out ?_)
        | (refine wpList_store_row rfl 61 (.tmp 2) (.tmp 20) rfl B (cw (datL n)) rfl rfl 61 _ HS2.out.1 HI.out HZ.out HO.out ?_)
        | fail)
      have HBF : Hid (Below w.heap.size w (wr.setRow B (cw (datL n)))) := Lib.hid (below_rowS HS2.out.2.2 _ _ (by have := HBB.out; omega))
      refine bodyPost_ret (results_cell_row rfl _ _ B 61 _ (0, 0) _ rfl (HS2.out.1.setRow _) Tryz.underlying61 rfl HI.out) rfl ⟨rfl, ?_⟩
      exact HBF.out
end Go.Proofs.YthchfdobdghdoaaGreat
end
section

/-
  The walks of shellgamelaw10's made and shown.
-/
namespace Go.Sg
open Go Go.RowKit
/-- the regions that a level is made in, behind one of one cell -/
def zsL (c : Lc) : List Int := [1, (szL c).1, (szL c).2.1, (szL c).2.2]
/-- a level as it is made -/
def mkL (c : Lc) : Ls := ⟨Mm.fresh (zsL c), false, []⟩
end Go.Sg
namespace Go.Proofs.YthchfdobdghdoaaGreat
open Go Go.RowKit Go.Sg
set_option maxHeartbeats 1000000 in
set_option maxRecDepth 100000 in
theorem lmade_any (c : Lc) (hc : LcOk c) (hz : Mm.newOk (zsL c) = true) (hn : newOk (Mm.fresh (zsL c)) 1 c = true) (w : World) :
    Calls Tryz.prog 20 #[.agg #[.int .i64 c.1, .int .i64 c.2.1, .int .i64 c.2.2]] w fun e w' => ∃ p q ib, e = .returned (.tuple #[.pointer (some ⟨p, 0, none⟩), .pointer (some ⟨q, 0, none⟩)]) ∧ LvR w w' p q ib c 1 (mkL c) (fun _ => False) (fun _ => True) := by
  have KZ := Lib.hid (fun w' => lSizes_any c hc w')
  have KM := Lib.hid (fun v w' h' => memNew_any v (zsL c) w' h')
  have KN := Lib.hid (fun (w0 : World) p w' h' => lNew_any (w0 := w0) (w := w') (p := p) (M := Mm.fresh (zsL c)) keeps_true c hc 1 ⟨by decide, by decide⟩ (by decide) h')
  obtain ⟨A, hA⟩ : ∃ A, w.heap.size = A := ⟨_, rfl⟩
  obtain ⟨w1, hw1⟩ : ∃ w1, w.alloc (.cells #[.int .i64 c.1, .int .i64 c.2.1, .int .i64 c.2.2] 23) = w1 := ⟨_, rfl⟩
  have hb1 : Below w.heap.size w w1 := by rw [← hw1]; exact (Below.refl _ _).alloc (Nat.le_refl _) _
  have k1 : Blk w1 A #[.int .i64 c.1, .int .i64 c.2.1, .int .i64 c.2.2] 23 := by rw [← hw1, ← hA]; exact Blk.new w _ _
  have HB1 := Lib.hid hb1
  have K1 := Lib.hid k1
  have HW1 := Lib.hid hw1
  have a0 : w1.cell? ⟨A, 0, none⟩ = some (.int .i64 c.1) := k1.cell 0
  have a1 : w1.cell? ⟨A, 1, none⟩ = some (.int .i64 c.2.1) := k1.cell 1
  have a2 : w1.cell? ⟨A, 2, none⟩ = some (.int .i64 c.2.2) := k1.cell 2
  have HZN := Lib.hid hz
  have HNN := Lib.hid hn
  have HZS : Hid (zsL c = [1, (szL c).1, (szL c).2.1, (szL c).2.2]) := Lib.hid rfl
  have HMK : Hid (mkL c = ⟨Mm.fresh (zsL c), false, []⟩) := Lib.hid rfl
  obtain ⟨s1, hs1⟩ : ∃ s, (szL c).1 = s := ⟨_, rfl⟩
  obtain ⟨s2, hs2⟩ : ∃ s, (szL c).2.1 = s := ⟨_, rfl⟩
  obtain ⟨s3, hs3⟩ : ∃ s, (szL c).2.2 = s := ⟨_, rfl⟩
  rw [hs1, hs2, hs3] at KZ HZS
  clear hw1 hb1 k1 hz hn hs1 hs2 hs3
  go_enter Tryz.func20, Tryz.ntmps20
  go_wp2_with fail
  rw [HW1.out]
  refine (KZ.out _).mono ?_
  rintro e w2 ⟨rfl, hb2⟩
  have K2 := Lib.hid (K1.out.below hb2 K1.out.lt)
  have HB2 : Hid (Below w.heap.size w w2) := Lib.hid (HB1.out.trans (hb2.mono HB1.out.size))
  clear hb2 a0 a1 a2 K1 HB1 HW1
  obtain ⟨S, hS⟩ : ∃ S, w2.heap.size = S := ⟨_, rfl⟩
  obtain ⟨w3, hw3⟩ : ∃ w3, w2.alloc (.cells #[.int .i64 1, .int .i64 s1, .int .i64 s2, .int .i64 s3] 3) = w3 := ⟨_, rfl⟩
  have hb3 : Below w2.heap.size w2 w3 := by rw [← hw3]; exact (Below.refl _ _).alloc (Nat.le_refl _) _
  have k3 : Blk w3 S #[.int .i64 1, .int .i64 s1, .int .i64 s2, .int .i64 s3] 3 := by rw [← hw3, ← hS]; exact Blk.new w2 _ _
  have hsl : Sl1 w3 (.slice (some ⟨S, 0, none⟩) 4 4) (ints (zsL c)) := by
    rw [HZS.out]
    refine .inr ⟨by simp [ints], S, 0, 4, rfl, by simp [ints], by decide, k3.lt, fun i hi => ?_⟩
    rw [Nat.zero_add, k3.cell]
    have h4 : i < 4 := by simpa [ints] using hi
    match i, h4 with
    | 0, _ => rfl
    | 1, _ => rfl
    | 2, _ => rfl
    | 3, _ => rfl
  have HSL := Lib.hid hsl
  have HB3 : Hid (Below w.heap.size w w3) := Lib.hid (HB2.out.trans (hb3.mono HB2.out.size))
  have K3 := Lib.hid (K2.out.below hb3 K2.out.lt)
  have HW3 := Lib.hid hw3
  clear hb3 k3 hsl hw3 HB2 K2 KZ
  go_wp2_with fail
  rw [HW3.out]
  refine (KM.out _ _ HSL.out).mono ?_
  rintro e w4 ⟨hb4, ⟨h0, -⟩ | ⟨-, p, F, rfl, hm, hF⟩⟩
  · rw [HZN.out] at h0; cases h0
  have K4 := Lib.hid (K3.out.below hb4 K3.out.lt)
  have HB4 : Hid (Below w.heap.size w w4) := Lib.hid (HB3.out.trans (hb4.mono HB3.out.size))
  have H4 : Hid (OneX 88 w w4 p (Mm.fresh (zsL c)) (fun _ => False) (fun _ => True)) := Lib.hid ⟨F, hm, fun k hk => Nat.le_trans HB3.out.size (hF k hk), HB4.out, fun _ h => h.elim, fun _ h => h.elim, trivial⟩
  have b0 : w4.cell? ⟨A, 0, none⟩ = some (.int .i64 c.1) := K4.out.cell 0
  have b1 : w4.cell? ⟨A, 1, none⟩ = some (.int .i64 c.2.1) := K4.out.cell 1
  have b2 : w4.cell? ⟨A, 2, none⟩ = some (.int .i64 c.2.2) := K4.out.cell 2
  have HIL := Lib.hid (info_lcL c)
  have KN4 := Lib.hid (KN.out w p w4 H4.out)
  clear hb4 hm hF K3 HB3 HSL KM KN HW3
  go_wp2_with fail
  refine KN4.out.mono ?_
  intro e w5 h5
  rw [if_pos HNN.out] at h5
  obtain ⟨q, ib, rfl, h6⟩ := h5
  have H6 := Lib.hid h6
  clear h6
  go_wp2
  go_ret2
  exact ⟨p, q, ib, rfl, by rw [HMK.out]; exact H6.out⟩
end Go.Proofs.YthchfdobdghdoaaGreat
end
section

/-
  A level as it is made, and its accesses, in plain Lean.
-/
namespace Go.Sg
open Go Go.RowKit Go.Proofs.YthchfdobdghdoaaGreat
theorem fresh_read (zs : List Int) (x a : Int) : (Mm.fresh zs).read x a = zeros := by
  unfold Mm.read
  split
  · rename_i h
    obtain ⟨i, j, hi, hj, rfl, rfl⟩ := Mm.has_spec h
    rw [Int.toNat_natCast, Int.toNat_natCast, List.getElem?_eq_getElem hi]
    simp only [Option.bind_some]
    rw [List.getElem?_eq_getElem hj]
    simp [Mm.fresh]
  · rfl
theorem fresh_size (zs : List Int) (k : Nat) (h : k < zs.length) : (Mm.fresh zs).size (k : Int) = (zs[k]).toNat := by
  have h2 : k < (Mm.fresh zs).regs.length := by simp [Mm.fresh, h]
  rw [Mm.size_in h2]
  simp [Mm.fresh]
theorem fresh_inv {c : Lc} (hr : lcRight c = true) : LvInv c 1 (Mm.fresh (zsL c)) [] := by
  have hb := lcRight_bd hr
  have hz : szL c = (c.2.1 * nodesI c.1, c.2.2, lcTab c) := by unfold szL; rw [if_pos hr]
  have hzs : zsL c = [1, c.2.1 * nodesI c.1, c.2.2, lcTab c] := by unfold zsL; rw [hz]
  have s1 : (Mm.fresh (zsL c)).size 1 = (c.2.1 * nodesI c.1).toNat := by
    rw [hzs]
    exact fresh_size [1, c.2.1 * nodesI c.1, c.2.2, lcTab c] 1 (by simp)
  have s2 : (Mm.fresh (zsL c)).size 2 = c.2.2.toNat := by
    rw [hzs]
    exact fresh_size [1, c.2.1 * nodesI c.1, c.2.2, lcTab c] 2 (by simp)
  have s3 : (Mm.fresh (zsL c)).size 3 = (lcTab c).toNat := by
    rw [hzs]
    exact fresh_size [1, c.2.1 * nodesI c.1, c.2.2, lcTab c] 3 (by simp)
  refine ⟨⟨fun lf hlf s hs => ⟨?_, by rw [fresh_read]; exact zeros_ok _⟩, ?_⟩, List.Pairwise.nil, ?_, fun s _ b h => ?_⟩
  · have h1 := spL_sub hr hlf s hs
    unfold allS at h1
    rcases List.mem_append.1 h1 with h2 | h2
    · obtain ⟨a, ha, rfl⟩ := List.mem_map.1 h2
      refine Mm.has_lt ?_
      rw [s1]
      exact List.mem_range.1 ha
    · obtain ⟨a, ha, rfl⟩ := spSt_mem.1 h2
      refine Mm.has_lt ?_
      show a < (Mm.fresh (zsL c)).size 2
      rw [s2]
      exact ha
  · show (lcTab c).toNat ≤ (Mm.fresh (zsL c)).size 3
    rw [s3]
    exact Nat.le_refl _
  · have : (allS 1 c).filterMap (fun s => bk ((Mm.fresh (zsL c)).read s.1 s.2)) = [] := List.filterMap_eq_nil_iff.2 fun s _ => by rw [fresh_read, bk_zeros]
    rw [this]
  · rw [fresh_read, bk_zeros] at h
    cases h
/-- a level that has lost nothing holds these blocks -/
structure LsInv (c : Lc) (first : Int) (S : Ls) (mp : List Bk) : Prop where
  inv : LvInv c first S.M mp
  over : S.over = false
theorem ls_start {c : Lc} (hr : lcRight c = true) : LsInv c 1 (mkL c) [] := ⟨fresh_inv hr, rfl⟩
theorem badA_of {c : Lc} {op id at' fr lf : Int} (hop : 0 ≤ op ∧ op ≤ 3) (hid : id ≤ 2147483648) (hfr : 0 ≤ fr ∧ fr < c.1) (hlf : 0 ≤ lf ∧ lf < c.1) (hat : op = 2 → 0 ≤ at' ∧ at' ≤ 6) : badA c op id at' fr lf = false := by
  unfold badA
  rw [decide_eq_false (by omega : ¬ op < 0), decide_eq_false (by omega : ¬ 3 < op), decide_eq_false (by omega : ¬ 2147483648 < id), decide_eq_false (by omega : ¬ fr < 0), decide_eq_false (by omega : ¬ c.1 ≤ fr), decide_eq_false (by omega : ¬ lf < 0), decide_eq_false (by omega : ¬ c.1 ≤ lf)]
  by_cases h : op = 2
  · rw [decide_eq_false (by have := hat h; omega : ¬ at' < 0), decide_eq_false (by have := hat h; omega : ¬ 6 < at')]
    simp
  · have : (op == 2) = false := beq_eq_false_iff_ne.2 h
    rw [this]; rfl
/-- an access of a level that has lost nothing -/
theorem ls_step {c : Lc} {first : Int} {S : Ls} {mp : List Bk} {op id at' fr lf : Int} {d : List Int} (hr : lcRight c = true) (hf : 0 ≤ first) (hI : LsInv c first S mp) (hop : 0 ≤ op ∧ op ≤ 3) (hid : 0 ≤ id ∧ id ≤ 2147483648) (hfr : 0 ≤ fr ∧ fr < c.1) (hlf : 0 ≤ lf ∧ lf < c.1)
    (hd : d.length = 8 ∧ ∀ x ∈ d, Word x) (hat : op = 2 → 0 ≤ at' ∧ at' ≤ 6) (hc : ∀ b ∈ mp, b.1 = id → b.2.1 = fr) :
    S.tell first c op id at' fr lf = findB id mp ∧ ((S.acc first c op id at' d fr lf).over = false → LsInv c first (S.acc first c op id at' d fr lf) (mpN mp id lf (edL op at' d (findB id mp).1 (findB id mp).2))) ∧
    (((mpN mp id lf (edL op at' d (findB id mp).1 (findB id mp).2)).length : Int) ≤ c.2.2 → (S.acc first c op id at' d fr lf).over = false) ∧
    (S.acc first c op id at' d fr lf).ids = (if op = 1 ∨ op = 2 then S.ids ++ [id] else S.ids) ∧ (S.acc first c op id at' d fr lf).M.evs.length ≤ S.M.evs.length + 300000 := by
  have hR := (lcRight_iff hr).1
  have hbad := badA_of (c := c) hop hid.2 hfr hlf hat
  have hfr' : hasB c.1 fr = true := by unfold hasB; rw [hR, decide_eq_true hfr.1, decide_eq_true hfr.2]; rfl
  have hlf' : hasB c.1 lf = true := by unfold hasB; rw [hR, decide_eq_true hlf.1, decide_eq_true hlf.2]; rfl
  obtain ⟨h1, h2, h3⟩ := acc_step hr hf hI.inv hfr' hlf' hid hd hat hc
  have hbd := lcTab_bd c
  have hln := spL_len (first := first) hr hfr'
  unfold Ls.tell Ls.acc
  rw [if_neg (by rw [hbad]; decide), if_neg (by rw [hbad]; decide)]
  refine ⟨h1, fun h => ⟨h2 ?_, h⟩, fun h => ?_, rfl, ?_⟩
  · simp only [hI.over, Bool.false_or, decide_eq_false_iff_not] at h
    exact List.length_eq_zero_iff.1 (by omega)
  · simp only
    rw [hI.over, h3 h]
    rfl
  · show (accM S.M first c fr _).evs.length ≤ _
    unfold accM
    rw [bakM_evs]
    have h4 := dealM_evs (gatM S.M (first + 2) (spL first c fr) (accT S.M first c fr lf id op at' d) (lcTab c).toNat) (first + 2) c fr (accT S.M first c fr lf id op at' d)
    have h5 := gatM_evs (M := S.M) (r := first + 2) (sp := spL first c fr) (T := accT S.M first c fr lf id op at' d) (lcTab c).toNat
    omega
end Go.Sg
end
