/-
  What shellgamelaw6.SortStays tells of runs: plain. The walk of shellgamelaw6.twice: it answers, and leaves all as it was.
-/
import Derived.Test.YtngpaibppdehdaaSortedL
import Derived.Deep.RegionHeld3
import Derived.BigQuiet
import Derived.OrdersIn
namespace Go.Sg
open Go Go.RowKit Go.Proofs.Ytngpaibppdehdaa
theorem laid_cells {t : Nat} {xs : List Int} (hl : xs.length = 2 ^ t) : (laidM 1 (2 ^ t) xs).cells 0 = xs.map cellL := by
  have HL := laid_f (r := 1) (c := 2 ^ t) xs (by decide)
  have hs : (laidM 1 (2 ^ t) xs).size 0 = 2 ^ t := HL.size 0
  have hc := Mm.cells_len (M := laidM 1 (2 ^ t) xs) (Int.le_refl 0)
  apply List.ext_getElem?
  intro i
  rcases Nat.lt_or_ge i (2 ^ t) with h | h
  · rw [Mm.read_cells' (Int.le_refl 0) (by omega), HL.read, if_pos ⟨rfl, h, by omega⟩, List.getElem?_map, List.getElem?_eq_getElem (by omega), List.getD_eq_getElem?_getD, List.getElem?_eq_getElem (by omega)]
    rfl
  · rw [List.getElem?_eq_none (by omega), List.getElem?_eq_none (by rw [List.length_map]; omega)]
theorem whole_eq {M : Mm} {t : Nat} {xs : List Int} (ht : t ≤ 10) (hs : M.size 0 = 2 ^ t) (hw : ∀ x ∈ xs, Word x) (hc : (M.cells 0).Perm (xs.map cellL)) :
    ∃ ys, SortOf xs ys ∧ (runM M 0 ((2 ^ t : Nat) : Int) ((0 : Nat) : Int)).cells 0 = ys.map cellL := by
  obtain ⟨h1, h2⟩ := runM_whole (kn := 0) ht (by decide) hs
  have hp := h1.trans hc
  generalize (runM M 0 ((2 ^ t : Nat) : Int) ((0 : Nat) : Int)).cells 0 = cs at *
  have hm : ∀ c ∈ cs, ∃ a ∈ xs, c = cellL a := fun c hcc => by
    obtain ⟨a, ha, rfl⟩ := List.mem_map.1 (hp.mem_iff.1 hcc)
    exact ⟨a, ha, rfl⟩
  refine ⟨cs.map (fun c => c.getD 0 0), ⟨?_, ?_⟩, ?_⟩
  · rw [List.pairwise_map]
    refine h2.imp_of_mem fun {x y} hx hy h => ?_
    obtain ⟨a, ha, rfl⟩ := hm x hx
    obtain ⟨b, hb, rfl⟩ := hm y hy
    unfold kf at h
    rw [cellL_head (hw a ha), cellL_head (hw b hb)] at h ⊢
    obtain ⟨a0, a1⟩ := hw a ha
    obtain ⟨b0, b1⟩ := hw b hb
    omega
  · have h3 := hp.map (fun c => c.getD 0 0)
    rw [List.map_map] at h3
    have h4 : xs.map ((fun c => c.getD 0 0) ∘ cellL) = xs := by
      have : xs.map ((fun c => c.getD 0 0) ∘ cellL) = xs.map id := List.map_congr_left fun a ha => cellL_head (hw a ha)
      rw [this, List.map_id]
    rwa [h4] at h3
  · rw [List.map_map]
    have h4 : cs.map (cellL ∘ fun c => c.getD 0 0) = cs.map id := List.map_congr_left fun c hcc => by
      obtain ⟨a, ha, rfl⟩ := hm c hcc
      show cellL ((cellL a).getD 0 0) = cellL a
      rw [cellL_head (hw a ha)]
    rw [h4, List.map_id]
/-- two runs by the first word of one memory, one run of the other -/
theorem stays_plain {t : Nat} (ht : t ≤ 6) {xs ys : List Int} (hl : xs.length = 2 ^ t) (hw : ∀ x ∈ xs, Word x) (hp : ys.Perm xs) {M0 M1 M2 N0 N1 : Mm} (h0 : laidM 1 (2 ^ t) xs = M0) (k0 : laidM 1 (2 ^ t) ys = N0)
    (ok0 : M0.ok) (ok0' : N0.ok) (h1 : runM M0 0 ((2 ^ t : Nat) : Int) ((0 : Nat) : Int) = M1) (h2 : runM M1 0 ((2 ^ t : Nat) : Int) ((0 : Nat) : Int) = M2) (k1 : runM N0 0 ((2 ^ t : Nat) : Int) ((0 : Nat) : Int) = N1) :
    (runOk M0 0 ((2 ^ t : Nat) : Int) ((0 : Nat) : Int) = true ∧ runOk M1 0 ((2 ^ t : Nat) : Int) ((0 : Nat) : Int) = true ∧ runOk N0 0 ((2 ^ t : Nat) : Int) ((0 : Nat) : Int) = true) ∧
      (M0.evs.length ≤ 1000 ∧ M1.evs.length ≤ 200000 ∧ M2.evs.length ≤ 400000 ∧ N0.evs.length ≤ 1000 ∧ N1.evs.length ≤ 200000) ∧ (M2.ok ∧ N1.ok) ∧ (M2.size 0 = 2 ^ t ∧ N1.size 0 = 2 ^ t) ∧
      M2.evs.drop M1.evs.length = evsR 0 ((2 ^ t : Nat) : Int) ∧ M1.evs.length ≤ M2.evs.length ∧ (∀ i : Nat, i < 2 ^ t → M2.read 0 (i : Int) = N1.read 0 (i : Int)) := by
  have hyl : ys.length = 2 ^ t := by rw [hp.length_eq, hl]
  have hp64 : 2 ^ t ≤ 64 := Nat.le_trans (Nat.pow_le_pow_right (by omega) ht) (by decide)
  have HL := laid_f (r := 1) (c := 2 ^ t) xs (by decide)
  have HL' := laid_f (r := 1) (c := 2 ^ t) ys (by decide)
  have s0 : M0.size 0 = 2 ^ t := by rw [← h0]; exact HL.size 0
  have s0' : N0.size 0 = 2 ^ t := by rw [← k0]; exact HL'.size 0
  have s1 : M1.size 0 = 2 ^ t := by rw [← h1, runM_size, s0]
  have s2 : M2.size 0 = 2 ^ t := by rw [← h2, runM_size, s1]
  have s1' : N1.size 0 = 2 ^ t := by rw [← k1, runM_size, s0']
  have r0 := runOk_fine (M := M0) (t := t) (kn := 0) (by omega) (by decide) (by omega)
  have r1 := runOk_fine (M := M1) (t := t) (kn := 0) (by omega) (by decide) (by omega)
  have r0' := runOk_fine (M := N0) (t := t) (kn := 0) (by omega) (by decide) (by omega)
  have e0 : M0.evs.length ≤ 1000 := by rw [← h0]; have := HL.evs.2; omega
  have e0' : N0.evs.length ≤ 1000 := by rw [← k0]; have := HL'.evs.2; omega
  have e1 := runM_evs_le M0 0 ((2 ^ t : Nat) : Int) ((0 : Nat) : Int)
  have e2 := runM_evs_le M1 0 ((2 ^ t : Nat) : Int) ((0 : Nat) : Int)
  have e1' := runM_evs_le N0 0 ((2 ^ t : Nat) : Int) ((0 : Nat) : Int)
  rw [h1] at e1
  rw [h2] at e2
  rw [k1] at e1'
  have ok1 : M1.ok := by rw [← h1]; exact runM_ok ok0 _ _ _
  have ok2 : M2.ok := by rw [← h2]; exact runM_ok ok1 _ _ _
  have ok1' : N1.ok := by rw [← k1]; exact runM_ok ok0' _ _ _
  have hev : M2.evs = M1.evs ++ evsR 0 ((2 ^ t : Nat) : Int) := by rw [← h2, runM_evs, r1]; rfl
  obtain ⟨y1, q1, c1⟩ := whole_eq (M := M0) (xs := xs) (by omega) s0 hw (by rw [← h0, laid_cells hl])
  rw [h1] at c1
  obtain ⟨y2, q2, c2⟩ := whole_eq (M := M1) (xs := xs) (by omega) s1 hw (by rw [c1]; exact q1.2.map _)
  rw [h2] at c2
  obtain ⟨y3, q3, c3⟩ := whole_eq (M := N0) (xs := ys) (by omega) s0' (fun x hx => hw x (hp.mem_iff.1 hx)) (by rw [← k0, laid_cells hyl])
  rw [k1] at c3
  have hyy : y2 = y3 := q2.uniq ⟨q3.1, q3.2.trans hp⟩
  refine ⟨⟨r0, r1, r0'⟩, ⟨e0, by omega, by omega, e0', by omega⟩, ⟨ok2, ok1'⟩, ⟨s2, s1'⟩, by rw [hev, List.drop_left], by rw [hev, List.length_append]; omega, fun i hi => ?_⟩
  have a1 := Mm.read_cells' (M := M2) (Int.le_refl 0) (show i < M2.size 0 by omega)
  have a2 := Mm.read_cells' (M := N1) (Int.le_refl 0) (show i < N1.size 0 by omega)
  rw [c2, hyy] at a1
  rw [c3, a1] at a2
  exact Option.some.inj a2
end Go.Sg
namespace Go.Proofs.Ytngpaibppdehdaa
open Go Go.RowKit Go.Sg
set_option maxRecDepth 100000 in
theorem twice6_any (v : Value) (zs : List Int) (hne : zs ≠ []) (hm : zs.length ≤ 1024) (w : World) (hv : Sl1 w v (zs.map (Value.int .u64))) :
    Calls Try.prog 73 #[v] w fun e w' => ∃ b, e = .returned (.bool b) ∧ Below w.heap.size w w' := by
  rcases hv with ⟨e, _⟩ | ⟨_, b, off, cap, rfl, hl, hcm, hlt, hc⟩
  · exact absurd (List.map_eq_nil_iff.1 e) hne
  rw [List.length_map] at hl ⊢
  have HR : Hid (∀ w', Below w.heap.size w w' → ∀ (i : Nat) (h : i < zs.length), w'.cell? ⟨b, off + i, none⟩ = some (.int .u64 zs[i])) := Lib.hid fun w' hb i h => by
    rw [hb.cell (p := ⟨b, off + i, none⟩) hlt, hc i (by rw [List.length_map]; exact h), List.getElem_map]
  unfold maxLen at hcm
  obtain ⟨wo, hwo⟩ : ∃ wo : World, wo = w := ⟨_, rfl⟩
  clear hc hlt
  go_enter Try.func73, Try.ntmps73
  go_wp2_with fail
  go_loopw [3] (fun i wr => ∃ k : Nat, k ≤ zs.length ∧ i = .int .i64 k ∧ Hid (Below wo.heap.size wo wr)) (fun i _ => zs.length - (intOf i).toNat)
  case atStart => exact ⟨0, by omega, rfl, Lib.hid (by rw [hwo]; exact Below.refl _ _)⟩
  case round =>
    obtain ⟨k, hk, rfl, HB⟩ := hrel
    by_cases hlt : k < zs.length
    · have hd : decide ((k : Int) < (zs.length : Int)) = true := decide_eq_true (by omega)
      have hd' : decide (k < zs.length) = true := decide_eq_true hlt
      go_wp2_with fail
      go_loopw [4] (fun i wr2 => ∃ j : Nat, j ≤ k ∧ i = .int .i64 j ∧ Hid (Below wo.heap.size wo wr2)) (fun i _ => k - (intOf i).toNat)
      case atStart => exact ⟨0, by omega, rfl, HB⟩
      case round =>
        obtain ⟨j, hj, rfl, HB2⟩ := hrel
        by_cases hjl : j < k
        · have hdj : decide ((j : Int) < (k : Int)) = true := decide_eq_true (by omega)
          have hdj' : decide (j < k) = true := decide_eq_true hjl
          have cJ := HR.out _ (hwo ▸ HB2.out) j (by omega)
          have cK := HR.out _ (hwo ▸ HB2.out) k hlt
          have i0 : (0 : Int) ≤ (j : Int) := by omega
          have i1 : (j : Int) < (zs.length : Int) := by omega
          have i2 : (0 : Int) ≤ (k : Int) := by omega
          have i3 : (k : Int) < (zs.length : Int) := by omega
          have HBn := Lib.hid (fun q => (below_drewN' (n := q) HB2.out))
          generalize zs[j] = x at *
          generalize zs[k] = y at *
          have hdd : decide (x = y) = (x == y) := by rw [Bool.eq_iff_iff]; simp
          cases hxy : (x == y)
          · rw [hxy] at hdd
            go_wp2_with fail
            go_quiet (fail)
            go_wp2
            go_roundw
            case rel => exact ⟨j + 1, by omega, by go_num, Lib.hid (HBn.out _)⟩
            case measure => simp [intOf]; omega
          · rw [hxy] at hdd
            go_wp2_with fail
            go_quiet (fail)
            go_wp2
            go_ret
            exact ⟨_, rfl, by rw [← hwo]; exact HBn.out _⟩
        · obtain rfl : j = k := by omega
          have hdj : decide ((j : Int) < (j : Int)) = false := by simp
          go_wp2
          go_roundw
          case rel => exact ⟨j + 1, by omega, by go_num, HB2⟩
          case measure => simp [intOf]; omega
    · have hd : decide ((k : Int) < (zs.length : Int)) = false := decide_eq_false (by omega)
      have hd' : decide (k < zs.length) = false := decide_eq_false hlt
      go_wp2
      go_ret
      exact ⟨_, rfl, by rw [← hwo]; exact HB.out⟩
end Go.Proofs.Ytngpaibppdehdaa
