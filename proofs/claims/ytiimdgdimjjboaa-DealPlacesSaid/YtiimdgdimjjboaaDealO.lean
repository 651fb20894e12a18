/-
  The walk of deal.Order's comparison, a closure over two boxes.
-/
import Derived.Test.YtiimdgdimjjboaaDealK
namespace Go.Proofs.Ytiimdgdimjjboaa
open Go Go.RowKit Go.Sg
theorem info_diV (x : Di) : (Try.prog.info? 44).map (·.size) = some (diV x).length := by kernel_rfl
set_option maxHeartbeats 1000000 in
set_option maxRecDepth 100000 in
theorem order1_any (pc pl b off n cap i j : Nat) (x y : Di) (w : World) (hi : i < n) (hj : j < n) (hn : n ≤ 1099511627776) (hf : w.cell? ⟨pc, 0, none⟩ = some (.func (.func 51) #[] #[]))
    (hl : w.cell? ⟨pl, 0, none⟩ = some (.slice (some ⟨b, off, none⟩) n cap)) (hx : w.rangeAt b (off + i * 2) (diV x)) (hy : w.rangeAt b (off + j * 2) (diV y)) (hpc : pc < w.heap.size) (hpl : pl < w.heap.size) (hb : b < w.heap.size) :
    Calls Try.prog 53 #[.int .i64 i, .int .i64 j, .pointer (some ⟨pc, 0, none⟩), .pointer (some ⟨pl, 0, none⟩)] w fun e w' => e = .returned (.int .i64 (cmpD x y)) ∧ Below w.heap.size w w' := by
  have ka := fun w' => againstD_any x y w'
  obtain ⟨C, hCi, hCo, hCF, hCL, hCX, hCY, hCA⟩ : ∃ C : World → Prop, C w.drew ∧ (∀ w', C w' → Below w.heap.size w w') ∧ (∀ w', C w' → w'.cell? ⟨pc, 0, none⟩ = some (.func (.func 51) #[] #[])) ∧ (∀ w', C w' → w'.cell? ⟨pl, 0, none⟩ = some (.slice (some ⟨b, off, none⟩) n cap))
      ∧ (∀ w', C w' → w'.rangeAt b (off + i * 2) (diV x)) ∧ (∀ w', C w' → w'.rangeAt b (off + j * 2) (diV y))
      ∧ (∀ w', C w' → Calls Try.prog 51 #[.agg (diV x).toArray, .agg (diV y).toArray] w' fun e w'' => e = .returned (.int .i64 (cmpD x y)) ∧ C w'') :=
    ⟨fun w' => Below w.heap.size w w', (Below.refl _ _).drew, fun _ h => h, fun w' h => (h.cell (p := ⟨pc, 0, none⟩) hpc).trans hf, fun w' h => (h.cell (p := ⟨pl, 0, none⟩) hpl).trans hl,
      fun w' h k u hu => (h.cell (p := ⟨b, off + i * 2 + k, none⟩) hb).trans (hx k u hu), fun w' h k u hu => (h.cell (p := ⟨b, off + j * 2 + k, none⟩) hb).trans (hy k u hu), fun w' h => cls_call (P := Try.prog) ka (Nat.le_refl _) h⟩
  have HCO := Lib.hid hCo
  have HCF := Lib.hid hCF
  have HCL := Lib.hid hCL
  have HCX := Lib.hid hCX
  have HCY := Lib.hid hCY
  have HCA := Lib.hid hCA
  have i0 : (0 : Int) ≤ (i : Int) := by omega
  have i1 : (i : Int) < (n : Int) := by omega
  have j0 : (0 : Int) ≤ (j : Int) := by omega
  have j1 : (j : Int) < (n : Int) := by omega
  clear hCo hCF hCL hCX hCY hCA ka hf hl hx hy hpc hpl hb
  generalize cmpD x y = r at *
  go_enter Try.func53, Try.ntmps53
  go_wp2_with fail
  refine wp_region_cls C (by kernel_rfl) (by kernel_rfl) hCi ?_
  with_reducible refine wpQuiet_step ?_
  intro K hK
  refine qs_load_cell (by rfl) 97 _ rfl ⟨pc, 0, none⟩ rfl (.func (.func 51) #[] #[]) (fun w hw => HCF.out w hw) Try.isAgg97 (hK _ ?_)
  clear hK K
  try simp only [Act.put, List.setIfInBounds_toArray, List.set_cons_zero, List.set_cons_succ]
  with_reducible refine wpQuiet_step ?_
  intro K hK
  refine qs_load_cell (by rfl) 24 _ rfl ⟨pl, 0, none⟩ rfl (.slice (some ⟨b, off, none⟩) n cap) (fun w hw => HCL.out w hw) Try.isAgg24 (hK _ ?_)
  clear hK K
  try simp only [Act.put, List.setIfInBounds_toArray, List.set_cons_zero, List.set_cons_succ]
  with_reducible refine wpQuiet_step ?_
  intro K hK
  go_simp
  first
    | (with_reducible refine hK _ ?_)
    | (with_reducible refine ⟨_, fun _ _ => rfl, hK _ ?_⟩)
  clear hK K
  try simp only [Act.put, List.setIfInBounds_toArray, List.set_cons_zero, List.set_cons_succ]
  with_reducible refine wpQuiet_step ?_
  intro K hK
  go_simp
  first
    | (with_reducible refine hK _ ?_)
    | (with_reducible refine ⟨_, fun _ _ => rfl, hK _ ?_⟩)
  clear hK K
  try simp only [Act.put, List.setIfInBounds_toArray, List.set_cons_zero, List.set_cons_succ]
  with_reducible refine wpQuiet_step ?_
  intro K hK
  refine qs_load_midD (by rfl) 44 (.tmp 10) rfl b (off + i * 2) rfl (diV x) _ (fun w hw => HCX.out w hw) Try.underlying44 rfl (info_diV _) (hK _ ?_)
  clear hK K
  try simp only [Act.put, List.setIfInBounds_toArray, List.set_cons_zero, List.set_cons_succ]
  with_reducible refine wpQuiet_step ?_
  intro K hK
  refine qs_load_cell (by rfl) 24 _ rfl ⟨pl, 0, none⟩ rfl (.slice (some ⟨b, off, none⟩) n cap) (fun w hw => HCL.out w hw) Try.isAgg24 (hK _ ?_)
  clear hK K
  try simp only [Act.put, List.setIfInBounds_toArray, List.set_cons_zero, List.set_cons_succ]
  with_reducible refine wpQuiet_step ?_
  intro K hK
  go_simp
  first
    | (with_reducible refine hK _ ?_)
    | (with_reducible refine ⟨_, fun _ _ => rfl, hK _ ?_⟩)
  clear hK K
  try simp only [Act.put, List.setIfInBounds_toArray, List.set_cons_zero, List.set_cons_succ]
  with_reducible refine wpQuiet_step ?_
  intro K hK
  go_simp
  first
    | (with_reducible refine hK _ ?_)
    | (with_reducible refine ⟨_, fun _ _ => rfl, hK _ ?_⟩)
  clear hK K
  try simp only [Act.put, List.setIfInBounds_toArray, List.set_cons_zero, List.set_cons_succ]
  with_reducible refine wpQuiet_step ?_
  intro K hK
  refine qs_load_midD (by rfl) 44 (.tmp 14) rfl b (off + j * 2) rfl (diV y) _ (fun w hw => HCY.out w hw) Try.underlying44 rfl (info_diV _) (hK _ ?_)
  clear hK K
  try simp only [Act.put, List.setIfInBounds_toArray, List.set_cons_zero, List.set_cons_succ]
  with_reducible refine wpQuiet_step ?_
  intro K hK
  go_simp
  with_reducible apply Exists.intro
  with_reducible refine ⟨fun _ hC => ?_, hK _ ?_⟩
  with_reducible exact HCA.out _ hC
  clear hK K
  try simp only [Act.put, List.setIfInBounds_toArray, List.set_cons_zero, List.set_cons_succ]
  with_reducible refine wpQuiet_step ?_
  intro K hK
  go_simp
  first
    | (with_reducible refine hK _ ?_)
    | (with_reducible refine ⟨_, fun _ _ => rfl, hK _ ?_⟩)
  clear hK K
  try simp only [Act.put, List.setIfInBounds_toArray, List.set_cons_zero, List.set_cons_succ]
  refine wpQuiet_nil ?_
  intro w8 hC8
  have HX := Lib.hid (HCO.out _ hC8)
  clear hC8 hCi HCO HCF HCL HCX HCY HCA
  go_wp2
  go_ret
  exact ⟨rfl, HX.out⟩
theorem cmpO_ok {w0 : World} {G pc pl b off cap : Nat} {l : List Di} (hn : l.length ≤ 1099511627776) (hf : w0.cell? ⟨pc, 0, none⟩ = some (.func (.func 51) #[] #[]))
    (hl : w0.cell? ⟨pl, 0, none⟩ = some (.slice (some ⟨b, off, none⟩) l.length cap)) (hr : w0.rangeAt b off (flatV diV l)) (hpc : pc < w0.heap.size) (hpl : pl < w0.heap.size) (hb : b < w0.heap.size) (gc : pc ≠ G) (gl : pl ≠ G) (gb : b ≠ G) :
    CmpOk Try.prog 53 #[.pointer (some ⟨pc, 0, none⟩), .pointer (some ⟨pl, 0, none⟩)] (fun i => 0 ≤ i ∧ i < (l.length : Int)) (ltO l) w0 G := by
  intro x y w hx hy hfr
  obtain ⟨i, rfl⟩ := Int.eq_ofNat_of_zero_le hx.1
  obtain ⟨j, rfl⟩ := Int.eq_ofNat_of_zero_le hy.1
  have hi : i < l.length := by omega
  have hj : j < l.length := by omega
  have hcl : ∀ (k o : Nat), k < w0.heap.size → k ≠ G → w.cell? ⟨k, o, none⟩ = w0.cell? ⟨k, o, none⟩ := fun k o h1 h2 => World.cell?_of_block (a := ⟨k, o, none⟩) (hfr.block k h1 h2)
  refine (order1_any pc pl b off l.length cap i j l[i] l[j] w hi hj hn ((hcl pc 0 hpc gc).trans hf) ((hcl pl 0 hpl gl).trans hl) (fun k u hu => (hcl b _ hb gb).trans (range_flat diV_k hr hi k u hu)) (fun k u hu => (hcl b _ hb gb).trans (range_flat diV_k hr hj k u hu)) (Nat.lt_of_lt_of_le hpc hfr.size) (Nat.lt_of_lt_of_le hpl hfr.size) (Nat.lt_of_lt_of_le hb hfr.size)).mono ?_
  rintro e w' ⟨rfl, hbw⟩
  refine ⟨_, rfl, ?_, hbw⟩
  rw [cmpD_lt]
  unfold ltO getD'
  simp [List.getD_eq_getElem?_getD, List.getElem?_eq_getElem hi, List.getElem?_eq_getElem hj]
end Go.Proofs.Ytiimdgdimjjboaa
