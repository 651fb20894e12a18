/-
  The walk of shellgameref9.Order.
-/
import Derived.Test.YtiimdgdimjjboaaDealRA
import Derived.Deep.OwnRows
namespace Go.Sg
open Go Go.RowKit
theorem own_base {w : World} {B C : Nat} {e : TypeId} {size : Nat} {v : Value} {m : Nat} {xs : List Value} (h : w.ownsRow B e size v m xs) (hc : C ≤ B) : w.ownsRow C e size v m xs :=
  ⟨h.1, h.2.imp id (fun ⟨g, cap, cur, e1, hb, rest⟩ => ⟨g, cap, cur, e1, Nat.le_trans hc hb, rest⟩)⟩
end Go.Sg
namespace Go.Proofs.Ytiimdgdimjjboaa
open Go Go.RowKit Go.Sg
theorem info_diR (x : Di) : (Try.prog.info? 95).map (·.size) = some (diV x).length := by kernel_rfl
theorem info_boolR9 : (Try.prog.info? 4).map (fun i => (i.zero, i.size, i.bytes)) = some (some (.bool false), 1, 1) := by kernel_rfl
theorem info_intR9 : (Try.prog.info? 3).map (fun i => (i.zero, i.size, i.bytes)) = some (some (.int .i64 0), 1, 8) := by kernel_rfl
set_option maxHeartbeats 8000000 in
set_option maxRecDepth 100000 in
theorem rorder_any (l : List Di) (hl : l.length ≤ 1099511627776) (v : Value) (w : World) (hv : SlK diV w v l) :
    Calls Try.prog 26 #[v] w fun e w' => ∃ v', e = .returned v' ∧ w'.ownsRow w.heap.size 3 1 v' l.length ((ordD l).map (Value.int .i64)) ∧ Below w.heap.size w w' := by
  obtain ⟨a, cap, rfl, h1, h2, h3⟩ := hv
  have HC : Hid (∀ w', Below w.heap.size w w' → ∀ (k : Nat), k < l.length → ∃ b off, a = some ⟨b, off, none⟩ ∧ w'.rangeAt b (off + k * 2) (diV (getD' l (k : Int)))) := Lib.hid fun w' hb k h => by
    obtain ⟨b, off, rfl, hlt, hr⟩ := h3 (fun e => by rw [e] at h; simp at h)
    refine ⟨b, off, rfl, fun j u hu => ?_⟩
    have e : getD' l (k : Int) = l[k] := by unfold getD'; simp [List.getD_eq_getElem?_getD, List.getElem?_eq_getElem h]
    rw [e] at hu
    exact (hb.cell (p := ⟨b, off + k * 2 + j, none⟩) hlt).trans (range_flat diV_k hr h j u hu)
  obtain ⟨i0, hi0, hz0, hz1, hz2⟩ := info_parts info_intR9
  have HI := Lib.hid hi0
  have HZ := Lib.hid hz0
  have HS := Lib.hid hz1
  have HY := Lib.hid hz2
  obtain ⟨j0, hj0, jz0, jz1, jz2⟩ := info_parts info_boolR9
  have JI := Lib.hid hj0
  have JZ := Lib.hid jz0
  have JS := Lib.hid jz1
  have JY := Lib.hid jz2
  obtain ⟨wo, hwo⟩ : ∃ wo : World, wo = w := ⟨_, rfl⟩
  obtain ⟨n, hn⟩ : ∃ n, l.length = n := ⟨_, rfl⟩
  have HN := Lib.hid hn
  unfold maxLen at h2
  rw [hn] at hl h1 ⊢
  clear hn hi0 hz0 hz1 hz2 hj0 jz0 jz1 jz2 h3
  go_enter Try.func26, Try.ntmps26
  go_wp2_with (first
    | (at_make; go_loud (refine wpList_make_row _ rfl (.tmp 10) (.tmp 10) 48 rfl 4 j0 (.bool false) Try.underlying48 JI.out JZ.out JS.out rfl .i64 .i64 n rfl rfl (by rw [JY.out]; omega) (by omega) ?_))
    | fail)
  obtain ⟨U, hU⟩ : ∃ U, w.heap.size = U := ⟨_, rfl⟩
  have hrow := World.rowIs_made w (.bool false) n 4
  have hB1 := (Below.refl w.heap.size w).alloc (Nat.le_refl _) (.cells (madeCells #[.bool false] n) 4)
  have HOU : Hid (wo.heap.size ≤ U) := Lib.hid (by rw [← hU, hwo]; exact Nat.le_refl _)
  have HUE := Lib.hid hU
  have HUS : Hid ((w.alloc (.cells (madeCells #[.bool false] n) 4)).heap.size = U + 1) := Lib.hid (by rw [← hU]; simp)
  rw [hU] at hrow ⊢
  have HR := Lib.hid hrow
  have HB1 : Hid (Below wo.heap.size wo (w.alloc (.cells (madeCells #[.bool false] n) 4))) := Lib.hid (by rw [hwo]; exact hB1)
  clear hrow hB1 hU
  generalize w.alloc (.cells (madeCells #[.bool false] n) 4) = w1 at *
  go_wp2_with fail
  go_loopw [4, 5, 6, 7] (fun o nv _ _ wx => ∃ (m : Nat) (pk : List Nat), pk.length = m ∧ m ≤ n ∧ nv = .int .i64 m ∧ Hid (KD l pk) ∧ Hid (wx.rowIs U 4 n (fun i => .bool (decide (i ∈ pk)))) ∧ Hid (wx.ownsRow (U + 1) 3 1 o m ((pk.map (fun i : Nat => (i : Int))).map (Value.int .i64))) ∧ Hid (Below wo.heap.size wo wx) ∧ Hid (U + 1 ≤ wx.heap.size)) (fun _ nv _ _ _ => n - (intOf nv).toNat)
  case atStart => exact ⟨0, [], rfl, by omega, rfl, Lib.hid (KD.nil l), Lib.hid (HR.out.congr (fun i _ => by simp)), Lib.hid (World.ownsRow_nil _ _ _ _), HB1, Lib.hid (by rw [HUS.out]; omega)⟩
  case round =>
    obtain ⟨m, pk, hpm, hmn, rfl, HP, HRU, HO, HBX, HUX⟩ := hrel
    obtain ⟨wy, hwy⟩ : ∃ wy : World, wy = wr := ⟨_, rfl⟩
    have HPM := Lib.hid hpm
    clear hpm
    by_cases hm : m < n
    · have d1 : decide ((m : Int) < (n : Int)) = true := decide_eq_true (by omega)
      have d1' : decide (m < n) = true := decide_eq_true hm
      go_wp2_with fail
      go_loopw [6, 7] (fun at' iv wz => ∃ (i : Nat) (z : Int), i ≤ n ∧ iv = .int .i64 i ∧ at' = .int .i64 z ∧ Hid (IND l pk i z) ∧ Hid (Below wy.heap.size wy wz)) (fun _ iv _ => n - (intOf iv).toNat)
      case atStart => exact ⟨0, -1, by omega, rfl, rfl, Lib.hid (IND.zero l pk), Lib.hid (by rw [hwy]; exact Below.refl _ _)⟩
      case round =>
        obtain ⟨i, z, hi, rfl, rfl, HIN, HBZ⟩ := hrel
        by_cases hlt : i < n
        · have hd1 : decide ((i : Int) < (n : Int)) = true := decide_eq_true (by omega)
          have hd1' : decide (i < n) = true := decide_eq_true hlt
          have i0' : (0 : Int) ≤ (i : Int) := by omega
          have i1' : (i : Int) < (n : Int) := by omega
          have HBW : Hid (∀ w', Below wy.heap.size wy w' → Below wo.heap.size wo w') := Lib.hid fun w' h => (hwy ▸ HBX.out : Below wo.heap.size wo wy).trans (h.mono (hwy ▸ HBX.out : Below wo.heap.size wo wy).size)
          have HUC : Hid (∀ w', Below wy.heap.size wy w' → w'.cell? ⟨U, i, none⟩ = some (.bool (decide (i ∈ pk)))) := Lib.hid fun w' h => (h.cell (p := ⟨U, i, none⟩) (hwy ▸ HUX.out : U + 1 ≤ wy.heap.size)).trans ((hwy ▸ HRU.out : wy.rowIs U 4 n (fun i => .bool (decide (i ∈ pk)))).cell hlt)
          obtain ⟨b, off, rfl, _⟩ := HC.out _ (hwo ▸ HBX.out) i (by rw [HN.out]; exact hlt)
          have HRX : Hid (∀ w', Below wy.heap.size wy w' → w'.rangeAt b (off + i * 2) (diV (getD' l (i : Int)))) := Lib.hid fun w' h => by
            obtain ⟨b', off', e, hr⟩ := HC.out _ (hwo ▸ HBW.out _ h) i (by rw [HN.out]; exact hlt)
            simp only [Option.some.injEq, Addr.mk.injEq, and_true] at e
            obtain ⟨rfl, rfl⟩ := e
            exact hr
          by_cases hmem : i ∈ pk
          · have hu : decide (i ∈ pk) = true := decide_eq_true hmem
            have HNX : Hid (IND l pk (i + 1) z) := Lib.hid (HIN.out.skip (.inl hmem))
            obtain ⟨C, hCi, hCo, hCU⟩ : ∃ C : World → Prop, C wr.drew ∧ (∀ w', C w' → Below wy.heap.size wy w') ∧ (∀ w', C w' → w'.cell? ⟨U, i, none⟩ = some (.bool true)) :=
              ⟨fun w' => Below wy.heap.size wy w', HBZ.out.drew, fun _ h => h, fun w' h => by rw [HUC.out w' h, hu]⟩
            have HCO := Lib.hid hCo
            have HCU := Lib.hid hCU
            clear hCo hCU HRX
            go_upto_region 10 with fail
            refine wp_region_cls C (by kernel_rfl) (by kernel_rfl) hCi ?_
            with_reducible refine wpQuiet_step ?_
            intro K hK
            go_simp
            first
              | (with_reducible refine hK _ ?_)
              | (with_reducible refine ⟨_, fun _ _ => rfl, hK _ ?_⟩)
            clear hK K
            try simp only [Act.put, List.setIfInBounds_toArray, List.set_cons_zero, List.set_cons_succ]
            with_reducible refine wpQuiet_step ?_
            intro K hK
            go_simp
            first
              | (with_reducible refine hK _ ?_)
              | (with_reducible refine ⟨_, fun _ _ => rfl, hK _ ?_⟩)
            clear hK K
            try simp only [Act.put, List.setIfInBounds_toArray, List.set_cons_zero, List.set_cons_succ]
            with_reducible refine wpQuiet_step ?_
            intro K hK
            go_simp
            first
              | (with_reducible refine hK _ ?_)
              | (with_reducible refine ⟨_, fun _ _ => rfl, hK _ ?_⟩)
            clear hK K
            try simp only [Act.put, List.setIfInBounds_toArray, List.set_cons_zero, List.set_cons_succ]
            with_reducible refine wpQuiet_step ?_
            intro K hK
            refine qs_load_cell (by rfl) 4 _ rfl ⟨U, i, none⟩ rfl (.bool true) (fun w hw => HCU.out w hw) Try.isAgg4 (hK _ ?_)
            clear hK K
            try simp only [Act.put, List.setIfInBounds_toArray, List.set_cons_zero, List.set_cons_succ]
            with_reducible refine wpQuiet_step ?_
            intro K hK
            go_simp
            first
              | (with_reducible refine hK _ ?_)
              | (with_reducible refine ⟨_, fun _ _ => rfl, hK _ ?_⟩)
            clear hK K
            try simp only [Act.put, List.setIfInBounds_toArray, List.set_cons_zero, List.set_cons_succ]
            with_reducible refine wpQuiet_step ?_
            intro K hK
            go_simp
            first
              | (with_reducible refine hK _ ?_)
              | (with_reducible refine ⟨_, fun _ _ => rfl, hK _ ?_⟩)
            clear hK K
            try simp only [Act.put, List.setIfInBounds_toArray, List.set_cons_zero, List.set_cons_succ]
            with_reducible refine wpQuiet_step ?_
            intro K hK
            refine qs_skipD (by rfl) (hK _ ?_)
            clear hK K
            try simp only [Act.put, List.setIfInBounds_toArray, List.set_cons_zero, List.set_cons_succ]
            with_reducible refine wpQuiet_step ?_
            intro K hK
            refine qs_skipD (by rfl) (hK _ ?_)
            clear hK K
            try simp only [Act.put, List.setIfInBounds_toArray, List.set_cons_zero, List.set_cons_succ]
            with_reducible refine wpQuiet_step ?_
            intro K hK
            refine qs_skipD (by rfl) (hK _ ?_)
            clear hK K
            try simp only [Act.put, List.setIfInBounds_toArray, List.set_cons_zero, List.set_cons_succ]
            with_reducible refine wpQuiet_step ?_
            intro K hK
            refine qs_skipD (by rfl) (hK _ ?_)
            clear hK K
            try simp only [Act.put, List.setIfInBounds_toArray, List.set_cons_zero, List.set_cons_succ]
            with_reducible refine wpQuiet_step ?_
            intro K hK
            refine qs_skipD (by rfl) (hK _ ?_)
            clear hK K
            try simp only [Act.put, List.setIfInBounds_toArray, List.set_cons_zero, List.set_cons_succ]
            with_reducible refine wpQuiet_step ?_
            intro K hK
            refine qs_skipD (by rfl) (hK _ ?_)
            clear hK K
            try simp only [Act.put, List.setIfInBounds_toArray, List.set_cons_zero, List.set_cons_succ]
            with_reducible refine wpQuiet_step ?_
            intro K hK
            go_simp
            first
              | (with_reducible refine hK _ ?_)
              | (with_reducible refine ⟨_, fun _ _ => rfl, hK _ ?_⟩)
            clear hK K
            try simp only [Act.put, List.setIfInBounds_toArray, List.set_cons_zero, List.set_cons_succ]
            with_reducible refine wpQuiet_step ?_
            intro K hK
            go_simp
            first
              | (with_reducible refine hK _ ?_)
              | (with_reducible refine ⟨_, fun _ _ => rfl, hK _ ?_⟩)
            clear hK K
            try simp only [Act.put, List.setIfInBounds_toArray, List.set_cons_zero, List.set_cons_succ]
            with_reducible refine wpQuiet_step ?_
            intro K hK
            refine qs_skipD (by rfl) (hK _ ?_)
            clear hK K
            try simp only [Act.put, List.setIfInBounds_toArray, List.set_cons_zero, List.set_cons_succ]
            with_reducible refine wpQuiet_step ?_
            intro K hK
            refine qs_skipD (by rfl) (hK _ ?_)
            clear hK K
            try simp only [Act.put, List.setIfInBounds_toArray, List.set_cons_zero, List.set_cons_succ]
            with_reducible refine wpQuiet_step ?_
            intro K hK
            refine qs_skipD (by rfl) (hK _ ?_)
            clear hK K
            try simp only [Act.put, List.setIfInBounds_toArray, List.set_cons_zero, List.set_cons_succ]
            with_reducible refine wpQuiet_step ?_
            intro K hK
            refine qs_skipD (by rfl) (hK _ ?_)
            clear hK K
            try simp only [Act.put, List.setIfInBounds_toArray, List.set_cons_zero, List.set_cons_succ]
            with_reducible refine wpQuiet_step ?_
            intro K hK
            refine qs_skipD (by rfl) (hK _ ?_)
            clear hK K
            try simp only [Act.put, List.setIfInBounds_toArray, List.set_cons_zero, List.set_cons_succ]
            with_reducible refine wpQuiet_step ?_
            intro K hK
            refine qs_skipD (by rfl) (hK _ ?_)
            clear hK K
            try simp only [Act.put, List.setIfInBounds_toArray, List.set_cons_zero, List.set_cons_succ]
            with_reducible refine wpQuiet_step ?_
            intro K hK
            refine qs_skipD (by rfl) (hK _ ?_)
            clear hK K
            try simp only [Act.put, List.setIfInBounds_toArray, List.set_cons_zero, List.set_cons_succ]
            with_reducible refine wpQuiet_step ?_
            intro K hK
            refine qs_skipD (by rfl) (hK _ ?_)
            clear hK K
            try simp only [Act.put, List.setIfInBounds_toArray, List.set_cons_zero, List.set_cons_succ]
            with_reducible refine wpQuiet_step ?_
            intro K hK
            refine qs_skipD (by rfl) (hK _ ?_)
            clear hK K
            try simp only [Act.put, List.setIfInBounds_toArray, List.set_cons_zero, List.set_cons_succ]
            with_reducible refine wpQuiet_step ?_
            intro K hK
            refine qs_skipD (by rfl) (hK _ ?_)
            clear hK K
            try simp only [Act.put, List.setIfInBounds_toArray, List.set_cons_zero, List.set_cons_succ]
            with_reducible refine wpQuiet_step ?_
            intro K hK
            refine qs_skipD (by rfl) (hK _ ?_)
            clear hK K
            try simp only [Act.put, List.setIfInBounds_toArray, List.set_cons_zero, List.set_cons_succ]
            with_reducible refine wpQuiet_step ?_
            intro K hK
            refine qs_skipD (by rfl) (hK _ ?_)
            clear hK K
            try simp only [Act.put, List.setIfInBounds_toArray, List.set_cons_zero, List.set_cons_succ]
            with_reducible refine wpQuiet_step ?_
            intro K hK
            refine qs_skipD (by rfl) (hK _ ?_)
            clear hK K
            try simp only [Act.put, List.setIfInBounds_toArray, List.set_cons_zero, List.set_cons_succ]
            with_reducible refine wpQuiet_step ?_
            intro K hK
            go_simp
            first
              | (with_reducible refine hK _ ?_)
              | (with_reducible refine ⟨_, fun _ _ => rfl, hK _ ?_⟩)
            clear hK K
            try simp only [Act.put, List.setIfInBounds_toArray, List.set_cons_zero, List.set_cons_succ]
            refine wpQuiet_nil ?_
            intro w8 hC8
            have HX8 := Lib.hid (HCO.out _ hC8)
            clear hC8 hCi HCO HCU
            go_wp2
            go_roundw
            case rel => exact ⟨i + 1, z, by omega, by go_num, rfl, HNX, HX8⟩
            case measure => simp [intOf]; omega
          · by_cases hdp : (getD' l (i : Int)).2 < 0
            · have hu : decide (i ∈ pk) = false := decide_eq_false hmem
              have HNX : Hid (IND l pk (i + 1) z) := Lib.hid (HIN.out.skip (.inr hdp))
              obtain ⟨xi, xd, hx⟩ : ∃ xi xd, getD' l (i : Int) = (xi, xd) := ⟨_, _, rfl⟩
              rw [hx] at HRX hdp
              simp only at hdp
              have dx : decide (0 ≤ xd) = false := decide_eq_false (by omega)
              clear hx
              obtain ⟨C, hCi, hCo, hCU, hCD⟩ : ∃ C : World → Prop, C wr.drew ∧ (∀ w', C w' → Below wy.heap.size wy w') ∧ (∀ w', C w' → w'.cell? ⟨U, i, none⟩ = some (.bool false)) ∧ (∀ w', C w' → w'.cell? ⟨b, off + i * 2 + 1, none⟩ = some (.int .i64 xd)) :=
                ⟨fun w' => Below wy.heap.size wy w', HBZ.out.drew, fun _ h => h, fun w' h => by rw [HUC.out w' h, hu], fun w' h => HRX.out w' h 1 _ rfl⟩
              have HCO := Lib.hid hCo
              have HCU := Lib.hid hCU
              have HCD := Lib.hid hCD
              clear hCo hCU hCD HRX
              go_upto_region 10 with fail
              refine wp_region_cls C (by kernel_rfl) (by kernel_rfl) hCi ?_
              with_reducible refine wpQuiet_step ?_
              intro K hK
              go_simp
              first
                | (with_reducible refine hK _ ?_)
                | (with_reducible refine ⟨_, fun _ _ => rfl, hK _ ?_⟩)
              clear hK K
              try simp only [Act.put, List.setIfInBounds_toArray, List.set_cons_zero, List.set_cons_succ]
              with_reducible refine wpQuiet_step ?_
              intro K hK
              go_simp
              first
                | (with_reducible refine hK _ ?_)
                | (with_reducible refine ⟨_, fun _ _ => rfl, hK _ ?_⟩)
              clear hK K
              try simp only [Act.put, List.setIfInBounds_toArray, List.set_cons_zero, List.set_cons_succ]
              with_reducible refine wpQuiet_step ?_
              intro K hK
              go_simp
              first
                | (with_reducible refine hK _ ?_)
                | (with_reducible refine ⟨_, fun _ _ => rfl, hK _ ?_⟩)
              clear hK K
              try simp only [Act.put, List.setIfInBounds_toArray, List.set_cons_zero, List.set_cons_succ]
              with_reducible refine wpQuiet_step ?_
              intro K hK
              refine qs_load_cell (by rfl) 4 _ rfl ⟨U, i, none⟩ rfl (.bool false) (fun w hw => HCU.out w hw) Try.isAgg4 (hK _ ?_)
              clear hK K
              try simp only [Act.put, List.setIfInBounds_toArray, List.set_cons_zero, List.set_cons_succ]
              with_reducible refine wpQuiet_step ?_
              intro K hK
              go_simp
              first
                | (with_reducible refine hK _ ?_)
                | (with_reducible refine ⟨_, fun _ _ => rfl, hK _ ?_⟩)
              clear hK K
              try simp only [Act.put, List.setIfInBounds_toArray, List.set_cons_zero, List.set_cons_succ]
              with_reducible refine wpQuiet_step ?_
              intro K hK
              go_simp
              first
                | (with_reducible refine hK _ ?_)
                | (with_reducible refine ⟨_, fun _ _ => rfl, hK _ ?_⟩)
              clear hK K
              try simp only [Act.put, List.setIfInBounds_toArray, List.set_cons_zero, List.set_cons_succ]
              with_reducible refine wpQuiet_step ?_
              intro K hK
              go_simp
              first
                | (with_reducible refine hK _ ?_)
                | (with_reducible refine ⟨_, fun _ _ => rfl, hK _ ?_⟩)
              clear hK K
              try simp only [Act.put, List.setIfInBounds_toArray, List.set_cons_zero, List.set_cons_succ]
              with_reducible refine wpQuiet_step ?_
              intro K hK
              go_simp
              first
                | (with_reducible refine hK _ ?_)
                | (with_reducible refine ⟨_, fun _ _ => rfl, hK _ ?_⟩)
              clear hK K
              try simp only [Act.put, List.setIfInBounds_toArray, List.set_cons_zero, List.set_cons_succ]
              with_reducible refine wpQuiet_step ?_
              intro K hK
              go_simp
              first
                | (with_reducible refine hK _ ?_)
                | (with_reducible refine ⟨_, fun _ _ => rfl, hK _ ?_⟩)
              clear hK K
              try simp only [Act.put, List.setIfInBounds_toArray, List.set_cons_zero, List.set_cons_succ]
              with_reducible refine wpQuiet_step ?_
              intro K hK
              go_simp
              first
                | (with_reducible refine hK _ ?_)
                | (with_reducible refine ⟨_, fun _ _ => rfl, hK _ ?_⟩)
              clear hK K
              try simp only [Act.put, List.setIfInBounds_toArray, List.set_cons_zero, List.set_cons_succ]
              with_reducible refine wpQuiet_step ?_
              intro K hK
              refine qs_load_cell (by rfl) 3 _ rfl ⟨b, off + i * 2 + 1, none⟩ rfl (.int .i64 xd) (fun w hw => HCD.out w hw) Try.isAgg3 (hK _ ?_)
              clear hK K
              try simp only [Act.put, List.setIfInBounds_toArray, List.set_cons_zero, List.set_cons_succ]
              with_reducible refine wpQuiet_step ?_
              intro K hK
              go_simp
              first
                | (with_reducible refine hK _ ?_)
                | (with_reducible refine ⟨_, fun _ _ => rfl, hK _ ?_⟩)
              clear hK K
              try simp only [Act.put, List.setIfInBounds_toArray, List.set_cons_zero, List.set_cons_succ]
              with_reducible refine wpQuiet_step ?_
              intro K hK
              go_simp
              first
                | (with_reducible refine hK _ ?_)
                | (with_reducible refine ⟨_, fun _ _ => rfl, hK _ ?_⟩)
              clear hK K
              try simp only [Act.put, List.setIfInBounds_toArray, List.set_cons_zero, List.set_cons_succ]
              with_reducible refine wpQuiet_step ?_
              intro K hK
              go_simp
              first
                | (with_reducible refine hK _ ?_)
                | (with_reducible refine ⟨_, fun _ _ => rfl, hK _ ?_⟩)
              clear hK K
              try simp only [Act.put, List.setIfInBounds_toArray, List.set_cons_zero, List.set_cons_succ]
              with_reducible refine wpQuiet_step ?_
              intro K hK
              refine qs_skipD (by rfl) (hK _ ?_)
              clear hK K
              try simp only [Act.put, List.setIfInBounds_toArray, List.set_cons_zero, List.set_cons_succ]
              with_reducible refine wpQuiet_step ?_
              intro K hK
              refine qs_skipD (by rfl) (hK _ ?_)
              clear hK K
              try simp only [Act.put, List.setIfInBounds_toArray, List.set_cons_zero, List.set_cons_succ]
              with_reducible refine wpQuiet_step ?_
              intro K hK
              refine qs_skipD (by rfl) (hK _ ?_)
              clear hK K
              try simp only [Act.put, List.setIfInBounds_toArray, List.set_cons_zero, List.set_cons_succ]
              with_reducible refine wpQuiet_step ?_
              intro K hK
              refine qs_skipD (by rfl) (hK _ ?_)
              clear hK K
              try simp only [Act.put, List.setIfInBounds_toArray, List.set_cons_zero, List.set_cons_succ]
              with_reducible refine wpQuiet_step ?_
              intro K hK
              refine qs_skipD (by rfl) (hK _ ?_)
              clear hK K
              try simp only [Act.put, List.setIfInBounds_toArray, List.set_cons_zero, List.set_cons_succ]
              with_reducible refine wpQuiet_step ?_
              intro K hK
              refine qs_skipD (by rfl) (hK _ ?_)
              clear hK K
              try simp only [Act.put, List.setIfInBounds_toArray, List.set_cons_zero, List.set_cons_succ]
              with_reducible refine wpQuiet_step ?_
              intro K hK
              refine qs_skipD (by rfl) (hK _ ?_)
              clear hK K
              try simp only [Act.put, List.setIfInBounds_toArray, List.set_cons_zero, List.set_cons_succ]
              with_reducible refine wpQuiet_step ?_
              intro K hK
              refine qs_skipD (by rfl) (hK _ ?_)
              clear hK K
              try simp only [Act.put, List.setIfInBounds_toArray, List.set_cons_zero, List.set_cons_succ]
              with_reducible refine wpQuiet_step ?_
              intro K hK
              refine qs_skipD (by rfl) (hK _ ?_)
              clear hK K
              try simp only [Act.put, List.setIfInBounds_toArray, List.set_cons_zero, List.set_cons_succ]
              with_reducible refine wpQuiet_step ?_
              intro K hK
              refine qs_skipD (by rfl) (hK _ ?_)
              clear hK K
              try simp only [Act.put, List.setIfInBounds_toArray, List.set_cons_zero, List.set_cons_succ]
              with_reducible refine wpQuiet_step ?_
              intro K hK
              refine qs_skipD (by rfl) (hK _ ?_)
              clear hK K
              try simp only [Act.put, List.setIfInBounds_toArray, List.set_cons_zero, List.set_cons_succ]
              with_reducible refine wpQuiet_step ?_
              intro K hK
              refine qs_skipD (by rfl) (hK _ ?_)
              clear hK K
              try simp only [Act.put, List.setIfInBounds_toArray, List.set_cons_zero, List.set_cons_succ]
              with_reducible refine wpQuiet_step ?_
              intro K hK
              refine qs_skipD (by rfl) (hK _ ?_)
              clear hK K
              try simp only [Act.put, List.setIfInBounds_toArray, List.set_cons_zero, List.set_cons_succ]
              with_reducible refine wpQuiet_step ?_
              intro K hK
              go_simp
              first
                | (with_reducible refine hK _ ?_)
                | (with_reducible refine ⟨_, fun _ _ => rfl, hK _ ?_⟩)
              clear hK K
              try simp only [Act.put, List.setIfInBounds_toArray, List.set_cons_zero, List.set_cons_succ]
              refine wpQuiet_nil ?_
              intro w8 hC8
              have HX8 := Lib.hid (HCO.out _ hC8)
              clear hC8 hCi HCO HCU HCD
              go_wp2
              go_roundw
              case rel => exact ⟨i + 1, z, by omega, by go_num, rfl, HNX, HX8⟩
              case measure => simp [intOf]; omega
            · rcases Int.lt_or_le z 0 with hz | hz
              · have hu : decide (i ∈ pk) = false := decide_eq_false hmem
                have dz : decide (z < 0) = true := decide_eq_true hz
                have HNX : Hid (IND l pk (i + 1) i) := Lib.hid (HIN.out.take hmem (by omega) (fun a e => by omega))
                obtain ⟨xi, xd, hx⟩ : ∃ xi xd, getD' l (i : Int) = (xi, xd) := ⟨_, _, rfl⟩
                rw [hx] at HRX hdp
                simp only at hdp
                have dx : decide (0 ≤ xd) = true := decide_eq_true (by omega)
                clear hx
                obtain ⟨C, hCi, hCo, hCU, hCD⟩ : ∃ C : World → Prop, C wr.drew ∧ (∀ w', C w' → Below wy.heap.size wy w') ∧ (∀ w', C w' → w'.cell? ⟨U, i, none⟩ = some (.bool false)) ∧ (∀ w', C w' → w'.cell? ⟨b, off + i * 2 + 1, none⟩ = some (.int .i64 xd)) :=
                  ⟨fun w' => Below wy.heap.size wy w', HBZ.out.drew, fun _ h => h, fun w' h => by rw [HUC.out w' h, hu], fun w' h => HRX.out w' h 1 _ rfl⟩
                have HCO := Lib.hid hCo
                have HCU := Lib.hid hCU
                have HCD := Lib.hid hCD
                clear hCo hCU hCD HRX
                go_upto_region 10 with fail
                refine wp_region_cls C (by kernel_rfl) (by kernel_rfl) hCi ?_
                with_reducible refine wpQuiet_step ?_
                intro K hK
                go_simp
                first
                  | (with_reducible refine hK _ ?_)
                  | (with_reducible refine ⟨_, fun _ _ => rfl, hK _ ?_⟩)
                clear hK K
                try simp only [Act.put, List.setIfInBounds_toArray, List.set_cons_zero, List.set_cons_succ]
                with_reducible refine wpQuiet_step ?_
                intro K hK
                go_simp
                first
                  | (with_reducible refine hK _ ?_)
                  | (with_reducible refine ⟨_, fun _ _ => rfl, hK _ ?_⟩)
                clear hK K
                try simp only [Act.put, List.setIfInBounds_toArray, List.set_cons_zero, List.set_cons_succ]
                with_reducible refine wpQuiet_step ?_
                intro K hK
                go_simp
                first
                  | (with_reducible refine hK _ ?_)
                  | (with_reducible refine ⟨_, fun _ _ => rfl, hK _ ?_⟩)
                clear hK K
                try simp only [Act.put, List.setIfInBounds_toArray, List.set_cons_zero, List.set_cons_succ]
                with_reducible refine wpQuiet_step ?_
                intro K hK
                refine qs_load_cell (by rfl) 4 _ rfl ⟨U, i, none⟩ rfl (.bool false) (fun w hw => HCU.out w hw) Try.isAgg4 (hK _ ?_)
                clear hK K
                try simp only [Act.put, List.setIfInBounds_toArray, List.set_cons_zero, List.set_cons_succ]
                with_reducible refine wpQuiet_step ?_
                intro K hK
                go_simp
                first
                  | (with_reducible refine hK _ ?_)
                  | (with_reducible refine ⟨_, fun _ _ => rfl, hK _ ?_⟩)
                clear hK K
                try simp only [Act.put, List.setIfInBounds_toArray, List.set_cons_zero, List.set_cons_succ]
                with_reducible refine wpQuiet_step ?_
                intro K hK
                go_simp
                first
                  | (with_reducible refine hK _ ?_)
                  | (with_reducible refine ⟨_, fun _ _ => rfl, hK _ ?_⟩)
                clear hK K
                try simp only [Act.put, List.setIfInBounds_toArray, List.set_cons_zero, List.set_cons_succ]
                with_reducible refine wpQuiet_step ?_
                intro K hK
                go_simp
                first
                  | (with_reducible refine hK _ ?_)
                  | (with_reducible refine ⟨_, fun _ _ => rfl, hK _ ?_⟩)
                clear hK K
                try simp only [Act.put, List.setIfInBounds_toArray, List.set_cons_zero, List.set_cons_succ]
                with_reducible refine wpQuiet_step ?_
                intro K hK
                go_simp
                first
                  | (with_reducible refine hK _ ?_)
                  | (with_reducible refine ⟨_, fun _ _ => rfl, hK _ ?_⟩)
                clear hK K
                try simp only [Act.put, List.setIfInBounds_toArray, List.set_cons_zero, List.set_cons_succ]
                with_reducible refine wpQuiet_step ?_
                intro K hK
                go_simp
                first
                  | (with_reducible refine hK _ ?_)
                  | (with_reducible refine ⟨_, fun _ _ => rfl, hK _ ?_⟩)
                clear hK K
                try simp only [Act.put, List.setIfInBounds_toArray, List.set_cons_zero, List.set_cons_succ]
                with_reducible refine wpQuiet_step ?_
                intro K hK
                go_simp
                first
                  | (with_reducible refine hK _ ?_)
                  | (with_reducible refine ⟨_, fun _ _ => rfl, hK _ ?_⟩)
                clear hK K
                try simp only [Act.put, List.setIfInBounds_toArray, List.set_cons_zero, List.set_cons_succ]
                with_reducible refine wpQuiet_step ?_
                intro K hK
                refine qs_load_cell (by rfl) 3 _ rfl ⟨b, off + i * 2 + 1, none⟩ rfl (.int .i64 xd) (fun w hw => HCD.out w hw) Try.isAgg3 (hK _ ?_)
                clear hK K
                try simp only [Act.put, List.setIfInBounds_toArray, List.set_cons_zero, List.set_cons_succ]
                with_reducible refine wpQuiet_step ?_
                intro K hK
                go_simp
                first
                  | (with_reducible refine hK _ ?_)
                  | (with_reducible refine ⟨_, fun _ _ => rfl, hK _ ?_⟩)
                clear hK K
                try simp only [Act.put, List.setIfInBounds_toArray, List.set_cons_zero, List.set_cons_succ]
                with_reducible refine wpQuiet_step ?_
                intro K hK
                go_simp
                first
                  | (with_reducible refine hK _ ?_)
                  | (with_reducible refine ⟨_, fun _ _ => rfl, hK _ ?_⟩)
                clear hK K
                try simp only [Act.put, List.setIfInBounds_toArray, List.set_cons_zero, List.set_cons_succ]
                with_reducible refine wpQuiet_step ?_
                intro K hK
                go_simp
                first
                  | (with_reducible refine hK _ ?_)
                  | (with_reducible refine ⟨_, fun _ _ => rfl, hK _ ?_⟩)
                clear hK K
                try simp only [Act.put, List.setIfInBounds_toArray, List.set_cons_zero, List.set_cons_succ]
                with_reducible refine wpQuiet_step ?_
                intro K hK
                go_simp
                first
                  | (with_reducible refine hK _ ?_)
                  | (with_reducible refine ⟨_, fun _ _ => rfl, hK _ ?_⟩)
                clear hK K
                try simp only [Act.put, List.setIfInBounds_toArray, List.set_cons_zero, List.set_cons_succ]
                with_reducible refine wpQuiet_step ?_
                intro K hK
                go_simp
                first
                  | (with_reducible refine hK _ ?_)
                  | (with_reducible refine ⟨_, fun _ _ => rfl, hK _ ?_⟩)
                clear hK K
                try simp only [Act.put, List.setIfInBounds_toArray, List.set_cons_zero, List.set_cons_succ]
                with_reducible refine wpQuiet_step ?_
                intro K hK
                go_simp
                first
                  | (with_reducible refine hK _ ?_)
                  | (with_reducible refine ⟨_, fun _ _ => rfl, hK _ ?_⟩)
                clear hK K
                try simp only [Act.put, List.setIfInBounds_toArray, List.set_cons_zero, List.set_cons_succ]
                with_reducible refine wpQuiet_step ?_
                intro K hK
                refine qs_skipD (by rfl) (hK _ ?_)
                clear hK K
                try simp only [Act.put, List.setIfInBounds_toArray, List.set_cons_zero, List.set_cons_succ]
                with_reducible refine wpQuiet_step ?_
                intro K hK
                refine qs_skipD (by rfl) (hK _ ?_)
                clear hK K
                try simp only [Act.put, List.setIfInBounds_toArray, List.set_cons_zero, List.set_cons_succ]
                with_reducible refine wpQuiet_step ?_
                intro K hK
                refine qs_skipD (by rfl) (hK _ ?_)
                clear hK K
                try simp only [Act.put, List.setIfInBounds_toArray, List.set_cons_zero, List.set_cons_succ]
                with_reducible refine wpQuiet_step ?_
                intro K hK
                refine qs_skipD (by rfl) (hK _ ?_)
                clear hK K
                try simp only [Act.put, List.setIfInBounds_toArray, List.set_cons_zero, List.set_cons_succ]
                with_reducible refine wpQuiet_step ?_
                intro K hK
                refine qs_skipD (by rfl) (hK _ ?_)
                clear hK K
                try simp only [Act.put, List.setIfInBounds_toArray, List.set_cons_zero, List.set_cons_succ]
                with_reducible refine wpQuiet_step ?_
                intro K hK
                refine qs_skipD (by rfl) (hK _ ?_)
                clear hK K
                try simp only [Act.put, List.setIfInBounds_toArray, List.set_cons_zero, List.set_cons_succ]
                with_reducible refine wpQuiet_step ?_
                intro K hK
                refine qs_skipD (by rfl) (hK _ ?_)
                clear hK K
                try simp only [Act.put, List.setIfInBounds_toArray, List.set_cons_zero, List.set_cons_succ]
                with_reducible refine wpQuiet_step ?_
                intro K hK
                refine qs_skipD (by rfl) (hK _ ?_)
                clear hK K
                try simp only [Act.put, List.setIfInBounds_toArray, List.set_cons_zero, List.set_cons_succ]
                with_reducible refine wpQuiet_step ?_
                intro K hK
                refine qs_skipD (by rfl) (hK _ ?_)
                clear hK K
                try simp only [Act.put, List.setIfInBounds_toArray, List.set_cons_zero, List.set_cons_succ]
                with_reducible refine wpQuiet_step ?_
                intro K hK
                go_simp
                first
                  | (with_reducible refine hK _ ?_)
                  | (with_reducible refine ⟨_, fun _ _ => rfl, hK _ ?_⟩)
                clear hK K
                try simp only [Act.put, List.setIfInBounds_toArray, List.set_cons_zero, List.set_cons_succ]
                with_reducible refine wpQuiet_step ?_
                intro K hK
                go_simp
                first
                  | (with_reducible refine hK _ ?_)
                  | (with_reducible refine ⟨_, fun _ _ => rfl, hK _ ?_⟩)
                clear hK K
                try simp only [Act.put, List.setIfInBounds_toArray, List.set_cons_zero, List.set_cons_succ]
                refine wpQuiet_nil ?_
                intro w8 hC8
                have HX8 := Lib.hid (HCO.out _ hC8)
                clear hC8 hCi HCO HCU HCD
                go_wp2
                go_roundw
                case rel => exact ⟨i + 1, (i : Int), by omega, by go_num, rfl, HNX, HX8⟩
                case measure => simp [intOf]; omega
              · have hu : decide (i ∈ pk) = false := decide_eq_false hmem
                have dz : decide (z < 0) = false := decide_eq_false (by omega)
                obtain ⟨a, rfl⟩ : ∃ a : Nat, z = a := ⟨z.toNat, by omega⟩
                obtain ⟨hal, _, hrl⟩ := HIN.out.real
                have a0 : (0 : Int) ≤ (a : Int) := by omega
                have a1 : (a : Int) < (n : Int) := by omega
                have HRY : Hid (∀ w', Below wy.heap.size wy w' → w'.rangeAt b (off + a * 2) (diV (getD' l (a : Int)))) := Lib.hid fun w' h => by
                  obtain ⟨b', off', e, hr⟩ := HC.out _ (hwo ▸ HBW.out _ h) a (by rw [HN.out]; omega)
                  simp only [Option.some.injEq, Addr.mk.injEq, and_true] at e
                  obtain ⟨rfl, rfl⟩ := e
                  exact hr
                have KA := Lib.hid (fun w' => rahead_any (getD' l (i : Int)) (getD' l (a : Int)) w')
                have HTK : Hid (aheadD (getD' l (i : Int)) (getD' l (a : Int)) = true → IND l pk (i + 1) i) := Lib.hid fun h => HIN.out.take hmem (by omega) (fun a' e => (show a = a' by omega) ▸ h)
                have HKP : Hid (aheadD (getD' l (i : Int)) (getD' l (a : Int)) = false → IND l pk (i + 1) a) := Lib.hid fun h => HIN.out.keep (by omega) h
                clear hrl
                obtain ⟨xi, xd, hx⟩ : ∃ xi xd, getD' l (i : Int) = (xi, xd) := ⟨_, _, rfl⟩
                rw [hx] at HRX hdp KA HTK HKP
                simp only at hdp
                have dx : decide (0 ≤ xd) = true := decide_eq_true (by omega)
                clear hx
                generalize getD' l (a : Int) = y at *
                obtain ⟨C, hCi, hCo, hCU, hCD, hCX, hCY, hCA⟩ : ∃ C : World → Prop, C wr.drew ∧ (∀ w', C w' → Below wy.heap.size wy w') ∧ (∀ w', C w' → w'.cell? ⟨U, i, none⟩ = some (.bool false)) ∧ (∀ w', C w' → w'.cell? ⟨b, off + i * 2 + 1, none⟩ = some (.int .i64 xd)) ∧ (∀ w', C w' → w'.rangeAt b (off + i * 2) (diV (xi, xd))) ∧ (∀ w', C w' → w'.rangeAt b (off + a * 2) (diV y)) ∧ (∀ w', C w' → Calls Try.prog 54 #[.agg (diV (xi, xd)).toArray, .agg (diV y).toArray] w' fun e w'' => e = .returned (.bool (aheadD (xi, xd) y)) ∧ C w'') :=
                  ⟨fun w' => Below wy.heap.size wy w', HBZ.out.drew, fun _ h => h, fun w' h => by rw [HUC.out w' h, hu], fun w' h => HRX.out w' h 1 _ rfl, HRX.out, HRY.out, fun w' h => cls_call (P := Try.prog) KA.out (Nat.le_refl _) h⟩
                have HCO := Lib.hid hCo
                have HCU := Lib.hid hCU
                have HCD := Lib.hid hCD
                have HCX := Lib.hid hCX
                have HCY := Lib.hid hCY
                have HCA := Lib.hid hCA
                clear hCo hCU hCD hCX hCY hCA HRX HRY KA
                go_upto_region 10 with fail
                refine wp_region_cls C (by kernel_rfl) (by kernel_rfl) hCi ?_
                with_reducible refine wpQuiet_step ?_
                intro K hK
                go_simp
                first
                  | (with_reducible refine hK _ ?_)
                  | (with_reducible refine ⟨_, fun _ _ => rfl, hK _ ?_⟩)
                clear hK K
                try simp only [Act.put, List.setIfInBounds_toArray, List.set_cons_zero, List.set_cons_succ]
                with_reducible refine wpQuiet_step ?_
                intro K hK
                go_simp
                first
                  | (with_reducible refine hK _ ?_)
                  | (with_reducible refine ⟨_, fun _ _ => rfl, hK _ ?_⟩)
                clear hK K
                try simp only [Act.put, List.setIfInBounds_toArray, List.set_cons_zero, List.set_cons_succ]
                with_reducible refine wpQuiet_step ?_
                intro K hK
                go_simp
                first
                  | (with_reducible refine hK _ ?_)
                  | (with_reducible refine ⟨_, fun _ _ => rfl, hK _ ?_⟩)
                clear hK K
                try simp only [Act.put, List.setIfInBounds_toArray, List.set_cons_zero, List.set_cons_succ]
                with_reducible refine wpQuiet_step ?_
                intro K hK
                refine qs_load_cell (by rfl) 4 _ rfl ⟨U, i, none⟩ rfl (.bool false) (fun w hw => HCU.out w hw) Try.isAgg4 (hK _ ?_)
                clear hK K
                try simp only [Act.put, List.setIfInBounds_toArray, List.set_cons_zero, List.set_cons_succ]
                with_reducible refine wpQuiet_step ?_
                intro K hK
                go_simp
                first
                  | (with_reducible refine hK _ ?_)
                  | (with_reducible refine ⟨_, fun _ _ => rfl, hK _ ?_⟩)
                clear hK K
                try simp only [Act.put, List.setIfInBounds_toArray, List.set_cons_zero, List.set_cons_succ]
                with_reducible refine wpQuiet_step ?_
                intro K hK
                go_simp
                first
                  | (with_reducible refine hK _ ?_)
                  | (with_reducible refine ⟨_, fun _ _ => rfl, hK _ ?_⟩)
                clear hK K
                try simp only [Act.put, List.setIfInBounds_toArray, List.set_cons_zero, List.set_cons_succ]
                with_reducible refine wpQuiet_step ?_
                intro K hK
                go_simp
                first
                  | (with_reducible refine hK _ ?_)
                  | (with_reducible refine ⟨_, fun _ _ => rfl, hK _ ?_⟩)
                clear hK K
                try simp only [Act.put, List.setIfInBounds_toArray, List.set_cons_zero, List.set_cons_succ]
                with_reducible refine wpQuiet_step ?_
                intro K hK
                go_simp
                first
                  | (with_reducible refine hK _ ?_)
                  | (with_reducible refine ⟨_, fun _ _ => rfl, hK _ ?_⟩)
                clear hK K
                try simp only [Act.put, List.setIfInBounds_toArray, List.set_cons_zero, List.set_cons_succ]
                with_reducible refine wpQuiet_step ?_
                intro K hK
                go_simp
                first
                  | (with_reducible refine hK _ ?_)
                  | (with_reducible refine ⟨_, fun _ _ => rfl, hK _ ?_⟩)
                clear hK K
                try simp only [Act.put, List.setIfInBounds_toArray, List.set_cons_zero, List.set_cons_succ]
                with_reducible refine wpQuiet_step ?_
                intro K hK
                go_simp
                first
                  | (with_reducible refine hK _ ?_)
                  | (with_reducible refine ⟨_, fun _ _ => rfl, hK _ ?_⟩)
                clear hK K
                try simp only [Act.put, List.setIfInBounds_toArray, List.set_cons_zero, List.set_cons_succ]
                with_reducible refine wpQuiet_step ?_
                intro K hK
                refine qs_load_cell (by rfl) 3 _ rfl ⟨b, off + i * 2 + 1, none⟩ rfl (.int .i64 xd) (fun w hw => HCD.out w hw) Try.isAgg3 (hK _ ?_)
                clear hK K
                try simp only [Act.put, List.setIfInBounds_toArray, List.set_cons_zero, List.set_cons_succ]
                with_reducible refine wpQuiet_step ?_
                intro K hK
                go_simp
                first
                  | (with_reducible refine hK _ ?_)
                  | (with_reducible refine ⟨_, fun _ _ => rfl, hK _ ?_⟩)
                clear hK K
                try simp only [Act.put, List.setIfInBounds_toArray, List.set_cons_zero, List.set_cons_succ]
                with_reducible refine wpQuiet_step ?_
                intro K hK
                go_simp
                first
                  | (with_reducible refine hK _ ?_)
                  | (with_reducible refine ⟨_, fun _ _ => rfl, hK _ ?_⟩)
                clear hK K
                try simp only [Act.put, List.setIfInBounds_toArray, List.set_cons_zero, List.set_cons_succ]
                with_reducible refine wpQuiet_step ?_
                intro K hK
                go_simp
                first
                  | (with_reducible refine hK _ ?_)
                  | (with_reducible refine ⟨_, fun _ _ => rfl, hK _ ?_⟩)
                clear hK K
                try simp only [Act.put, List.setIfInBounds_toArray, List.set_cons_zero, List.set_cons_succ]
                with_reducible refine wpQuiet_step ?_
                intro K hK
                go_simp
                first
                  | (with_reducible refine hK _ ?_)
                  | (with_reducible refine ⟨_, fun _ _ => rfl, hK _ ?_⟩)
                clear hK K
                try simp only [Act.put, List.setIfInBounds_toArray, List.set_cons_zero, List.set_cons_succ]
                with_reducible refine wpQuiet_step ?_
                intro K hK
                go_simp
                first
                  | (with_reducible refine hK _ ?_)
                  | (with_reducible refine ⟨_, fun _ _ => rfl, hK _ ?_⟩)
                clear hK K
                try simp only [Act.put, List.setIfInBounds_toArray, List.set_cons_zero, List.set_cons_succ]
                with_reducible refine wpQuiet_step ?_
                intro K hK
                go_simp
                first
                  | (with_reducible refine hK _ ?_)
                  | (with_reducible refine ⟨_, fun _ _ => rfl, hK _ ?_⟩)
                clear hK K
                try simp only [Act.put, List.setIfInBounds_toArray, List.set_cons_zero, List.set_cons_succ]
                with_reducible refine wpQuiet_step ?_
                intro K hK
                go_simp
                first
                  | (with_reducible refine hK _ ?_)
                  | (with_reducible refine ⟨_, fun _ _ => rfl, hK _ ?_⟩)
                clear hK K
                try simp only [Act.put, List.setIfInBounds_toArray, List.set_cons_zero, List.set_cons_succ]
                with_reducible refine wpQuiet_step ?_
                intro K hK
                go_simp
                first
                  | (with_reducible refine hK _ ?_)
                  | (with_reducible refine ⟨_, fun _ _ => rfl, hK _ ?_⟩)
                clear hK K
                try simp only [Act.put, List.setIfInBounds_toArray, List.set_cons_zero, List.set_cons_succ]
                with_reducible refine wpQuiet_step ?_
                intro K hK
                go_simp
                first
                  | (with_reducible refine hK _ ?_)
                  | (with_reducible refine ⟨_, fun _ _ => rfl, hK _ ?_⟩)
                clear hK K
                try simp only [Act.put, List.setIfInBounds_toArray, List.set_cons_zero, List.set_cons_succ]
                with_reducible refine wpQuiet_step ?_
                intro K hK
                refine qs_load_midD (by rfl) 95 (.tmp 43) rfl b (off + i * 2) rfl (diV (xi, xd)) _ (fun w hw => HCX.out w hw) Try.underlying95 rfl (info_diR (xi, xd)) (hK _ ?_)
                clear hK K
                try simp only [Act.put, List.setIfInBounds_toArray, List.set_cons_zero, List.set_cons_succ]
                with_reducible refine wpQuiet_step ?_
                intro K hK
                go_simp
                first
                  | (with_reducible refine hK _ ?_)
                  | (with_reducible refine ⟨_, fun _ _ => rfl, hK _ ?_⟩)
                clear hK K
                try simp only [Act.put, List.setIfInBounds_toArray, List.set_cons_zero, List.set_cons_succ]
                with_reducible refine wpQuiet_step ?_
                intro K hK
                go_simp
                first
                  | (with_reducible refine hK _ ?_)
                  | (with_reducible refine ⟨_, fun _ _ => rfl, hK _ ?_⟩)
                clear hK K
                try simp only [Act.put, List.setIfInBounds_toArray, List.set_cons_zero, List.set_cons_succ]
                with_reducible refine wpQuiet_step ?_
                intro K hK
                go_simp
                first
                  | (with_reducible refine hK _ ?_)
                  | (with_reducible refine ⟨_, fun _ _ => rfl, hK _ ?_⟩)
                clear hK K
                try simp only [Act.put, List.setIfInBounds_toArray, List.set_cons_zero, List.set_cons_succ]
                with_reducible refine wpQuiet_step ?_
                intro K hK
                refine qs_load_midD (by rfl) 95 (.tmp 47) rfl b (off + a * 2) rfl (diV y) _ (fun w hw => HCY.out w hw) Try.underlying95 rfl (info_diR y) (hK _ ?_)
                clear hK K
                try simp only [Act.put, List.setIfInBounds_toArray, List.set_cons_zero, List.set_cons_succ]
                with_reducible refine wpQuiet_step ?_
                intro K hK
                go_simp
                with_reducible apply Exists.intro
                with_reducible refine ⟨fun _ hC => ?_, hK _ ?_⟩
                with_reducible exact HCA.out _ hC
                clear hK K
                try simp only [Act.put, List.setIfInBounds_toArray, List.set_cons_zero, List.set_cons_succ]
                with_reducible refine wpQuiet_step ?_
                intro K hK
                go_simp
                first
                  | (with_reducible refine hK _ ?_)
                  | (with_reducible refine ⟨_, fun _ _ => rfl, hK _ ?_⟩)
                clear hK K
                try simp only [Act.put, List.setIfInBounds_toArray, List.set_cons_zero, List.set_cons_succ]
                with_reducible refine wpQuiet_step ?_
                intro K hK
                go_simp
                first
                  | (with_reducible refine hK _ ?_)
                  | (with_reducible refine ⟨_, fun _ _ => rfl, hK _ ?_⟩)
                clear hK K
                try simp only [Act.put, List.setIfInBounds_toArray, List.set_cons_zero, List.set_cons_succ]
                refine wpQuiet_nil ?_
                intro w8 hC8
                have HX8 := Lib.hid (HCO.out _ hC8)
                clear hC8 hCi HCO HCU HCD HCX HCY HCA
                generalize aheadD (xi, xd) y = r at *
                cases r
                · go_wp2
                  go_roundw
                  case rel => exact ⟨i + 1, (a : Int), by omega, by go_num, rfl, Lib.hid (HKP.out rfl), HX8⟩
                  case measure => simp [intOf]; omega
                · go_wp2
                  go_roundw
                  case rel => exact ⟨i + 1, (i : Int), by omega, by go_num, rfl, Lib.hid (HTK.out rfl), HX8⟩
                  case measure => simp [intOf]; omega
        · obtain rfl : i = n := by omega
          have hd1 : decide ((i : Int) < (i : Int)) = false := by simp
          have hIN : IND l pk l.length z := by rw [HN.out]; exact HIN.out
          have hBW : Below wo.heap.size wo wr := (hwy ▸ HBX.out : Below wo.heap.size wo wy).trans (HBZ.out.mono (hwy ▸ HBX.out : Below wo.heap.size wo wy).size)
          have hRZ : wr.rowIs U 4 i (fun i => .bool (decide (i ∈ pk))) := (hwy ▸ HRU.out : wy.rowIs U 4 i (fun i => .bool (decide (i ∈ pk)))).of_block (HBZ.out.block U (hwy ▸ HUX.out : U + 1 ≤ wy.heap.size))
          have hOZ := ownsRow_below (hwy ▸ HO.out : wy.ownsRow (U + 1) 3 1 u4 m ((pk.map (fun i : Nat => (i : Int))).map (Value.int .i64))) HBZ.out
          have hUZ : U + 1 ≤ wr.heap.size := Nat.le_trans (hwy ▸ HUX.out : U + 1 ≤ wy.heap.size) HBZ.out.size
          by_cases hz : z < 0
          · have HNO : Hid (NoR l pk) := Lib.hid (hIN.none hz)
            have dz : decide (z < 0) = true := decide_eq_true hz
            have HBV := Lib.hid hBW
            have HRV := Lib.hid hRZ
            have HOV := Lib.hid hOZ
            have HUV := Lib.hid hUZ
            clear hBW hRZ hOZ hUZ hIN HIN HBZ hd1 d1 d1' hm
            go_wp2_with fail
            go_loopw [4, 8] (fun o iv wx => ∃ (k : Nat), k ≤ i ∧ iv = .int .i64 k ∧ Hid (wx.ownsRow (U + 1) 3 1 o (m + (restD k pk).length) ((pk.map (fun i : Nat => (i : Int))).map (Value.int .i64) ++ ((restD k pk).map (fun i : Nat => (i : Int))).map (Value.int .i64))) ∧ Hid (wx.rowIs U 4 i (fun i => .bool (decide (i ∈ pk)))) ∧ Hid (Below wo.heap.size wo wx) ∧ Hid (U + 1 ≤ wx.heap.size)) (fun _ iv _ => i - (intOf iv).toNat)
            case atStart => exact ⟨0, by omega, rfl, Lib.hid (by have := HOV.out; simpa [restD] using this), HRV, HBV, HUV⟩
            case round =>
              obtain ⟨k, hk, rfl, HOK, HRK, HBK, HUK⟩ := hrel
              by_cases hkn : k < i
              · have dk : decide ((k : Int) < (i : Int)) = true := decide_eq_true (by omega)
                have dk' : decide (k < i) = true := decide_eq_true hkn
                have k0 : (0 : Int) ≤ (k : Int) := by omega
                have k1 : (k : Int) < (i : Int) := by omega
                have c0 := HRK.out.cell hkn
                have HRS := Lib.hid (restD_succ k pk)
                have HRL : Hid ((restD k pk).length ≤ k) := Lib.hid (by
                  have := List.length_filter_le (fun i => decide (i ∉ pk)) (List.range k)
                  rw [List.length_range] at this
                  exact this)
                by_cases hmem : k ∈ pk
                · have hu : decide (k ∈ pk) = true := decide_eq_true hmem
                  rw [hu] at c0
                  rw [if_pos hmem] at HRS
                  go_wp2
                  go_roundw
                  case rel => exact ⟨k + 1, by omega, by go_num, Lib.hid (by rw [HRS.out]; exact HOK.out), HRK, HBK, HUK⟩
                  case measure => simp [intOf]; omega
                · have hu : decide (k ∈ pk) = false := decide_eq_false hmem
                  rw [hu] at c0
                  rw [if_neg hmem] at HRS
                  obtain ⟨q, hq⟩ : ∃ q, (restD k pk).length = q := ⟨_, rfl⟩
                  have HQ := Lib.hid hq
                  have HRL := HRL.out
                  rw [hq] at HOK HRL
                  have hmq : m + q ≤ 4398046511104 := by omega
                  clear hq
                  go_wp2_with (first
                    | (at_builtin; go_loud (refine wpList_append_own_at _ rfl (.tmp 73) (.tmp 75) 30 rfl (U + 1) 3 i0 (.int .i64 0) 1 8 Try.underlying30 HI.out HZ.out HS.out HY.out rfl (by decide) _ (m + q) _ rfl (HOK.out.alloc _) ⟨wr.heap.size, 0, none⟩ 1 1 [.int .i64 (k : Int)] rfl rfl (cells_litD _ [.int .i64 (k : Int)] _) (by simp [Value.oneCell']) (by unfold maxLen; omega) (by omega) (by have := HUK.out; simp; omega) ?_))
                    | fail)
                  intro v' w4 hown hgrow _ _
                  have HO4 : Hid (w4.ownsRow (U + 1) 3 1 v' (m + (restD (k + 1) pk).length) ((pk.map (fun i : Nat => (i : Int))).map (Value.int .i64) ++ ((restD (k + 1) pk).map (fun i : Nat => (i : Int))).map (Value.int .i64))) := Lib.hid (by
                    rw [HRS.out, List.length_append, List.length_singleton, HQ.out]
                    simpa [Nat.add_assoc] using hown)
                  have hbu : Below (U + 1) wr w4 := ((Below.refl (U + 1) wr).alloc HUK.out _).grown hgrow (by have := HUK.out; simp; omega) (fun j hj => (HOK.out.lt j hj).1)
                  have HB4 : Hid (Below wo.heap.size wo w4) := Lib.hid ((HBK.out.alloc HBK.out.size _).grown hgrow (by have := HBK.out.size; simp; omega) (fun j hj => by have := (HOK.out.lt j hj).1; have := HOU.out; omega))
                  have HR4 : Hid (w4.rowIs U 4 i (fun j => .bool (decide (j ∈ pk)))) := Lib.hid (HRK.out.of_block (hbu.block U (by omega)))
                  have HU4 : Hid (U + 1 ≤ w4.heap.size) := Lib.hid (Nat.le_trans HUK.out hbu.size)
                  clear hown hgrow hbu
                  go_wp2
                  go_roundw
                  case rel => exact ⟨k + 1, by omega, by go_num, HO4, HR4, HB4, HU4⟩
                  case measure => simp [intOf]; omega
              · obtain rfl : k = i := by omega
                have dk : decide ((k : Int) < (k : Int)) = false := by simp
                have HFI : Hid (ordD l = pk.map (fun i : Nat => (i : Int)) ++ (restD k pk).map (fun i : Nat => (i : Int))) := Lib.hid (by
                  have := HP.out.done HNO.out
                  rwa [HN.out] at this)
                have HSL : Hid (wr.ownsRow U 3 1 u4 k ((ordD l).map (Value.int .i64))) := Lib.hid (by
                  have h1 := congrArg List.length HFI.out
                  rw [ordD_len, HN.out, List.length_append, List.length_map, List.length_map, HPM.out] at h1
                  have h2 := HOK.out
                  rw [← h1] at h2
                  rw [HFI.out, List.map_append]
                  exact own_base h2 (by omega))
                clear HOK
                go_wp2
                go_ret
                exact ⟨_, rfl, by rw [HUE.out]; exact HSL.out, by rw [← hwo]; exact HBK.out⟩
          · obtain ⟨a, rfl⟩ : ∃ a : Nat, z = a := ⟨z.toNat, by omega⟩
            obtain ⟨hal, han, _⟩ := hIN.real
            have dz : decide ((a : Int) < 0) = false := decide_eq_false hz
            have HPK := Lib.hid (HP.out.snoc hIN)
            rw [HN.out] at hal
            have c0 : wr.cell? ⟨U, a, none⟩ = some (.bool false) := (hRZ.cell hal).trans (by simp [han])
            have f0 := hRZ.frozen a
            have a0 : (0 : Int) ≤ (a : Int) := by omega
            have a1 : (a : Int) < (i : Int) := by omega
            have HUZ := Lib.hid hUZ
            have HWF : Hid ((wr.setCell ⟨U, a, none⟩ (.bool true)).rowIs U 4 i (fun j => if j = a then .bool true else .bool (decide (j ∈ pk))) ∧ (wr.setCell ⟨U, a, none⟩ (.bool true)).ownsRow (U + 1) 3 1 u4 m ((pk.map (fun i : Nat => (i : Int))).map (Value.int .i64)) ∧ Below wo.heap.size wo (wr.setCell ⟨U, a, none⟩ (.bool true)) ∧ U + 1 ≤ (wr.setCell ⟨U, a, none⟩ (.bool true)).heap.size) := Lib.hid (by
              have hb := below_setCells (b := U) HOU.out [.bool true] a hBW
              refine ⟨hRZ.set a _, own_of hOZ (fun k hk => Go.Deep.blk_setCell_other _ _ _ _ (by have := (hOZ.lt k hk).1; show k ≠ U; omega)), hb, ?_⟩
              have hb2 := below_setCells (b := U) (B := U) (Nat.le_refl _) [.bool true] a (Below.refl U wr)
              exact Nat.le_trans hUZ hb2.size)
            clear hBW hRZ hOZ hIN HIN HBZ hUZ
            go_upto_region 14 with fail
            refine at_world (fun w' => w'.rowIs U 4 i (fun j => if j = a then .bool true else .bool (decide (j ∈ pk))) ∧ w'.ownsRow (U + 1) 3 1 u4 m ((pk.map (fun i : Nat => (i : Int))).map (Value.int .i64)) ∧ Below wo.heap.size wo w' ∧ U + 1 ≤ w'.heap.size) HWF.out ?_
            rintro wb ⟨hb1, hb2, hb3, hb4⟩
            have HRB := Lib.hid hb1
            have HOB := Lib.hid hb2
            have HBB := Lib.hid hb3
            have HSB := Lib.hid hb4
            have HTK : Hid (((pk ++ [a]).map (fun i : Nat => (i : Int))).map (Value.int .i64) = (pk.map (fun i : Nat => (i : Int))).map (Value.int .i64) ++ [.int .i64 (a : Int)]) := Lib.hid (by simp)
            have HLN : Hid (((pk.map (fun i : Nat => (i : Int))).map (Value.int .i64)).length = m) := Lib.hid (by rw [List.length_map, List.length_map]; exact HPM.out)
            clear hb1 hb2 hb3 hb4 c0 f0 HWF
            go_wp2_with (first
              | (at_builtin; go_loud (refine wpList_append_own_at _ rfl (.tmp 58) (.tmp 60) 30 rfl (U + 1) 3 i0 (.int .i64 0) 1 8 Try.underlying30 HI.out HZ.out HS.out HY.out rfl (by decide) _ m ((pk.map (fun i : Nat => (i : Int))).map (Value.int .i64)) rfl (HOB.out.alloc _) ⟨wb.heap.size, 0, none⟩ 1 1 [.int .i64 (a : Int)] rfl rfl (cells_litD _ [.int .i64 (a : Int)] _) (by simp [Value.oneCell']) (by unfold maxLen; omega) (by omega) (by have := HSB.out; simp; omega) ?_))
              | fail)
            intro v' w4 hown hgrow _ _
            have HO4 : Hid (w4.ownsRow (U + 1) 3 1 v' (m + 1) (((pk ++ [a]).map (fun i : Nat => (i : Int))).map (Value.int .i64))) := Lib.hid (by
              rw [HTK.out]
              first | exact hown | simpa using hown)
            have hbu : Below (U + 1) wb w4 := ((Below.refl (U + 1) wb).alloc HSB.out _).grown hgrow (by have := HSB.out; simp; omega) (fun j hj => (HOB.out.lt j hj).1)
            have HB4 : Hid (Below wo.heap.size wo w4) := Lib.hid ((HBB.out.alloc HBB.out.size _).grown hgrow (by have := HBB.out.size; simp; omega) (fun j hj => by have := (HOB.out.lt j hj).1; have := HOU.out; omega))
            have HR4 : Hid (w4.rowIs U 4 i (fun j => .bool (decide (j ∈ pk ++ [a])))) := Lib.hid ((HRB.out.of_block (hbu.block U (by omega))).congr (fun j _ => by
              by_cases hj : j = a
              · simp [hj]
              · simp [hj]))
            have HU4 : Hid (U + 1 ≤ w4.heap.size) := Lib.hid (Nat.le_trans HSB.out hbu.size)
            clear hown hgrow hbu
            go_wp2
            go_roundw
            case rel => exact ⟨m + 1, pk ++ [a], by rw [List.length_append, List.length_singleton, HPM.out], by omega, by go_num, HPK, HR4, HO4, HB4, HU4⟩
            case measure => simp [intOf]; omega
    · obtain rfl : m = n := by omega
      have d1 : decide ((m : Int) < (m : Int)) = false := by simp
      have HNO : Hid (NoR l pk) := Lib.hid (HP.out.all (by rw [HPM.out, HN.out]))
      have HBV := HBX
      have HRV := HRU
      have HOV := HO
      have HUV := HUX
      clear HBX HRU HO HUX
      go_wp2_with fail
      go_loopw [4, 8] (fun o iv wx => ∃ (k : Nat), k ≤ m ∧ iv = .int .i64 k ∧ Hid (wx.ownsRow (U + 1) 3 1 o (m + (restD k pk).length) ((pk.map (fun i : Nat => (i : Int))).map (Value.int .i64) ++ ((restD k pk).map (fun i : Nat => (i : Int))).map (Value.int .i64))) ∧ Hid (wx.rowIs U 4 m (fun i => .bool (decide (i ∈ pk)))) ∧ Hid (Below wo.heap.size wo wx) ∧ Hid (U + 1 ≤ wx.heap.size)) (fun _ iv _ => m - (intOf iv).toNat)
      case atStart => exact ⟨0, by omega, rfl, Lib.hid (by have := HOV.out; simpa [restD] using this), HRV, HBV, HUV⟩
      case round =>
        obtain ⟨k, hk, rfl, HOK, HRK, HBK, HUK⟩ := hrel
        by_cases hkn : k < m
        · have dk : decide ((k : Int) < (m : Int)) = true := decide_eq_true (by omega)
          have dk' : decide (k < m) = true := decide_eq_true hkn
          have k0 : (0 : Int) ≤ (k : Int) := by omega
          have k1 : (k : Int) < (m : Int) := by omega
          have c0 := HRK.out.cell hkn
          have HRS := Lib.hid (restD_succ k pk)
          have HRL : Hid ((restD k pk).length ≤ k) := Lib.hid (by
            have := List.length_filter_le (fun i => decide (i ∉ pk)) (List.range k)
            rw [List.length_range] at this
            exact this)
          by_cases hmem : k ∈ pk
          · have hu : decide (k ∈ pk) = true := decide_eq_true hmem
            rw [hu] at c0
            rw [if_pos hmem] at HRS
            go_wp2
            go_roundw
            case rel => exact ⟨k + 1, by omega, by go_num, Lib.hid (by rw [HRS.out]; exact HOK.out), HRK, HBK, HUK⟩
            case measure => simp [intOf]; omega
          · have hu : decide (k ∈ pk) = false := decide_eq_false hmem
            rw [hu] at c0
            rw [if_neg hmem] at HRS
            obtain ⟨q, hq⟩ : ∃ q, (restD k pk).length = q := ⟨_, rfl⟩
            have HQ := Lib.hid hq
            have HRL := HRL.out
            rw [hq] at HOK HRL
            have hmq : m + q ≤ 4398046511104 := by omega
            clear hq
            go_wp2_with (first
              | (at_builtin; go_loud (refine wpList_append_own_at _ rfl (.tmp 73) (.tmp 75) 30 rfl (U + 1) 3 i0 (.int .i64 0) 1 8 Try.underlying30 HI.out HZ.out HS.out HY.out rfl (by decide) _ (m + q) _ rfl (HOK.out.alloc _) ⟨wr.heap.size, 0, none⟩ 1 1 [.int .i64 (k : Int)] rfl rfl (cells_litD _ [.int .i64 (k : Int)] _) (by simp [Value.oneCell']) (by unfold maxLen; omega) (by omega) (by have := HUK.out; simp; omega) ?_))
              | fail)
            intro v' w4 hown hgrow _ _
            have HO4 : Hid (w4.ownsRow (U + 1) 3 1 v' (m + (restD (k + 1) pk).length) ((pk.map (fun i : Nat => (i : Int))).map (Value.int .i64) ++ ((restD (k + 1) pk).map (fun i : Nat => (i : Int))).map (Value.int .i64))) := Lib.hid (by
              rw [HRS.out, List.length_append, List.length_singleton, HQ.out]
              simpa [Nat.add_assoc] using hown)
            have hbu : Below (U + 1) wr w4 := ((Below.refl (U + 1) wr).alloc HUK.out _).grown hgrow (by have := HUK.out; simp; omega) (fun j hj => (HOK.out.lt j hj).1)
            have HB4 : Hid (Below wo.heap.size wo w4) := Lib.hid ((HBK.out.alloc HBK.out.size _).grown hgrow (by have := HBK.out.size; simp; omega) (fun j hj => by have := (HOK.out.lt j hj).1; have := HOU.out; omega))
            have HR4 : Hid (w4.rowIs U 4 m (fun j => .bool (decide (j ∈ pk)))) := Lib.hid (HRK.out.of_block (hbu.block U (by omega)))
            have HU4 : Hid (U + 1 ≤ w4.heap.size) := Lib.hid (Nat.le_trans HUK.out hbu.size)
            clear hown hgrow hbu
            go_wp2
            go_roundw
            case rel => exact ⟨k + 1, by omega, by go_num, HO4, HR4, HB4, HU4⟩
            case measure => simp [intOf]; omega
        · obtain rfl : k = m := by omega
          have dk : decide ((k : Int) < (k : Int)) = false := by simp
          have HFI : Hid (ordD l = pk.map (fun i : Nat => (i : Int)) ++ (restD k pk).map (fun i : Nat => (i : Int))) := Lib.hid (by
            have := HP.out.done HNO.out
            rwa [HN.out] at this)
          have HSL : Hid (wr.ownsRow U 3 1 u4 k ((ordD l).map (Value.int .i64))) := Lib.hid (by
            have h1 := congrArg List.length HFI.out
            rw [ordD_len, HN.out, List.length_append, List.length_map, List.length_map, HPM.out] at h1
            have h2 := HOK.out
            rw [← h1] at h2
            rw [HFI.out, List.map_append]
            exact own_base h2 (by omega))
          clear HOK
          go_wp2
          go_ret
          exact ⟨_, rfl, by rw [HUE.out]; exact HSL.out, by rw [← hwo]; exact HBK.out⟩
end Go.Proofs.Ytiimdgdimjjboaa
