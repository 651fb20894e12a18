/-
  The walks of package scan: a table that is looked at whole.
-/
import Derived.Test.YtngpaibppdehdaaScanL
import Derived.Test.YtngpaibppdehdaaOneR
import Derived.Test.YtngpaibppdehdaaCells
import Derived.Deep.DeepCutAuto
namespace Go.Sg
open Go Go.RowKit
theorem an_mk_mk (a b : Bool) : an (mk a) (mk b) = mk (a && b) := by cases a <;> cases b <;> decide
theorem rr_mk_mk (a b : Bool) : rr (mk a) (mk b) = mk (a || b) := by cases a <;> cases b <;> decide
theorem zip_mk (b : Bool) (x y : List Int) (h : x.length = y.length) (hx : ∀ z ∈ x, Word z) (hy : ∀ z ∈ y, Word z) : List.zipWith (pk (mk b)) x y = if b then x else y := by
  cases b
  · exact zip_zero x y h hx hy
  · exact zip_max x y h hx hy
theorem Blk_setCells_all {w : World} {b : Nat} {cs : Array Value} {t : TypeId} (vs : List Value) (h : Blk w b cs t) (hs : cs.size = vs.length) : Blk (w.setCells b 0 vs) b vs.toArray t := by
  obtain ⟨cs', h1, h2, h3⟩ := Go.Proofs.Ytngpaibppdehdaa.Blk_setCells vs 0 h
  have : cs' = vs.toArray := by
    apply Array.ext_getElem?
    intro m
    rw [h3 m, List.getElem?_toArray, Nat.sub_zero]
    by_cases hm : m < vs.length
    · rw [if_pos (by omega)]
      simp
    · rw [if_neg (by omega)]
      simp [show cs.size ≤ m by omega, show vs.length ≤ m by omega]
  rw [← this]
  exact h1
end Go.Sg
namespace Go.Proofs.Ytngpaibppdehdaa
open Go Go.RowKit Go.Sg
variable {w0 w : World} {p : Nat} {M : Mm} {D : Nat → Prop} {X : World → Prop}

theorem info_c12 (l : List Int) (h : l.length = 12) : (Try.prog.info? 44).map (·.size) = some (wv l).length := by rw [wv_len, h]; kernel_rfl
/-- beside a memory a block's cells turn whole -/
theorem OneX.store {T : Nat} {w0 w : World} {p : Nat} {M : Mm} {D : Nat → Prop} {X : World → Prop} {b : Nat} {cs : Array Value} {t : TypeId} (hK : Keeps D X) (hb : ∀ k, D k → k ≠ b) (h : OneX T w0 w p M (fun i => D i ∨ i = b) (fun w => X w ∧ Blk w b cs t)) (hw : w0.heap.size ≤ b) (vs : List Value) (hs : cs.size = vs.length) :
    OneX T w0 (w.setCells b 0 vs) p M (fun i => D i ∨ i = b) (fun w => X w ∧ Blk w b vs.toArray t) := by
  have hx := h.x
  refine h.turn (fun _ h => h) ((MFrame.refl _ _).setCells vs 0 (.inl ⟨.inr rfl, hw⟩) |> fun f => f) ⟨?_, Blk_setCells_all vs hx.2 hs⟩
  exact hK _ _ (by rw [size_setCells]; exact Nat.le_refl _) (fun k hk => heap_setCells_ne vs 0 w k (hb k hk)) hx.1

set_option maxHeartbeats 4000000 in
set_option maxRecDepth 100000 in
theorem one_get (hK : Keeps D X) (r at' : Int) (ha : Word at') (h : OneX 108 w0 w p M D X) (hN : M.evs.length ≤ 1099511600000) :
    Calls Try.prog 50 #[.pointer (some ⟨p, 0, none⟩), .int .i64 r, .int .u64 at'] w fun e w' => e = .returned (.agg (cw (M.read r at'))) ∧ OneX 108 w0 w' p (M.noted (readsL r (M.size r))) D X := by
  have hok := h.ok
  have hsz := Mm.size_le hok r
  have hD : ∀ k, D k → k < w.heap.size := by
    obtain ⟨F, _, _, _, _, h5, _⟩ := h
    exact h5
  have hw0 := h.old.size
  have HA := Lib.hid (Mm.getK_all (M := M) (r := r) ha.1)
  have h1 := h.box hK z12 44
  have hK1 := keeps_and hK (keeps_blk w.heap.size z12 44)
  have h2 := h1.box hK1 z12 44
  rw [World.size_alloc] at h2
  have HW : Hid (w0.heap.size ≤ w.heap.size) := Lib.hid hw0
  obtain ⟨B, hB⟩ : ∃ B, w.heap.size = B := ⟨_, rfl⟩
  rw [hB] at h2 hK1 hD hw0
  have HD := Lib.hid hD
  have HK1 := Lib.hid hK1
  obtain ⟨n, hn⟩ : ∃ n, M.size r = n := ⟨_, rfl⟩
  have HX0 : Hid (OneX 108 w0 ((w.alloc (.cells z12 44)).alloc (.cells z12 44)) p (M.noted (readsL r 0)) (fun i => (D i ∨ i = B) ∨ i = B + 1) (fun w' => (X w' ∧ Blk w' B z12 44) ∧ Blk w' (B + 1) (wv (M.getK r at' 0)).toArray 44)) := Lib.hid (by
    have e1 : M.noted (readsL r 0) = M := by simp [readsL, Mm.noted]
    have e2 : (wv (M.getK r at' 0)).toArray = z12 := by
      have : M.getK r at' 0 = zeros := if_neg (by have := ha.1; omega)
      rw [this]; rfl
    rw [e1, e2]
    exact h2)
  have HK2 : Hid (∀ l : List Int, Keeps (fun i => (D i ∨ i = B) ∨ i = B + 1) (fun w' => (X w' ∧ Blk w' B z12 44) ∧ Blk w' (B + 1) (wv l).toArray 44)) := Lib.hid fun l => keeps_and hK1 (keeps_blk _ _ _)
  have HE := Lib.hid (fun (k : Nat) (hk : k < 4096) w' => equal_any (k : Int) at' ⟨by omega, by omega⟩ ha w')
  have HOK := Lib.hid hok
  have U := Try.underlying44
  clear h h1 h2 hK1 hok
  rw [hn] at hsz HA ⊢
  go_enter Try.func50, Try.ntmps50
  go_wp2_with fail
  try rw [hB]
  refine (one_size r HX0.out).mono ?_
  rw [Mm.noted_size, hn]
  rintro e w1 ⟨rfl, rfl⟩
  go_wp2_with fail
  go_loopw [12] (fun i wr => ∃ k : Nat, k ≤ n ∧ i = .int .i64 k ∧ Hid (OneX 108 w0 wr p (M.noted (readsL r k)) (fun i => (D i ∨ i = B) ∨ i = B + 1) (fun w' => (X w' ∧ Blk w' B z12 44) ∧ Blk w' (B + 1) (wv (M.getK r at' k)).toArray 44))) (fun i _ => n - (intOf i).toNat)
  case atStart => exact ⟨0, by omega, rfl, HX0⟩
  case round =>
    obtain ⟨k, hk, rfl, HX⟩ := hrel
    by_cases hlt : k < n
    · have hgk := Mm.getK_ok HOK.out r at' k
      have hgk1 := Mm.getK_ok HOK.out r at' (k + 1)
      have hrd := Mm.read_ok HOK.out r (k : Int)
      have HE2 := Lib.hid (HE.out k (by omega))
      have hwk : IntKind.u64.wrap (k : Int) = (k : Int) := Go.Sg.wrap_small (by omega) (by omega)
      have HP := Lib.hid (fun w' => pickCell_any (em (k : Int) at') (M.read r (k : Int)) (M.getK r at' k) (em_word _ _) hrd.1 hgk.1 hrd.2 hgk.2 w')
      rw [show List.zipWith (pk (em (k : Int) at')) (M.read r (k : Int)) (M.getK r at' k) = M.getK r at' (k + 1) from by
        unfold em
        rw [zip_mk _ _ _ (by rw [hrd.1, hgk.1]) hrd.2 hgk.2, ← Mm.getK_step]
        by_cases e : (k : Int) = at'
        · rw [if_pos e, decide_eq_true e]; rfl
        · rw [if_neg e, decide_eq_false e]; rfl] at HP
      have hlo := Mm.look_readsL (M := M) (r := r) (k := k) (by omega)
      have HR := Lib.hid (fun w' (h' : OneX 108 w0 w' p (M.noted (readsL r k)) (fun i => (D i ∨ i = B) ∨ i = B + 1) (fun w' => (X w' ∧ Blk w' B z12 44) ∧ Blk w' (B + 1) (wv (M.getK r at' k)).toArray 44)) => one_read (HK2.out _) r (k : Int) h' (by rw [Mm.noted_evs, List.length_append, readsL_len]; omega))
      rw [hlo, Mm.noted_read] at HR
      simp only [cw_eq] at HP HR
      have hs1 := info_c12 _ hgk.1
      have hs2 := info_c12 _ hgk1.1
      have ho1 := wv_one (M.getK r at' k)
      have ho2 := wv_one (M.getK r at' (k + 1))
      have hl1 : (wv (M.getK r at' k)).length = 12 := by rw [wv_len, hgk.1]
      have hl2 : (wv (M.getK r at' (k + 1))).length = 12 := by rw [wv_len, hgk1.1]
      have HST := Lib.hid (fun w' (h' : OneX 108 w0 w' p (M.noted (readsL r (k + 1))) (fun i => (D i ∨ i = B) ∨ i = B + 1) (fun w' => (X w' ∧ Blk w' B z12 44) ∧ Blk w' (B + 1) (wv (M.getK r at' k)).toArray 44)) => OneX.store HK1.out (fun i hi => by rcases hi with hi | hi; exact Nat.ne_of_lt (Nat.lt_succ_of_lt (HD.out i hi)); omega) h' (by omega) (wv (M.getK r at' (k + 1))) (by rw [List.size_toArray, hl1, hl2]))
      have HKK := Lib.hid (HK2.out (M.getK r at' k))
      generalize wv (M.getK r at' k) = ol at *
      generalize hnl : wv (M.getK r at' (k + 1)) = nl at *
      generalize wv (M.read r (k : Int)) = rl at *
      generalize em (k : Int) at' = mm at *
      clear hgk hgk1 hrd hlo
      have hX0 := HX.out.drew HKK.out
      have hr0 : wr.drew.rangeAt (B + 1) 0 ol := hX0.x.2.range
      have ht0 : wr.drew.there (B + 1) 0 12 := hX0.x.2.there 12 (by rw [List.size_toArray, hl1]; omega)
      go_wp2_with fail
      refine wp_region_held_drew (S := fun _ => True) (by kernel_rfl) trivial (fun hHeld => ?_)
      refine wpAnyH_take (i := 0) (oi := _) (v := ?_) rfl (by kernel_rfl) (by kernel_rfl) (by kernel_rfl) (fun _ _ _ h => h) (Or.inl ⟨by rfl, ?_⟩) (by assumption) ?_
      rotate_left
      · (intro wS hSw; (try dsimp only at hSw); go_simp; try with_reducible rfl)
      try simp only [Act.put, List.setIfInBounds_toArray, List.set_cons_zero, List.set_cons_succ]
      refine wpAnyH_take (i := 1) (oi := _) (v := ?_) rfl (by kernel_rfl) (by kernel_rfl) (by kernel_rfl) (fun _ _ _ h => h) (Or.inl ⟨by rfl, ?_⟩) (by assumption) ?_
      rotate_left
      · (intro wS hSw; (try dsimp only at hSw); go_simp; try with_reducible rfl)
      try simp only [Act.put, List.setIfInBounds_toArray, List.set_cons_zero, List.set_cons_succ]
      refine wpAnyH_take (i := 2) (oi := _) (v := ?_) rfl (by kernel_rfl) (by kernel_rfl) (by kernel_rfl) (fun _ _ _ h => h) (Or.inl ⟨by rfl, ?_⟩) (by assumption) ?_
      rotate_left
      · (intro wS hSw; (try dsimp only at hSw); go_simp; try with_reducible rfl)
      try simp only [Act.put, List.setIfInBounds_toArray, List.set_cons_zero, List.set_cons_succ]
      refine wpAnyH_take (i := 4) (oi := _) (v := ?_) rfl (by kernel_rfl) (by kernel_rfl) (by kernel_rfl) (fun _ _ _ h => h) (Or.inl ⟨by rfl, ?_⟩) (by assumption) ?_
      rotate_left
      · (intro wS hSw; (try dsimp only at hSw); go_simp; try with_reducible rfl)
      try simp only [Act.put, List.setIfInBounds_toArray, List.set_cons_zero, List.set_cons_succ]
      refine wpAnyH_take (i := 5) (oi := _) (v := ?_) rfl (by kernel_rfl) (by kernel_rfl) (by kernel_rfl) (fun _ _ _ h => h) (Or.inl ⟨by rfl, ?_⟩) (by assumption) ?_
      rotate_left
      · (intro wS hSw; (try dsimp only at hSw); go_simp; try with_reducible rfl)
      try simp only [Act.put, List.setIfInBounds_toArray, List.set_cons_zero, List.set_cons_succ]
      refine wpAnyH_take (i := 6) (oi := _) (v := ?_) rfl (by kernel_rfl) (by kernel_rfl) (by kernel_rfl) (fun _ _ _ h => h) (Or.inl ⟨by rfl, ?_⟩) (by assumption) ?_
      rotate_left
      · (intro wS hSw; (try dsimp only at hSw); go_simp; try with_reducible rfl)
      try simp only [Act.put, List.setIfInBounds_toArray, List.set_cons_zero, List.set_cons_succ]
      refine wpAnyH_ready (rs := [3, 8]) (by kernel_rfl) (by simp) ?_
      refine (AllReadyH.cons (o := _) rfl (fun K hK => ?_) (AllReadyH.cons (o := _) rfl (fun K hK => ?_) AllReadyH.nil))
      focus
        go_simp
        refine (HE2.out _).mono ?_
        rintro e wE ⟨rfl, rfl⟩
        refine hK.out _ _ trivial (fun hHeld => ?_)
        clear hK K
        try simp only [Act.put, List.setIfInBounds_toArray, List.set_cons_zero, List.set_cons_succ]
        refine wpAnyH_ready (rs := [7, 8]) (by kernel_rfl) (by simp) ?_
        refine (AllReadyH.cons (o := _) rfl (fun K hK => ?_) (AllReadyH.cons (o := _) rfl (fun K hK => ?_) AllReadyH.nil))
        focus
          go_simp
          refine (HR.out _ hX0).mono ?_
          rintro e wR ⟨rfl, hX1⟩
          refine hK.out _ _ trivial (fun hHeld => ?_)
          clear hK K
          try simp only [Act.put, List.setIfInBounds_toArray, List.set_cons_zero, List.set_cons_succ]
          refine wpAnyH_ready (rs := [8]) (by kernel_rfl) (by simp) ?_
          refine (AllReadyH.cons (o := _) rfl (fun K hK => ?_) AllReadyH.nil)
          rw [if_pos (by rfl)]
          refine wp_load_mid _ _ rfl (B + 1) 0 rfl _ _ hX1.x.2.range U rfl hs1 ?_
          refine hK.out _ _ trivial (fun hHeld => ?_)
          clear hK K
          try simp only [Act.put, List.setIfInBounds_toArray, List.set_cons_zero, List.set_cons_succ]
        rotate_left
        focus
          rw [if_pos (by rfl)]
          refine wp_load_mid _ _ rfl (B + 1) 0 rfl _ _ hr0 U rfl hs1 ?_
          refine hK.out _ _ trivial (fun hHeld => ?_)
          clear hK K
          try simp only [Act.put, List.setIfInBounds_toArray, List.set_cons_zero, List.set_cons_succ]
          refine wpAnyH_ready (rs := [7]) (by kernel_rfl) (by simp) ?_
          refine (AllReadyH.cons (o := _) rfl (fun K hK => ?_) AllReadyH.nil)
          go_simp
          refine (HR.out _ hX0).mono ?_
          rintro e wR ⟨rfl, hX1⟩
          refine hK.out _ _ trivial (fun hHeld => ?_)
          clear hK K
          try simp only [Act.put, List.setIfInBounds_toArray, List.set_cons_zero, List.set_cons_succ]
      rotate_left 2
      focus
        rw [if_pos (by rfl)]
        refine wp_load_mid _ _ rfl (B + 1) 0 rfl _ _ hr0 U rfl hs1 ?_
        refine hK.out _ _ trivial (fun hHeld => ?_)
        clear hK K
        try simp only [Act.put, List.setIfInBounds_toArray, List.set_cons_zero, List.set_cons_succ]
        refine wpAnyH_ready (rs := [3]) (by kernel_rfl) (by simp) ?_
        refine (AllReadyH.cons (o := _) rfl (fun K hK => ?_) AllReadyH.nil)
        go_simp
        refine (HE2.out _).mono ?_
        rintro e wE ⟨rfl, rfl⟩
        refine hK.out _ _ trivial (fun hHeld => ?_)
        clear hK K
        try simp only [Act.put, List.setIfInBounds_toArray, List.set_cons_zero, List.set_cons_succ]
        refine wpAnyH_ready (rs := [7]) (by kernel_rfl) (by simp) ?_
        refine (AllReadyH.cons (o := _) rfl (fun K hK => ?_) AllReadyH.nil)
        go_simp
        refine (HR.out _ hX0).mono ?_
        rintro e wR ⟨rfl, hX1⟩
        refine hK.out _ _ trivial (fun hHeld => ?_)
        clear hK K
        try simp only [Act.put, List.setIfInBounds_toArray, List.set_cons_zero, List.set_cons_succ]
      all_goals
        refine wpAnyH_ready (rs := [9]) (by kernel_rfl) (by simp) ?_
        refine (AllReadyH.cons (o := _) rfl (fun K hK => ?_) AllReadyH.nil)
        go_simp
        refine (HP.out _).mono ?_
        rintro e wP ⟨rfl, hbP⟩
        have hX2 := hX1.below HKK.out hbP
        refine hK.out _ _ trivial (fun hHeld => ?_)
        clear hK K
        try simp only [Act.put, List.setIfInBounds_toArray, List.set_cons_zero, List.set_cons_succ]
        refine wpAnyH_ready (rs := [10]) (by kernel_rfl) (by simp) ?_
        refine (AllReadyH.cons (o := _) rfl (fun K hK => ?_) AllReadyH.nil)
        rw [if_pos (by rfl)]
        refine wp_store_mid _ _ _ rfl (B + 1) 0 (nl.toArray) rfl rfl (hX2.x.2.there _ (by rw [List.size_toArray, List.size_toArray, hl1, hl2]; omega)) (by rw [List.size_toArray]; exact hs2) (all_oneCell_toArray ho2) ?_
        refine hK.out _ _ trivial (fun hHeld => ?_)
        clear hK K
        try simp only [Act.put, List.setIfInBounds_toArray, List.set_cons_zero, List.set_cons_succ]
        refine wpAnyH_done (by kernel_rfl) ?_ _
      all_goals
        have HX3 := Lib.hid (HST.out _ hX2)
        go_wp2
        go_roundw
        case rel => exact ⟨k + 1, by omega, by go_num, Lib.hid (by rw [hnl]; exact HX3.out)⟩
        case measure => simp [intOf]; omega
    · obtain rfl : k = n := by omega
      rw [HA.out] at HX
      have hrd := Mm.read_ok HOK.out r at'
      have hsz2 : (wv (M.read r at')).toArray.size = 12 := by rw [List.size_toArray, wv_len, hrd.1]
      have HI : Hid ((Try.prog.info? 44).map (·.size) = some (wv (M.read r at')).toArray.size) := Lib.hid (by rw [hsz2]; kernel_rfl)
      have HON := Lib.hid (all_oneCell_toArray (wv_one (M.read r at')))
      obtain ⟨rc, hrc⟩ : ∃ rc, rc = (wv (M.read r at')).toArray := ⟨_, rfl⟩
      rw [← hrc] at hsz2 HI HON HX
      have HRC := Lib.hid hrc
      clear hrd hrc
      go_wp2_with (first
        | (refine wpList_load_row rfl 44 (.tmp 7) rfl (B + 1) rfl 44 rc (0, 0) _ HX.out.x.2 Try.underlying44 rfl HI.out ?_)
        | (refine wpList_store_row rfl 44 (.tmp 6) (.tmp 26) rfl B rc rfl rfl 44 _ HX.out.x.1.2 HI.out (by rw [hsz2]; rfl) HON.out ?_))
      refine bodyPost_ret (results_cell_row rfl _ _ B 44 _ (0, 0) _ rfl (HX.out.x.1.2.setRow _) Try.underlying44 rfl HI.out) rfl ⟨by rw [HRC.out]; rfl, ?_⟩
      refine HX.out.turn (fun k hk => .inl (.inl hk)) (mframe_setRow (MFrame.refl _ _) ⟨.inl (.inr rfl), hw0⟩ _) ?_
      exact hK _ _ (by simp [World.setRow]) (fun i hi => setRow_other _ _ _ _ (Nat.ne_of_lt (HD.out i hi))) HX.out.x.1.1

set_option maxHeartbeats 4000000 in
set_option maxRecDepth 100000 in
theorem one_put (hK : Keeps D X) (r at' : Int) (ha : Word at') (c : List Int) (hc : c.length = 12) (hcw : ∀ x ∈ c, Word x) (b : Bool) (h : OneX 108 w0 w p M D X) (hN : M.evs.length ≤ 1099511600000) :
    Calls Try.prog 48 #[.pointer (some ⟨p, 0, none⟩), .int .i64 r, .int .u64 at', .agg (cw c), .int .u64 (mk b)] w fun e w' => e = .returned (.tuple #[]) ∧ OneX 108 w0 w' p ((M.putIf b r at' c (M.size r)).noted (writesL r (M.size r))) D X := by
  have hok := h.ok
  have hsz := Mm.size_le hok r
  have h1 := h.box hK (cw c) 44
  have HK1 := Lib.hid (keeps_and hK (keeps_blk w.heap.size (cw c) 44))
  obtain ⟨B, hB⟩ : ∃ B, w.heap.size = B := ⟨_, rfl⟩
  rw [hB] at h1 HK1
  obtain ⟨n, hn⟩ : ∃ n, M.size r = n := ⟨_, rfl⟩
  have HX0 : Hid (OneX 108 w0 (w.alloc (.cells (cw c) 44)) p ((M.putIf b r at' c 0).noted (writesL r 0)) (fun i => D i ∨ i = B) (fun w' => X w' ∧ Blk w' B (cw c) 44)) := Lib.hid (by
    rw [Mm.putIf_zero _ _ _ _ _ ha.1]
    have e1 : M.noted (writesL r 0) = M := by simp [writesL, Mm.noted]
    rw [e1]
    exact h1)
  have HE := Lib.hid (fun (k : Nat) (hk : k < 4096) w' => equal_any (k : Int) at' ⟨by omega, by omega⟩ ha w')
  have HOK := Lib.hid hok
  have U := Try.underlying44
  clear h h1 hok
  rw [hn] at hsz ⊢
  go_enter Try.func48, Try.ntmps48
  go_wp2_with fail
  try rw [hB]
  refine (one_size r HX0.out).mono ?_
  rw [Mm.noted_size, Mm.putIf_size, hn]
  rintro e w1 ⟨rfl, rfl⟩
  go_wp2_with fail
  go_loopw [15] (fun i wr => ∃ k : Nat, k ≤ n ∧ i = .int .i64 k ∧ Hid (OneX 108 w0 wr p ((M.putIf b r at' c k).noted (writesL r k)) (fun i => D i ∨ i = B) (fun w' => X w' ∧ Blk w' B (cw c) 44))) (fun i _ => n - (intOf i).toNat)
  case atStart => exact ⟨0, by omega, rfl, HX0⟩
  case round =>
    obtain ⟨k, hk, rfl, HX⟩ := hrel
    by_cases hlt : k < n
    · have hrd := Mm.read_ok HOK.out r (k : Int)
      have hme : bits .and .u64 (em (k : Int) at') (mk b) = mk (decide ((k : Int) = at') && b) := by
        rw [bits_an (em_word _ _) (mk_word _)]
        exact an_mk_mk _ _
      have HP := Lib.hid (fun w' => pickCell_any (mk (decide ((k : Int) = at') && b)) c (M.read r (k : Int)) (mk_word _) hc hrd.1 hcw hrd.2 w')
      have hzz : List.zipWith (pk (mk (decide ((k : Int) = at') && b))) c (M.read r (k : Int)) = if b = true ∧ (k : Int) = at' then c else M.read r (k : Int) := by
        rw [zip_mk _ _ _ (by rw [hc, hrd.1]) hcw hrd.2]
        by_cases e : (k : Int) = at'
        · rw [decide_eq_true e]
          cases b <;> simp [e]
        · rw [decide_eq_false e]
          simp [e]
      have hnw : (if b = true ∧ (k : Int) = at' then c else M.read r (k : Int)).length = 12 ∧ ∀ x ∈ (if b = true ∧ (k : Int) = at' then c else M.read r (k : Int)), Word x := by
        split
        · exact ⟨hc, hcw⟩
        · exact hrd
      have hstep := Mm.putIf_step (M := M) (r := r) (at' := at') (b := b) (c := c) (k := k) ha.1 (by omega) (writesL r k)
      rw [← writesL_succ] at hstep
      have hrk : ((M.putIf b r at' c k).noted (writesL r k)).read r (k : Int) = M.read r (k : Int) := by
        rw [Mm.noted_read, Mm.putIf_read b c ha.1 (by omega), if_neg (by rintro ⟨_, h1, _, h2⟩; omega)]
      have hev : ((M.putIf b r at' c k).noted (writesL r k)).evs.length ≤ 1099511627000 := by
        rw [Mm.noted_evs, Mm.putIf_evs, List.length_append, writesL_len]
        omega
      have hev2 := look_evs_le ((M.putIf b r at' c k).noted (writesL r k)) r (k : Int) false
      have HE2 := Lib.hid (HE.out k (by omega))
      have hwk : IntKind.u64.wrap (k : Int) = (k : Int) := Go.Sg.wrap_small (by omega) (by omega)
      have HR := Lib.hid (fun w' (h' : OneX 108 w0 w' p ((M.putIf b r at' c k).noted (writesL r k)) (fun i => D i ∨ i = B) (fun w' => X w' ∧ Blk w' B (cw c) 44)) => one_read HK1.out r (k : Int) h' (by omega))
      have HWR := Lib.hid (fun w' (h' : OneX 108 w0 w' p (((M.putIf b r at' c k).noted (writesL r k)).look r (k : Int) false) (fun i => D i ∨ i = B) (fun w' => X w' ∧ Blk w' B (cw c) 44)) => one_write HK1.out r (k : Int) _ hnw.1 hnw.2 h' (by omega))
      rw [hrk] at HR
      rw [hstep] at HWR
      rw [hzz] at HP
      have hs1 := info_c12 c hc
      have HRG : Hid (∀ w' N, OneX 108 w0 w' p N (fun i => D i ∨ i = B) (fun w' => X w' ∧ Blk w' B (cw c) 44) → w'.rangeAt B 0 (wv c)) := Lib.hid fun w' N h => h.x.2.range
      simp only [cw_eq] at HP HR HWR HX HK1 HRG
      generalize wv (if b = true ∧ (k : Int) = at' then c else M.read r (k : Int)) = nl at *
      generalize wv (M.read r (k : Int)) = rl at *
      generalize em (k : Int) at' = mm at *
      clear hrd hzz hnw hstep hrk hev hev2
      have HME := Lib.hid hme
      clear hme
      go_wp2_with fail
      refine (HE2.out _).mono ?_
      rintro e wE ⟨rfl, rfl⟩
      go_upto_region 5 with fail
      rw [HME.out]
      generalize mk (decide ((k : Int) = at') && b) = m2 at *
      generalize hcl : wv c = cl at *
      have hX0 := HX.out.drew HK1.out
      have hr0 := HRG.out _ _ hX0
      go_region_held3 (fun w' => w'.rangeAt B 0 cl) (first | assumption | exact HRG.out _ _ (by assumption)) (first
        | (go_at_call 35; refine (HR.out _ hX0).mono ?_; rintro e wR ⟨rfl, hX1⟩)
        | (go_at_call 86; refine (HP.out _).mono ?_; rintro e wP ⟨rfl, hbP⟩; have hX2 := hX1.below HK1.out hbP)
        | (go_at_call 33; refine (HWR.out _ hX2).mono ?_; rintro e wW ⟨rfl, hX3⟩))
      all_goals
        have HX3 := Lib.hid hX3
        clear hX0 hX1 hX2 hX3 hr0
        go_wp2
        go_roundw
        case rel => exact ⟨k + 1, by omega, by go_num, Lib.hid (by rw [cw_eq, hcl]; exact HX3.out)⟩
        case measure => simp [intOf]; omega
    · obtain rfl : k = n := by omega
      go_wp2
      go_end0
      exact ⟨rfl, HX.out.less (fun k hk => .inl hk) (fun h => h.1)⟩
end Go.Proofs.Ytngpaibppdehdaa
