/-
  The walks of shellgameref7: Count, Find.
-/
import Derived.Test.YtngpaibppdehdaaRef7
namespace Go.Sg
open Go Go.RowKit
theorem keyB_out {c : List Int} {key n : Int} (h : key < 0 ∨ 12 ≤ key) : keyB c key n = false := by
  unfold keyB
  rcases h with h | h
  · rw [decide_eq_false (by omega)]; rfl
  · rw [decide_eq_false (show ¬ key < 12 by omega)]; simp
theorem keyB_in {c : List Int} (hc : c.length = 12) (n : Int) (i : Nat) (hi : i < 12) : ∃ x, (cw c)[i]? = some (.int .u64 x) ∧ keyB c (i : Int) n = (x == n) := by
  refine ⟨c[i], cw_get (by omega), ?_⟩
  unfold keyB
  rw [decide_eq_true (by omega), decide_eq_true (by omega)]
  simp [hc, hi]
  by_cases h : c[i] = n <;> simp [h]
end Go.Sg
namespace Go.Proofs.Ytngpaibppdehdaa
open Go Go.RowKit Go.Sg
variable {w0 w : World} {p : Nat} {M : Mm} {D : Nat → Prop} {X : World → Prop}

set_option maxHeartbeats 4000000 in
set_option maxRecDepth 100000 in
theorem one_rcount (hK : Keeps D X) (r key nn : Int) (h : OneX 60 w0 w p M D X) (hN : M.evs.length ≤ 1099511600000) :
    Calls Try.prog 67 #[.pointer (some ⟨p, 0, none⟩), .int .i64 r, .int .i64 key, .int .u64 nn] w fun e w' => e = .returned (.int .i64 (cntI' (keyAt M r key nn) (M.size r) : Int)) ∧ OneX 60 w0 w' p (M.noted (readsL r (M.size r))) D X := by
  have hok := h.ok
  have hsz := Mm.size_le hok r
  obtain ⟨n, hnn⟩ : ∃ n, M.size r = n := ⟨_, rfl⟩
  have HX0 : Hid (OneX 60 w0 w p (M.noted (readsL r 0)) D X) := Lib.hid (by
    rw [show M.noted (readsL r 0) = M by simp [readsL, Mm.noted]]
    exact h)
  have HOK := Lib.hid hok
  have HK := Lib.hid hK
  clear h hok hK
  rw [hnn] at hsz ⊢
  go_enter Try.func67, Try.ntmps67
  go_wp2_with fail
  go_loopw [9, 10] (fun m i wr => ∃ k : Nat, k ≤ n ∧ i = .int .i64 k ∧ m = .int .i64 (cntI' (keyAt M r key nn) k : Int) ∧ Hid (OneX 60 w0 wr p (M.noted (readsL r k)) D X)) (fun _ i _ => n - (intOf i).toNat)
  case atStart => exact ⟨0, by omega, rfl, rfl, HX0⟩
  case round =>
    obtain ⟨k, hkn, rfl, rfl, HX⟩ := hrel
    have hcl := cntI'_le (keyAt M r key nn) k
    have HSZ := Lib.hid (one_rsize r HX.out)
    rw [Mm.noted_size, hnn] at HSZ
    by_cases hlt : k < n
    · have hrd := Mm.read_ok HOK.out r (k : Int)
      have hlo := Mm.look_readsL (M := M) (r := r) (k := k) (by omega)
      have HR := Lib.hid (one_rread HK.out r (k : Int) HX.out (by rw [Mm.noted_evs, List.length_append, readsL_len]; omega))
      rw [hlo, Mm.noted_read] at HR
      have HST : Hid (cntI' (keyAt M r key nn) (k + 1) = cntI' (keyAt M r key nn) k + (if keyB (M.read r (k : Int)) key nn then 1 else 0)) := Lib.hid rfl
      have HOUT := Lib.hid (keyB_out (c := M.read r (k : Int)) (key := key) (n := nn))
      have HIN := Lib.hid (keyB_in hrd.1 nn)
      have hz1 : (cw (M.read r (k : Int))).size = 12 := by rw [cw_size, hrd.1]
      have HI1 : Hid ((Try.prog.info? 44).map (·.size) = some (cw (M.read r (k : Int))).size) := Lib.hid (by rw [hz1]; kernel_rfl)
      have HO1 : Hid ((cw (M.read r (k : Int))).all (·.oneCell') = true) := Lib.hid (cw_one _)
      generalize cntI' (keyAt M r key nn) k = ck at *
      clear hrd hlo
      generalize M.read r (k : Int) = rl at *
      generalize hrc : cw rl = rc at *
      go_wp2_with fail
      refine HSZ.out.mono ?_
      rintro e wS ⟨rfl, rfl⟩
      go_wp2_with fail
      refine HR.out.mono ?_
      rintro e wR ⟨rfl, hX1⟩
      have hX2 := hX1.fill HK.out z12 rc 44
      have hbx := hX1.box HK.out z12 44
      obtain ⟨Bc, hBc⟩ : ∃ b, wR.heap.size = b := ⟨_, rfl⟩
      rw [hBc] at hX2 hbx
      have HBX := Lib.hid hbx
      have HX2 := Lib.hid hX2
      clear hX1 hX2 hbx
      go_upto_region 6 with (first
        | (refine wpList_store_row rfl 44 (.tmp 11) (.tmp 22) rfl Bc rc rfl rfl 44 _ HBX.out.x.2 HI1.out (by rw [hz1]; rfl) HO1.out ?_)
        | fail)
      refine at_world (fun w' => OneX 60 w0 w' p (M.noted (readsL r (k + 1))) (fun i => D i ∨ i = Bc) (fun w' => X w' ∧ Blk w' Bc rc 44)) HX2.out ?_
      intro w3 h3
      have HX3 := Lib.hid h3
      have HX4 := Lib.hid (h3.less (E := D) (Y := X) (fun _ h => .inl h) (fun h => h.1))
      clear h3 HX2 HBX hBc
      by_cases h0 : key < 0
      · have d0 : decide (0 ≤ key) = false := decide_eq_false (by omega)
        rw [HOUT.out (.inl h0)] at HST
        clear h0 HIN
        go_wp2
        go_roundw
        case rel => exact ⟨k + 1, by omega, by go_num, by rw [HST.out]; rfl, HX4⟩
        case measure => simp [intOf]; omega
      by_cases h1 : 12 ≤ key
      · have d0 : decide (0 ≤ key) = true := decide_eq_true (by omega)
        have d1 : decide (key < 12) = false := decide_eq_false (by omega)
        rw [HOUT.out (.inr h1)] at HST
        clear h0 h1 HIN
        go_wp2
        go_roundw
        case rel => exact ⟨k + 1, by omega, by go_num, by rw [HST.out]; rfl, HX4⟩
        case measure => simp [intOf]; omega
      obtain ⟨i, rfl⟩ : ∃ i : Nat, key = i := ⟨key.toNat, by omega⟩
      have hi12 : i < 12 := by omega
      obtain ⟨x, hx1, hx2⟩ := HIN.out i hi12
      have c1 : w3.cell? ⟨Bc, i, none⟩ = some (.int .u64 x) := by rw [HX3.out.x.2.cell]; exact hx1
      have d0 : decide (0 ≤ (i : Int)) = true := decide_eq_true (by omega)
      have d1 : decide ((i : Int) < 12) = true := decide_eq_true (by omega)
      rw [hx2] at HST
      clear h0 h1 hx1 hx2 HIN HOUT
      cases hxx : (x == nn)
      · rw [hxx] at HST
        go_wp2
        go_roundw
        case rel => exact ⟨k + 1, by omega, by go_num, by rw [HST.out]; rfl, HX4⟩
        case measure => simp [intOf]; omega
      · rw [hxx] at HST
        go_wp2
        go_roundw
        case rel => exact ⟨k + 1, by omega, by go_num, by rw [HST.out]; rfl, HX4⟩
        case measure => simp [intOf]; omega
    · obtain rfl : k = n := by omega
      go_wp2_with fail
      refine HSZ.out.mono ?_
      rintro e wS ⟨rfl, rfl⟩
      go_wp2
      go_ret
      exact ⟨rfl, HX.out⟩

set_option maxHeartbeats 4000000 in
set_option maxRecDepth 100000 in
theorem one_rfind (hK : Keeps D X) (r key nn : Int) (h : OneX 60 w0 w p M D X) (hN : M.evs.length ≤ 1099511600000) :
    Calls Try.prog 66 #[.pointer (some ⟨p, 0, none⟩), .int .i64 r, .int .i64 key, .int .u64 nn] w fun e w' => e = .returned (.tuple #[.int .u64 (placeK M r key nn (M.size r) : Int), .agg (cw (outK M r key nn (M.size r))), .int .u64 (mk (foundK M r key nn (M.size r)))]) ∧ OneX 60 w0 w' p (M.noted (readsL r (M.size r))) D X := by
  have hok := h.ok
  have hsz := Mm.size_le hok r
  have hD := h.dlt
  have hw0 := h.old.size
  have h1 := h.box hK z12 44
  have hK1 := keeps_and hK (keeps_blk w.heap.size z12 44)
  have h2 := h1.box hK1 z12 44
  rw [World.size_alloc] at h2
  obtain ⟨B, hB⟩ : ∃ B, w.heap.size = B := ⟨_, rfl⟩
  rw [hB] at h2 hK1 hD hw0
  have HD := Lib.hid hD
  have HK1 := Lib.hid hK1
  obtain ⟨n, hnn⟩ : ∃ n, M.size r = n := ⟨_, rfl⟩
  have HX0 : Hid (OneX 60 w0 ((w.alloc (.cells z12 44)).alloc (.cells z12 44)) p (M.noted (readsL r 0)) (fun i => (D i ∨ i = B) ∨ i = B + 1) (fun w' => (X w' ∧ Blk w' B z12 44) ∧ Blk w' (B + 1) (cw (outK M r key nn 0)) 44)) := Lib.hid (by
    rw [show M.noted (readsL r 0) = M by simp [readsL, Mm.noted]]
    exact h2)
  have HK2 : Hid (∀ l : List Int, Keeps (fun i => (D i ∨ i = B) ∨ i = B + 1) (fun w' => (X w' ∧ Blk w' B z12 44) ∧ Blk w' (B + 1) (cw l) 44)) := Lib.hid fun l => keeps_and hK1 (keeps_blk _ _ _)
  have HOK := Lib.hid hok
  clear h h1 h2 hK1 hok
  rw [hnn] at hsz ⊢
  go_enter Try.func66, Try.ntmps66
  go_wp2_with fail
  go_loopw [11, 12, 14] (fun pl fo i wr => ∃ k : Nat, k ≤ n ∧ i = .int .i64 k ∧ pl = .int .u64 (placeK M r key nn k : Int) ∧ fo = .int .u64 (mk (foundK M r key nn k)) ∧ Hid (OneX 60 w0 wr p (M.noted (readsL r k)) (fun i => (D i ∨ i = B) ∨ i = B + 1) (fun w' => (X w' ∧ Blk w' B z12 44) ∧ Blk w' (B + 1) (cw (outK M r key nn k)) 44))) (fun _ _ i _ => n - (intOf i).toNat)
  case atStart => exact ⟨0, by omega, rfl, rfl, rfl, HX0⟩
  case round =>
    obtain ⟨k, hkn, rfl, rfl, rfl, HX⟩ := hrel
    have hpl := placeK_le M r key nn k
    have HSZ := Lib.hid (one_rsize r HX.out)
    rw [Mm.noted_size, hnn] at HSZ
    by_cases hlt : k < n
    · have hrd := Mm.read_ok HOK.out r (k : Int)
      have hou := outK_ok HOK.out r key nn k
      have hlo := Mm.look_readsL (M := M) (r := r) (k := k) (by omega)
      have HR := Lib.hid (one_rread (HK2.out _) r (k : Int) HX.out (by rw [Mm.noted_evs, List.length_append, readsL_len]; omega))
      rw [hlo, Mm.noted_read] at HR
      have HST := Lib.hid (find_step M r key nn k)
      have HOUT := Lib.hid (keyB_out (c := M.read r (k : Int)) (key := key) (n := nn))
      have HIN := Lib.hid (keyB_in hrd.1 nn)
      have hz1 : (cw (M.read r (k : Int))).size = 12 := by rw [cw_size, hrd.1]
      have hz2 : (cw (outK M r key nn k)).size = 12 := by rw [cw_size, hou.1]
      have HI1 : Hid ((Try.prog.info? 44).map (·.size) = some (cw (M.read r (k : Int))).size) := Lib.hid (by rw [hz1]; kernel_rfl)
      have HO1 : Hid ((cw (M.read r (k : Int))).all (·.oneCell') = true) := Lib.hid (cw_one _)
      have HKr := Lib.hid (HK2.out (outK M r key nn k))
      have hwk : IntKind.u64.wrap (k : Int) = (k : Int) := Go.Sg.wrap_small (by omega) (by omega)
      rw [show keyAt M r key nn k = keyB (M.read r (k : Int)) key nn from rfl] at HST
      clear hrd hou hlo
      generalize M.read r (k : Int) = rl at *
      generalize hrc : cw rl = rc at *
      go_wp2_with fail
      refine HSZ.out.mono ?_
      rintro e wS ⟨rfl, rfl⟩
      go_wp2_with fail
      refine HR.out.mono ?_
      rintro e wR ⟨rfl, hX1⟩
      have hX2 := hX1.fill HKr.out z12 rc 44
      have hbx := hX1.box HKr.out z12 44
      obtain ⟨Bc, hBc⟩ : ∃ b, wR.heap.size = b := ⟨_, rfl⟩
      rw [hBc] at hX2 hbx
      have HBX := Lib.hid hbx
      have HX2 := Lib.hid hX2
      clear hX1 hX2 hbx
      go_upto_region 8 with (first
        | (refine wpList_store_row rfl 44 (.tmp 15) (.tmp 26) rfl Bc rc rfl rfl 44 _ HBX.out.x.2 HI1.out (by rw [hz1]; rfl) HO1.out ?_)
        | fail)
      refine at_world (fun w' => OneX 60 w0 w' p (M.noted (readsL r (k + 1))) (fun i => ((D i ∨ i = B) ∨ i = B + 1) ∨ i = Bc) (fun w' => ((X w' ∧ Blk w' B z12 44) ∧ Blk w' (B + 1) (cw (outK M r key nn k)) 44) ∧ Blk w' Bc rc 44)) HX2.out ?_
      intro w3 h3
      have HX3 := Lib.hid h3
      have HX4 := Lib.hid (h3.less (E := fun i => (D i ∨ i = B) ∨ i = B + 1) (Y := fun w' => (X w' ∧ Blk w' B z12 44) ∧ Blk w' (B + 1) (cw (outK M r key nn k)) 44) (fun _ h => .inl h) (fun h => h.1))
      clear h3 HX2 HBX hBc
      have HNO : Hid (keyB rl key nn = false ∨ foundK M r key nn k = true → outK M r key nn (k + 1) = outK M r key nn k ∧ placeK M r key nn (k + 1) = placeK M r key nn k ∧ foundK M r key nn (k + 1) = foundK M r key nn k) := Lib.hid fun h => by
        have e1 : (keyB rl key nn && !foundK M r key nn k) = false := by rcases h with h | h <;> simp [h]
        have := HST.out
        rw [e1] at this
        simpa using this
      have HYES : Hid (keyB rl key nn = true → foundK M r key nn k = false → outK M r key nn (k + 1) = rl ∧ placeK M r key nn (k + 1) = k ∧ foundK M r key nn (k + 1) = true) := Lib.hid fun h h2 => by
        have e1 : (keyB rl key nn && !foundK M r key nn k) = true := by simp [h, h2]
        have := HST.out
        rw [e1] at this
        simpa using this
      clear HST
      by_cases h0 : key < 0
      · have d0 : decide (0 ≤ key) = false := decide_eq_false (by omega)
        have HN := Lib.hid (HNO.out (.inl (HOUT.out (.inl h0))))
        clear h0 HIN HYES
        go_wp2
        go_roundw
        case rel => exact ⟨k + 1, by omega, by go_num, by rw [HN.out.2.1], by rw [HN.out.2.2], by rw [HN.out.1]; exact HX4⟩
        case measure => simp [intOf]; omega
      by_cases h1 : 12 ≤ key
      · have d0 : decide (0 ≤ key) = true := decide_eq_true (by omega)
        have d1 : decide (key < 12) = false := decide_eq_false (by omega)
        have HN := Lib.hid (HNO.out (.inl (HOUT.out (.inr h1))))
        clear h0 h1 HIN HYES
        go_wp2
        go_roundw
        case rel => exact ⟨k + 1, by omega, by go_num, by rw [HN.out.2.1], by rw [HN.out.2.2], by rw [HN.out.1]; exact HX4⟩
        case measure => simp [intOf]; omega
      have d0 : decide (0 ≤ key) = true := decide_eq_true (by omega)
      have d1 : decide (key < 12) = true := decide_eq_true (by omega)
      by_cases hf : foundK M r key nn k = true
      · have HN := Lib.hid (HNO.out (.inr hf))
        have d2 : (mk (foundK M r key nn k) == 0) = false := by rw [hf]; decide
        clear h0 h1 HIN HYES hf
        go_wp2
        go_roundw
        case rel => exact ⟨k + 1, by omega, by go_num, by rw [HN.out.2.1], by rw [HN.out.2.2], by rw [HN.out.1]; exact HX4⟩
        case measure => simp [intOf]; omega
      have hf' : foundK M r key nn k = false := by simpa using hf
      have d2 : (mk (foundK M r key nn k) == 0) = true := by rw [hf']; decide
      obtain ⟨i, rfl⟩ : ∃ i : Nat, key = i := ⟨key.toNat, by omega⟩
      have hi12 : i < 12 := by omega
      obtain ⟨x, hx1, hx2⟩ := HIN.out i hi12
      have c1 : w3.cell? ⟨Bc, i, none⟩ = some (.int .u64 x) := by rw [HX3.out.x.2.cell]; exact hx1
      clear h0 h1 hx1 HIN HOUT
      cases hxx : (x == nn)
      · have HN := Lib.hid (HNO.out (.inl (hx2.trans hxx)))
        clear hx2 HYES HNO hf hf'
        go_wp2
        go_roundw
        case rel => exact ⟨k + 1, by omega, by go_num, by rw [HN.out.2.1], by rw [HN.out.2.2], by rw [HN.out.1]; exact HX4⟩
        case measure => simp [intOf]; omega
      · have HN := Lib.hid (HYES.out (hx2.trans hxx) hf')
        clear hx2 HYES HNO hf hf'
        go_wp2_with (first
          | (refine wpList_load_row rfl 44 (.tmp 15) rfl Bc rfl 44 rc (0, 0) _ HX3.out.x.2 Try.underlying44 rfl HI1.out ?_)
          | (refine wpList_store_row rfl 44 (.tmp 13) (.tmp 46) rfl (B + 1) rc rfl rfl 44 _ HX3.out.x.1.2 HI1.out (by rw [hz1, hz2]) HO1.out ?_)
          | fail)
        go_roundw
        case rel =>
          refine ⟨k + 1, by omega, by go_num, by rw [HN.out.2.1], by rw [HN.out.2.2]; rfl, Lib.hid ?_⟩
          rw [HN.out.1, hrc]
          refine HX3.out.turn (fun _ h => .inl h) (mframe_setRow (MFrame.refl _ _) ⟨.inl (.inr rfl), by omega⟩ _) ⟨?_, HX3.out.x.1.2.setRow _⟩
          exact HK1.out _ _ (by simp [World.setRow]) (fun i hi => setRow_other _ _ _ _ (by rcases hi with hi | hi; have := HD.out i hi; omega; omega)) HX3.out.x.1.1
        case measure => simp [intOf]; omega
    · obtain rfl : k = n := by omega
      have hou := outK_ok HOK.out r key nn k
      have hi2 := info_c12 _ hou.1
      have hl : (wv (outK M r key nn k)).length = 12 := by rw [wv_len, hou.1]
      have ho := wv_one (outK M r key nn k)
      have U := Try.underlying44
      rw [cw_eq] at HX
      obtain ⟨ol, hol⟩ : ∃ ol, ol = wv (outK M r key nn k) := ⟨_, rfl⟩
      have HOL : Hid (cw (outK M r key nn k) = ol.toArray) := Lib.hid (by rw [hol]; rfl)
      have hKo : Keeps (fun i => (D i ∨ i = B) ∨ i = B + 1) (fun w' => (X w' ∧ Blk w' B z12 44) ∧ Blk w' (B + 1) (wv (outK M r key nn k)).toArray 44) := HK2.out _
      rw [← hol] at HX hi2 hl ho hKo
      clear hol hou
      have hX0 := HX.out.drew hKo
      have hr0 : wr.drew.rangeAt (B + 1) 0 ol := hX0.x.2.range
      have ht0 : wr.drew.there B 0 12 := hX0.x.1.2.there 12 (by rw [show z12.size = 12 from rfl]; omega)
      have hr1 : (wr.drew.setCells B 0 ol).rangeAt (B + 1) 0 ol := fun j u hu => (cell_of_heap (heap_setCells_ne ol 0 wr.drew (B + 1) (by omega))).trans (hr0 j u hu)
      have ht1 := World.there_setCells ht0 B 0 ol
      have HX0' := Lib.hid hX0
      clear hX0 HX hKo
      go_wp2_with fail
      refine HSZ.out.mono ?_
      rintro e wS ⟨rfl, rfl⟩
      go_upto_region 12 with fail
      go_region_held3 (fun w' => w'.rangeAt (B + 1) 0 ol ∧ w'.there B 0 12) (first | with_reducible exact ⟨hr0, ht0⟩ | with_reducible exact ⟨hr1, ht1⟩) (first | fail)
      all_goals
        go_wp2
        refine bodyPost_ret (results_mid_row rfl _ _ B ol _ rfl (World.rangeAt_setCells_same _ _ _ _ (by rw [hl]; exact ht0)) Try.underlying44 rfl hi2) rfl ⟨by rw [HOL.out]; rfl, ?_⟩
        refine HX0'.out.turn (fun k hk => .inl (.inl hk)) ((MFrame.refl _ _).setCells ol 0 (.inl ⟨.inl (.inr rfl), hw0⟩)) ?_
        exact hK _ _ (by rw [size_setCells]; exact Nat.le_refl _) (fun i hi => heap_setCells_ne _ _ _ _ (Nat.ne_of_lt (HD.out i hi))) HX0'.out.x.1.1
end Go.Proofs.Ytngpaibppdehdaa
