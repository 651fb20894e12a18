/-
  The walks of scan.match, Find, Count.
-/
import Derived.Test.YtngpaibppdehdaaScan
namespace Go.Sg
open Go Go.RowKit
/-- has a cell a word? -/
def keyB (c : List Int) (key n : Int) : Bool := decide (0 ≤ key) && decide (key < 12) && decide (c[key.toNat]? = some n)
def keyAt (M : Mm) (r key n : Int) (i : Nat) : Bool := keyB (M.read r (i : Int)) key n
/-- what a Find has found, k cells having been looked at -/
def outK (M : Mm) (r key n : Int) (k : Nat) : List Int := match firstI (keyAt M r key n) k with
  | some i => M.read r (i : Int)
  | none => zeros
def placeK (M : Mm) (r key n : Int) (k : Nat) : Nat := (firstI (keyAt M r key n) k).getD 0
def foundK (M : Mm) (r key n : Int) (k : Nat) : Bool := (firstI (keyAt M r key n) k).isSome
theorem andNot_mk (a b : Bool) : bits .andNot .u64 (mk a) (mk b) = mk (a && !b) := by cases a <;> cases b <;> decide
theorem or_mk (a b : Bool) : bits .or .u64 (mk a) (mk b) = mk (a || b) := by cases a <;> cases b <;> decide
theorem and_mk1 (a : Bool) : bits .and .u64 (mk a) 1 = b01 a := by cases a <;> decide
theorem outK_ok {M : Mm} (h : M.ok) (r key n : Int) (k : Nat) : (outK M r key n k).length = 12 ∧ ∀ x ∈ outK M r key n k, Word x := by
  unfold outK
  cases firstI (keyAt M r key n) k with
  | some i => exact Mm.read_ok h r i
  | none => exact ⟨rfl, fun x hx => by simp [zeros] at hx; subst hx; exact ⟨by omega, by omega⟩⟩
theorem find_step (M : Mm) (r key n : Int) (k : Nat) :
    (outK M r key n (k + 1) = if (keyAt M r key n k && !foundK M r key n k) then M.read r (k : Int) else outK M r key n k) ∧
    (placeK M r key n (k + 1) = if (keyAt M r key n k && !foundK M r key n k) then k else placeK M r key n k) ∧
    (foundK M r key n (k + 1) = (foundK M r key n k || (keyAt M r key n k && !foundK M r key n k))) := by
  unfold outK placeK foundK
  simp only [firstI]
  cases h : firstI (keyAt M r key n) k with
  | some i => simp
  | none => cases hp : keyAt M r key n k <;> simp
theorem placeK_le (M : Mm) (r key n : Int) (k : Nat) : placeK M r key n k ≤ k := by
  unfold placeK
  cases h : firstI (keyAt M r key n) k with
  | some i => have := (firstI_some h).1; simp; omega
  | none => simp
/-- Three results, the second one in memory, a row. -/
theorem results_mid_row {P : Program} {fn : Func} {s t u : Tmp} {ty : TypeId} (h : fn.results = #[.tmp s, .cell t ty, .tmp u]) (tmps : Array Value) (w : World) (g : Nat) (q : List Value) (d : TypeDesc)
    (ht : tmps.getD t undef = .pointer (some ⟨g, 0, none⟩)) (hg : w.rangeAt g 0 q)
    (hu : P.underlying ty = some d) (hd : d.isRow = true) (hq : (P.info? ty).map (·.size) = some q.length) :
    (results fn tmps).run P w = .ok (.tuple #[tmps.getD s undef, .agg q.toArray, tmps.getD u undef]) w := by
  have ht' : tmps[t]?.getD undef = .pointer (some ⟨g, 0, none⟩) := by simpa using ht
  simp [results, h, ht', asAddr, run_loadVar_mid w g 0 ty q d hg hu hd hq]
end Go.Sg
namespace Go.Proofs.Ytngpaibppdehdaa
open Go Go.RowKit Go.Sg
variable {w0 w : World} {p : Nat} {M : Mm} {D : Nat → Prop} {X : World → Prop}

theorem match_any (c : List Int) (hc : c.length = 12) (hcw : ∀ x ∈ c, Word x) (key n : Int) (hk : Num key) (hn : Word n) (w : World) :
    Calls Try.prog 87 #[.agg (cw c), .int .i64 key, .int .u64 n] w fun e w' => e = .returned (.int .u64 (mk (keyB c key n))) ∧ Below w.heap.size w w' := by
  have HB := Lib.hid ((Below.refl w.heap.size w).alloc (Nat.le_refl _) (.cells (cw c) 44))
  by_cases h0 : key < 0
  · have d0 : decide (key < 0) = true := decide_eq_true h0
    have HR := Lib.hid (show keyB c key n = false by simp [keyB]; omega)
    go_enter Try.func87, Try.ntmps87
    go_wp2
    go_ret
    exact ⟨by rw [HR.out]; rfl, HB.out⟩
  by_cases h1 : 12 ≤ key
  · have d0 : decide (key < 0) = false := decide_eq_false h0
    have d1 : decide (12 ≤ key) = true := decide_eq_true h1
    have HR := Lib.hid (show keyB c key n = false by simp [keyB]; omega)
    go_enter Try.func87, Try.ntmps87
    go_wp2
    go_ret
    exact ⟨by rw [HR.out]; rfl, HB.out⟩
  have d0 : decide (key < 0) = false := decide_eq_false h0
  have d1 : decide (12 ≤ key) = false := decide_eq_false h1
  obtain ⟨i, rfl⟩ : ∃ i : Nat, key = i := ⟨key.toNat, by omega⟩
  have hi : i < c.length := by omega
  have hi12 : i < 12 := by omega
  have cc : (w.alloc (.cells (cw c) 44)).cell? ⟨w.heap.size, i, none⟩ = some (.int .u64 c[i]) := by rw [(Blk.new w (cw c) 44).cell, cw_get hi]
  have HE := Lib.hid (fun w' => equal_any c[i] n (hcw _ (List.getElem_mem hi)) hn w')
  have HR : Hid (em c[i] n = mk (keyB c (i : Int) n)) := Lib.hid (by
    unfold em keyB
    congr 1
    simp [hi, show (i : Int) < 12 by omega])
  generalize c[i] = x at *
  clear hi
  go_enter Try.func87, Try.ntmps87
  go_wp2_with fail
  refine (HE.out _).mono ?_
  rintro e w' ⟨rfl, rfl⟩
  go_wp2
  go_ret
  exact ⟨by rw [← HR.out]; rfl, HB.out⟩

set_option maxHeartbeats 4000000 in
set_option maxRecDepth 100000 in
theorem one_count (hK : Keeps D X) (r key nn : Int) (hk : Num key) (hn : Word nn) (h : OneX 108 w0 w p M D X) (hN : M.evs.length ≤ 1099511600000) :
    Calls Try.prog 55 #[.pointer (some ⟨p, 0, none⟩), .int .i64 r, .int .i64 key, .int .u64 nn] w fun e w' => e = .returned (.int .i64 (cntI' (keyAt M r key nn) (M.size r) : Int)) ∧ OneX 108 w0 w' p (M.noted (readsL r (M.size r))) D X := by
  have hok := h.ok
  have hsz := Mm.size_le hok r
  obtain ⟨n, hnn⟩ : ∃ n, M.size r = n := ⟨_, rfl⟩
  have HX0 : Hid (OneX 108 w0 w p (M.noted (readsL r 0)) D X) := Lib.hid (by
    rw [show M.noted (readsL r 0) = M by simp [readsL, Mm.noted]]
    exact h)
  have HOK := Lib.hid hok
  have HK := Lib.hid hK
  clear h hok hK
  rw [hnn] at hsz ⊢
  go_enter Try.func55, Try.ntmps55
  go_wp2_with fail
  refine (one_size r HX0.out).mono ?_
  rw [Mm.noted_size, hnn]
  rintro e w1 ⟨rfl, rfl⟩
  go_wp2_with fail
  go_loopw [9, 14] (fun m i wr => ∃ k : Nat, k ≤ n ∧ i = .int .i64 k ∧ m = .int .u64 (cntI' (keyAt M r key nn) k : Int) ∧ Hid (OneX 108 w0 wr p (M.noted (readsL r k)) D X)) (fun _ i _ => n - (intOf i).toNat)
  case atStart => exact ⟨0, by omega, rfl, rfl, HX0⟩
  case round =>
    obtain ⟨k, hkn, rfl, rfl, HX⟩ := hrel
    have hcl := cntI'_le (keyAt M r key nn) k
    by_cases hlt : k < n
    · have hrd := Mm.read_ok HOK.out r (k : Int)
      have hlo := Mm.look_readsL (M := M) (r := r) (k := k) (by omega)
      have HR := Lib.hid (fun w' (h' : OneX 108 w0 w' p (M.noted (readsL r k)) D X) => one_read HK.out r (k : Int) h' (by rw [Mm.noted_evs, List.length_append, readsL_len]; omega))
      rw [hlo, Mm.noted_read] at HR
      have HMT := Lib.hid (fun w' => match_any (M.read r (k : Int)) hrd.1 hrd.2 key nn hk hn w')
      have HST : Hid (cntI' (keyAt M r key nn) (k + 1) = cntI' (keyAt M r key nn) k + (if keyB (M.read r (k : Int)) key nn then 1 else 0)) := Lib.hid rfl
      simp only [cw_eq] at HR HMT
      generalize (wv (M.read r (k : Int))).toArray = rc at *
      generalize keyB (M.read r (k : Int)) key nn = kb at *
      generalize cntI' (keyAt M r key nn) k = ck at *
      have hb1 : bits .and .u64 (mk kb) 1 = b01 kb := and_mk1 kb
      have hb2 : b01 kb = 0 ∨ b01 kb = 1 := by cases kb <;> simp [b01]
      have HB2 : Hid ((ck : Int) + b01 kb = ((ck + (if kb then 1 else 0) : Nat) : Int)) := Lib.hid (by cases kb <;> simp [b01])
      clear hrd hlo
      go_wp2_with fail
      refine (HR.out _ HX.out).mono ?_
      rintro e wR ⟨rfl, hX1⟩
      have HX1 := Lib.hid hX1
      clear hX1
      go_wp2_with fail
      refine (HMT.out _).mono ?_
      rintro e wM ⟨rfl, hbM⟩
      have HX2 := Lib.hid (HX1.out.below HK.out hbM)
      clear hbM
      rw [show (Value.int IntKind.u64 (mk kb)) = Value.int IntKind.u64 (mk kb) from rfl]
      generalize hmk : mk kb = mm at *
      generalize b01 kb = bb at *
      go_wp2
      go_roundw
      case rel => exact ⟨k + 1, by omega, by go_num, by rw [HST.out, ← HB2.out], HX2⟩
      case measure => simp [intOf]; omega
    · obtain rfl : k = n := by omega
      go_wp2
      go_ret
      exact ⟨rfl, HX.out⟩

set_option maxHeartbeats 4000000 in
set_option maxRecDepth 100000 in
theorem one_find (hK : Keeps D X) (r key nn : Int) (hk : Num key) (hn : Word nn) (h : OneX 108 w0 w p M D X) (hN : M.evs.length ≤ 1099511600000) :
    Calls Try.prog 51 #[.pointer (some ⟨p, 0, none⟩), .int .i64 r, .int .i64 key, .int .u64 nn] w fun e w' => e = .returned (.tuple #[.int .u64 (placeK M r key nn (M.size r) : Int), .agg (cw (outK M r key nn (M.size r))), .int .u64 (mk (foundK M r key nn (M.size r)))]) ∧ OneX 108 w0 w' p (M.noted (readsL r (M.size r))) D X := by
  have hok := h.ok
  have hsz := Mm.size_le hok r
  have hD : ∀ k, D k → k < w.heap.size := by
    obtain ⟨F, _, _, _, _, h5, _⟩ := h
    exact h5
  have hw0 := h.old.size
  have h1 := h.box hK z12 44
  obtain ⟨B, hB⟩ : ∃ B, w.heap.size = B := ⟨_, rfl⟩
  rw [hB] at h1 hD hw0
  have HD := Lib.hid hD
  have HK1 : Hid (∀ l : List Int, Keeps (fun i => D i ∨ i = B) (fun w' => X w' ∧ Blk w' B (cw l) 44)) := Lib.hid fun l => keeps_and hK (keeps_blk _ _ _)
  obtain ⟨n, hnn⟩ : ∃ n, M.size r = n := ⟨_, rfl⟩
  have HX0 : Hid (OneX 108 w0 (w.alloc (.cells z12 44)) p (M.noted (readsL r 0)) (fun i => D i ∨ i = B) (fun w' => X w' ∧ Blk w' B (cw (outK M r key nn 0)) 44)) := Lib.hid (by
    rw [show M.noted (readsL r 0) = M by simp [readsL, Mm.noted]]
    exact h1)
  have HOK := Lib.hid hok
  clear h h1 hok
  rw [hnn] at hsz ⊢
  go_enter Try.func51, Try.ntmps51
  go_wp2_with fail
  try rw [hB]
  refine (one_size r HX0.out).mono ?_
  rw [Mm.noted_size, hnn]
  rintro e w1 ⟨rfl, rfl⟩
  go_wp2_with fail
  go_loopw [8, 10, 17] (fun pl fo i wr => ∃ k : Nat, k ≤ n ∧ i = .int .i64 k ∧ pl = .int .u64 (placeK M r key nn k : Int) ∧ fo = .int .u64 (mk (foundK M r key nn k)) ∧ Hid (OneX 108 w0 wr p (M.noted (readsL r k)) (fun i => D i ∨ i = B) (fun w' => X w' ∧ Blk w' B (cw (outK M r key nn k)) 44))) (fun _ _ i _ => n - (intOf i).toNat)
  case atStart => exact ⟨0, by omega, rfl, rfl, rfl, HX0⟩
  case round =>
    obtain ⟨k, hkn, rfl, rfl, rfl, HX⟩ := hrel
    have hpl := placeK_le M r key nn k
    by_cases hlt : k < n
    · have hrd := Mm.read_ok HOK.out r (k : Int)
      have hou := outK_ok HOK.out r key nn k
      have hou1 := outK_ok HOK.out r key nn (k + 1)
      have hlo := Mm.look_readsL (M := M) (r := r) (k := k) (by omega)
      have HR := Lib.hid (fun w' (h' : OneX 108 w0 w' p (M.noted (readsL r k)) (fun i => D i ∨ i = B) (fun w' => X w' ∧ Blk w' B (cw (outK M r key nn k)) 44)) => one_read (HK1.out _) r (k : Int) h' (by rw [Mm.noted_evs, List.length_append, readsL_len]; omega))
      rw [hlo, Mm.noted_read] at HR
      have HMT := Lib.hid (fun w' => match_any (M.read r (k : Int)) hrd.1 hrd.2 key nn hk hn w')
      obtain ⟨hs1, hs2, hs3⟩ := find_step M r key nn k
      have HP := Lib.hid (fun w' => pickCell_any (mk (keyAt M r key nn k && !foundK M r key nn k)) (M.read r (k : Int)) (outK M r key nn k) (mk_word _) hrd.1 hou.1 hrd.2 hou.2 w')
      rw [zip_mk _ _ _ (by rw [hrd.1, hou.1]) hrd.2 hou.2, ← hs1] at HP
      have HPK := Lib.hid (fun w' => pick_any (mk (keyAt M r key nn k && !foundK M r key nn k)) (k : Int) (placeK M r key nn k : Int) (mk_word _) ⟨by omega, by omega⟩ ⟨by omega, by omega⟩ w')
      rw [pk_mk _ ⟨by omega, by omega⟩ ⟨by omega, by omega⟩, show (if (keyAt M r key nn k && !foundK M r key nn k) = true then (k : Int) else (placeK M r key nn k : Int)) = (placeK M r key nn (k + 1) : Int) by rw [hs2]; split <;> rfl] at HPK
      have HAN := Lib.hid (andNot_mk (keyAt M r key nn k) (foundK M r key nn k))
      have HOR := Lib.hid (or_mk (foundK M r key nn k) (keyAt M r key nn k && !foundK M r key nn k))
      rw [← hs3] at HOR
      rw [show keyB (M.read r (k : Int)) key nn = keyAt M r key nn k from rfl] at HMT
      simp only [cw_eq] at HR HMT HP
      have hi1 := info_c12 _ hrd.1
      have hi2 := info_c12 _ hou.1
      have hi3 := info_c12 _ hou1.1
      have hz1 : (wv (M.read r (k : Int))).toArray.size = 12 := by rw [List.size_toArray, wv_len, hrd.1]
      have hz2 : (wv (outK M r key nn k)).toArray.size = 12 := by rw [List.size_toArray, wv_len, hou.1]
      have hz3 : (wv (outK M r key nn (k + 1))).toArray.size = 12 := by rw [List.size_toArray, wv_len, hou1.1]
      have HI1 : Hid ((Try.prog.info? 44).map (·.size) = some (wv (M.read r (k : Int))).toArray.size) := Lib.hid (by rw [hz1]; kernel_rfl)
      have HI2 : Hid ((Try.prog.info? 44).map (·.size) = some (wv (outK M r key nn k)).toArray.size) := Lib.hid (by rw [hz2]; kernel_rfl)
      have HI3 : Hid ((Try.prog.info? 44).map (·.size) = some (wv (outK M r key nn (k + 1))).toArray.size) := Lib.hid (by rw [hz3]; kernel_rfl)
      have HO1 := Lib.hid (all_oneCell_toArray (wv_one (M.read r (k : Int))))
      have HO3 := Lib.hid (all_oneCell_toArray (wv_one (outK M r key nn (k + 1))))
      have HKr := Lib.hid (HK1.out (outK M r key nn k))
      rw [cw_eq] at HKr HX
      clear hs1 hs2 hs3 hrd hou hou1 hlo
      generalize hrc : (wv (M.read r (k : Int))).toArray = rc at *
      generalize hoc : (wv (outK M r key nn k)).toArray = oc at *
      generalize hnc : (wv (outK M r key nn (k + 1))).toArray = nc at *
      go_wp2_with fail
      refine (HR.out _ HX.out).mono ?_
      rintro e wR ⟨rfl, hX1⟩
      obtain ⟨Bc, hBc⟩ : ∃ b, wR.heap.size = b := ⟨_, rfl⟩
      have hX2 := hX1.box HKr.out z12 44
      rw [hBc] at hX2
      have HX2 := Lib.hid hX2
      have HBc : Hid (w0.heap.size ≤ Bc ∧ ∀ i, (D i ∨ i = B) → i < Bc) := Lib.hid ⟨by rw [← hBc]; exact hX1.old.size, fun i hi => by
        obtain ⟨F, _, _, _, _, h5, _⟩ := hX1
        rw [← hBc]
        exact h5 i hi⟩
      clear hX1 hX2
      go_upto_region 5 with (first
        | (refine wpList_store_row rfl 44 (.tmp 12) (.tmp 23) rfl Bc rc rfl rfl 44 _ HX2.out.x.2 HI1.out (by rw [hz1]; rfl) HO1.out ?_)
        | fail)
      have HX3 : Hid (OneX 108 w0 ((wR.alloc (.cells z12 44)).setRow Bc rc) p (M.noted (readsL r (k + 1))) (fun i => (D i ∨ i = B) ∨ i = Bc) (fun w' => (X w' ∧ Blk w' B oc 44) ∧ Blk w' Bc rc 44)) := Lib.hid (HX2.out.turn (fun _ h => h) (mframe_setRow (MFrame.refl _ _) ⟨.inr rfl, HBc.out.1⟩ _)
        ⟨HKr.out _ _ (by simp [World.setRow]) (fun i hi => setRow_other _ _ _ _ (Nat.ne_of_lt (HBc.out.2 i hi))) HX2.out.x.1, HX2.out.x.2.setRow _⟩)
      have HK4 := Lib.hid (keeps_and HKr.out (keeps_blk Bc rc 44))
      obtain ⟨w3, hw3⟩ : ∃ x, (wR.alloc (.cells z12 44)).setRow Bc rc = x := ⟨_, rfl⟩
      rw [hw3] at HX3
      refine at_world (fun w => w = w3) hw3 ?_
      rintro _ rfl
      clear hw3 HX2 hBc
      go_wp2_with (first
        | (refine wpList_load_row rfl 44 (.tmp 12) rfl Bc rfl 44 rc (0, 0) _ HX3.out.x.2 Try.underlying44 rfl HI1.out ?_)
        | fail)
      refine (HMT.out _).mono ?_
      rintro e w4 ⟨rfl, hb4⟩
      have HX4 := Lib.hid (HX3.out.below HK4.out hb4)
      clear hb4 HX3
      go_upto_region 6 with fail
      rw [HAN.out]
      generalize mk (keyAt M r key nn k && !foundK M r key nn k) = hm at *
      go_wp2_with (first
        | (refine wpList_load_row rfl 44 (.tmp 12) rfl Bc rfl 44 rc (0, 0) _ HX4.out.x.2 Try.underlying44 rfl HI1.out ?_)
        | (refine wpList_load_row rfl 44 (.tmp 9) rfl B rfl 44 oc (0, 0) _ HX4.out.x.1.2 Try.underlying44 rfl HI2.out ?_)
        | (go_at_call 88; refine (HPK.out _).mono ?_; rintro e w5 ⟨rfl, rfl⟩)
        | fail)
      refine (HP.out _).mono ?_
      rintro e w6 ⟨rfl, hb6⟩
      have HX6 := Lib.hid (HX4.out.below HK4.out hb6)
      clear hb6 HX4
      go_upto_region 8 with (first
        | (refine wpList_store_row rfl 44 (.tmp 9) (.tmp 38) rfl B nc rfl rfl 44 _ HX6.out.x.1.2 HI3.out (by rw [hz2, hz3]) HO3.out ?_)
        | fail)
      have HX7 : Hid (OneX 108 w0 (w6.setRow B nc) p (M.noted (readsL r (k + 1))) (fun i => D i ∨ i = B) (fun w' => X w' ∧ Blk w' B nc 44)) := Lib.hid (HX6.out.turn (fun _ h => .inl h) (mframe_setRow (MFrame.refl _ _) ⟨.inl (.inr rfl), hw0⟩ _)
        ⟨hK _ _ (by simp [World.setRow]) (fun i hi => setRow_other _ _ _ _ (Nat.ne_of_lt (HD.out i hi))) HX6.out.x.1.1, HX6.out.x.1.2.setRow _⟩)
      generalize w6.setRow B nc = w7 at *
      go_upto_region 9 with fail
      rw [HOR.out]
      clear HX6
      go_wp2
      go_roundw
      case rel => exact ⟨k + 1, by omega, by go_num, rfl, rfl, Lib.hid (by rw [cw_eq, hnc]; exact HX7.out)⟩
      case measure => simp [intOf]; omega
    · obtain rfl : k = n := by omega
      have hou := outK_ok HOK.out r key nn k
      have hi2 := info_c12 _ hou.1
      have hl : (wv (outK M r key nn k)).length = 12 := by rw [wv_len, hou.1]
      have ho := wv_one (outK M r key nn k)
      have U := Try.underlying44
      rw [cw_eq] at HX
      obtain ⟨ol, hol⟩ : ∃ ol, ol = wv (outK M r key nn k) := ⟨_, rfl⟩
      have HOL : Hid (cw (outK M r key nn k) = ol.toArray) := Lib.hid (by rw [hol]; rfl)
      rw [← hol] at HX hi2 hl ho
      have hKo : Keeps (fun i => D i ∨ i = B) (fun w' => X w' ∧ Blk w' B ol.toArray 44) := by rw [hol]; exact HK1.out _
      clear hol hou
      have hX0 := HX.out.drew hKo
      have hr0 : wr.drew.rangeAt B 0 ol := hX0.x.2.range
      have ht0 : wr.drew.there B 0 12 := hX0.x.2.there 12 (by rw [List.size_toArray, hl]; omega)
      go_upto_region 10 with fail
      go_region_held3 (fun w' => w'.rangeAt B 0 ol ∧ w'.there B 0 12) (first | exact ⟨hr0, ht0⟩ | exact ⟨World.rangeAt_setCells_same _ _ _ _ (by rw [hl]; exact ht0), World.there_setCells ht0 _ _ _⟩) (first | fail)
      all_goals
        go_wp2
        refine bodyPost_ret (results_mid_row rfl _ _ B ol _ rfl (World.rangeAt_setCells_same _ _ _ _ (by rw [hl]; exact ht0)) Try.underlying44 rfl hi2) rfl ⟨by rw [HOL.out]; rfl, ?_⟩
        refine hX0.turn (fun k hk => .inl hk) ((MFrame.refl _ _).setCells ol 0 (.inl ⟨.inr rfl, hw0⟩)) ?_
        exact hK _ _ (by rw [size_setCells]; exact Nat.le_refl _) (fun i hi => heap_setCells_ne _ _ _ _ (Nat.ne_of_lt (HD.out i hi))) hX0.x.1
end Go.Proofs.Ytngpaibppdehdaa
