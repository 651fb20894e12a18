/-
  Joined texts: LevP, RvE, SpG.
-/
import Derived.Test.YthchfdobdghdoaaGreatHbg
import Derived.Test.YthchfdobdghdoaaGreatHan
import Derived.Test.YthchfdobdghdoaaGreatHbe
import Derived.Maps.AppendAt
set_option linter.unusedVariables false
set_option linter.unusedSimpArgs false
set_option linter.unusedSectionVars false
set_option linter.unnecessarySimpa false
section

/-
  The walk of a level's spots: the cells of the buckets on a way, and of the stash.
-/
namespace Go.Sg
open Go Go.RowKit
/-- a cell of the tree, or of the stash -/
abbrev Sp := Int × Int
theorem own_baseL {w : World} {B C : Nat} {e : TypeId} {size : Nat} {v : Value} {m : Nat} {xs : List Value} (h : w.ownsRow B e size v m xs) (hc : C ≤ B) : w.ownsRow C e size v m xs :=
  ⟨h.1, h.2.imp id (fun ⟨g, cap, cur, e1, hb, rest⟩ => ⟨g, cap, cur, e1, Nat.le_trans hc hb, rest⟩)⟩
def spV (s : Sp) : List Value := [.int .i64 s.1, .int .i64 s.2]
theorem spV_k : EncK spV 2 := ⟨fun _ => rfl, fun x u hu => by simp [spV] at hu; rcases hu with rfl | rfl <;> rfl, by decide⟩
def spRow (first S node : Int) (k : Nat) : List Sp := (List.range k).map (fun j : Nat => (first, node * S + j))
theorem spRow_len (first S node : Int) (k : Nat) : (spRow first S node k).length = k := by simp [spRow]
theorem spRow_succ (first S node : Int) (k : Nat) : spRow first S node (k + 1) = spRow first S node k ++ [(first, node * S + k)] := by simp [spRow, List.range_succ]
def spSt (first : Int) (k : Nat) : List Sp := (List.range k).map (fun i : Nat => (first + 1, (i : Int)))
theorem spSt_len (first : Int) (k : Nat) : (spSt first k).length = k := by simp [spSt]
theorem spSt_succ (first : Int) (k : Nat) : spSt first (k + 1) = spSt first k ++ [(first + 1, (k : Int))] := by simp [spSt, List.range_succ]
def spTree (first S : Int) (ns : List Int) : List Sp := ns.flatMap (fun nd => spRow first S nd S.toNat)
theorem spTree_snoc (first S : Int) (ns : List Int) (nd : Int) : spTree first S (ns ++ [nd]) = spTree first S ns ++ spRow first S nd S.toNat := by simp [spTree]
theorem spTree_len (first S : Int) (ns : List Int) : (spTree first S ns).length = ns.length * S.toNat := by
  induction ns with
  | nil => simp [spTree]
  | cons n ns ih =>
    show (spRow first S n S.toNat ++ spTree first S ns).length = _
    rw [List.length_append, spRow_len, ih, List.length_cons, Nat.add_mul, Nat.one_mul, Nat.add_comm]
/-- the cells of a way, and of the stash -/
def spL (first : Int) (c : Lc) (lf : Int) : List Sp := spTree first c.2.1 (pathL c.1 lf) ++ spSt first c.2.2.toNat
theorem pathL_bd {n l : Int} (h : hasB n l = true) : ∀ x ∈ pathL n l, 0 ≤ x ∧ x ≤ 2046 := by
  intro x hx
  obtain ⟨D, hD, rfl, he, h0, h1⟩ := hasB_of h
  obtain ⟨d, hd, rfl⟩ := List.getElem_of_mem hx
  rw [pathL_at h]
  rw [pathL_len h, he, Int.toNat_natCast] at hd
  have h2 := node_bd hD h0 h1 d (by omega)
  have h3 : (2 : Int) ^ (d + 1) ≤ 2 ^ 11 := pow_mono' (d + 1) 11 (by omega)
  have h4 : (1 : Int) ≤ 2 ^ d := by have := pow_mono' 0 d (by omega); simpa using this
  have h5 : (2 : Int) ^ 11 = 2048 := by decide
  omega
theorem lcRight_iff {c : Lc} (h : lcRight c = true) : rightB c.1 = true ∧ rightD (lcSh c) = true := by
  unfold lcRight at h
  rw [Bool.and_eq_true, Bool.and_eq_true] at h
  exact ⟨h.1, h.2.1⟩
theorem lcRight_bd {c : Lc} (h : lcRight c = true) : 0 ≤ depthI c.1 ∧ depthI c.1 ≤ 10 ∧ 1 ≤ c.2.1 ∧ c.2.1 ≤ 8 ∧ 1 ≤ c.2.2 ∧ c.2.2 ≤ 64 := by
  have h1 := rightD_iff.1 (lcRight_iff h).2
  unfold lcSh at h1
  simp only at h1
  omega
theorem spL_len {first : Int} {c : Lc} {lf : Int} (h : lcRight c = true) (ht : hasB c.1 lf = true) : ((spL first c lf).length : Int) + 1 = placesD (lcSh c) := by
  obtain ⟨h1, h2⟩ := lcRight_iff h
  have hb := lcRight_bd h
  unfold spL placesD levelsD
  rw [if_pos h2, List.length_append, spTree_len, spSt_len, pathL_len ht]
  unfold lcSh
  simp only
  obtain ⟨D, hD⟩ : ∃ D : Nat, depthI c.1 = D := ⟨(depthI c.1).toNat, by omega⟩
  obtain ⟨S, hS⟩ : ∃ S : Nat, c.2.1 = S := ⟨c.2.1.toNat, by omega⟩
  rw [hD, hS, Int.toNat_natCast, Int.toNat_natCast]
  have e : ((S : Int) * ((D : Int) + 1)) = (((D + 1) * S : Nat) : Int) := by
    rw [Nat.mul_comm]; push_cast; rfl
  rw [e]
  omega
end Go.Sg
namespace Go.Proofs.YthchfdobdghdoaaGreat
open Go Go.RowKit Go.Sg
theorem info_spot : (Tryz.prog.info? 99).map (fun i => (i.zero, i.size, i.bytes)) = some (some (.agg #[.int .i64 0, .int .i64 0]), 2, 16) := by kernel_rfl
set_option maxHeartbeats 4000000 in
set_option maxRecDepth 100000 in
theorem spots_any (c : Lc) (hc : LcOk c) (hr : lcRight c = true) (first lf : Int) (hf : 0 ≤ first ∧ first ≤ 1099511627776) (ht : hasB c.1 lf = true) (w : World) :
    Calls Tryz.prog 47 #[.agg #[.int .i64 c.1, .int .i64 c.2.1, .int .i64 c.2.2], .int .i64 first, .int .i64 lf] w fun e w' => ∃ v, e = .returned v ∧ w'.ownsRow w.heap.size 99 2 v (spL first c lf).length (flatV spV (spL first c lf)) ∧ Below w.heap.size w w' := by
  have KP := Lib.hid (fun w' => pathPathN_any c.1 lf hc.1 w')
  have hb := lcRight_bd hr
  have hpl := pathL_len ht
  have hpb := pathL_bd ht
  have hsl : spL first c lf = spTree first c.2.1 (pathL c.1 lf) ++ spSt first c.2.2.toNat := rfl
  rw [hsl]
  clear hsl hr ht
  generalize pathL c.1 lf = ns at *
  have hnl : ns.length ≤ 11 := by omega
  obtain ⟨L, S, T⟩ := c
  simp only at *
  obtain ⟨S, rfl⟩ : ∃ s : Nat, S = s := ⟨S.toNat, by omega⟩
  obtain ⟨T, rfl⟩ : ∃ t : Nat, T = t := ⟨T.toNat, by omega⟩
  have hS : 1 ≤ S ∧ S ≤ 8 := by omega
  have hT : 1 ≤ T ∧ T ≤ 64 := by omega
  have hlen : ∀ d, d ≤ ns.length → d * S ≤ 88 := fun d hd => by
    have := Nat.mul_le_mul (show d ≤ 11 by omega) hS.2
    omega
  have HLEN := Lib.hid hlen
  have HPB := Lib.hid hpb
  obtain ⟨i0, hi0, hz0, hz1, hz2⟩ := info_parts info_spot
  have HI := Lib.hid hi0
  have HZ := Lib.hid hz0
  have HS := Lib.hid hz1
  have HY := Lib.hid hz2
  obtain ⟨B, hB⟩ : ∃ B, w.heap.size = B := ⟨_, rfl⟩
  have HBE := Lib.hid hB
  have HB1 : Hid (Below w.heap.size w (w.alloc (.cells #[.int .i64 L, .int .i64 S, .int .i64 T] 23))) := Lib.hid ((Below.refl _ _).alloc (Nat.le_refl _) _)
  have HK1 : Hid (Blk (w.alloc (.cells #[.int .i64 L, .int .i64 S, .int .i64 T] 23)) B #[.int .i64 L, .int .i64 S, .int .i64 T] 23) := Lib.hid (by rw [← hB]; exact Blk.new w _ _)
  clear hi0 hz0 hz1 hz2 hb hpl hpb hlen hc
  go_enter Tryz.func47, Tryz.ntmps47
  go_wp2_with fail
  refine (KP.out _).mono ?_
  rintro e w2 ⟨pv, rfl, hp, hb2, hpo⟩
  obtain ⟨pa, pcap, rfl⟩ := hp.len
  rw [ints_len]
  have HB2 : Hid (Below w.heap.size w w2) := Lib.hid (HB1.out.trans (hb2.mono HB1.out.size))
  have HK2 := Lib.hid (HK1.out.below hb2 HK1.out.lt)
  have HP2 := Lib.hid hp
  clear hb2 hp hpo KP HB1 HK1 hB
  obtain ⟨V, hV⟩ : ∃ V, w2.heap.size = V := ⟨_, rfl⟩
  have HVE := Lib.hid hV
  have HBV : Hid (w.heap.size ≤ V ∧ B < V) := Lib.hid ⟨by have := HB2.out.size; omega, by have := HK2.out.lt; omega⟩
  have HBR : Hid (Below V w2 w2) := Lib.hid (Below.refl _ _)
  have HPV : Hid (∀ b off cp, Value.slice pa ns.length pcap = .slice (some ⟨b, off, none⟩) ns.length cp → b < w2.heap.size → b < V) := Lib.hid (fun b off cp _ h => by omega)
  clear hV
  go_wp2_with fail
  go_loopw [7, 9, 10, 17, 23] (fun sv _ _ iv _ wr => ∃ d : Nat, d ≤ ns.length ∧ iv = .int .i64 d ∧ Hid (wr.ownsRow V 99 2 sv (d * S) (flatV spV (spTree first S (ns.take d)))) ∧ Hid (Below V w2 wr)) (fun _ _ _ iv _ _ => ns.length - (intOf iv).toNat)
  case atStart => exact ⟨0, by omega, rfl, Lib.hid (by have := World.ownsRow_nil w2 V 99 2; simpa [spTree, flatV] using this), HBR⟩
  case round =>
    obtain ⟨d, hd, rfl, HO, HB⟩ := hrel
    by_cases hdn : d < ns.length
    · have i0' : (0 : Int) ≤ (d : Int) := by omega
      have i1' : (d : Int) < (ns.length : Int) := by omega
      have hdd : decide ((d : Int) < (ns.length : Int)) = true := decide_eq_true i1'
      have hdd' : decide (d < ns.length) = true := decide_eq_true hdn
      have HL1 := HLEN.out (d + 1) hdn
      rw [Nat.add_mul, Nat.one_mul] at HL1
      have hnb := HPB.out _ (List.getElem_mem hdn)
      have hcl : ∃ b off, pa = some ⟨b, off, none⟩ ∧ wr.cell? ⟨b, off + d, none⟩ = some (.int .i64 ns[d]) := by
        rcases HP2.out with ⟨h0, -⟩ | ⟨-, b, off, cp, hv, -, -, hlt, hce⟩
        · have : ns = [] := by have := congrArg List.length h0; rw [ints_len] at this; exact List.length_eq_zero_iff.1 this
          rw [this] at hdn
          simp at hdn
        · simp only [Value.slice.injEq] at hv
          obtain ⟨rfl, -, -⟩ := hv
          refine ⟨b, off, rfl, (HB.out.cell (p := ⟨b, off + d, none⟩) (show b < V by have := HVE.out; omega)).trans ?_⟩
          rw [hce d (by rw [ints_len]; exact hdn)]
          simp [ints]
      obtain ⟨b, off, rfl, cn⟩ := hcl
      have HTK : Hid (spTree first S (ns.take (d + 1)) = spTree first S (ns.take d) ++ spRow first S ns[d] S) := Lib.hid (by
        rw [List.take_succ_eq_append_getElem hdn, spTree_snoc, Int.toNat_natCast])
      have c1 : wr.cell? ⟨B, 1, none⟩ = some (.int .i64 (S : Int)) := (HK2.out.below HB.out HBV.out.2).cell 1
      generalize ns[d] = nd at *
      obtain ⟨wy, hwy⟩ : ∃ wy : World, wy = wr := ⟨_, rfl⟩
      have HO1 : Hid (wy.ownsRow V 99 2 u7 (d * S) (flatV spV (spTree first S (ns.take d)))) := Lib.hid (by rw [hwy]; exact HO.out)
      have HB1 : Hid (Below V w2 wy) := Lib.hid (by rw [hwy]; exact HB.out)
      have HWY := Lib.hid hwy
      clear hwy HO HB
      go_wp2_with fail
      go_loopw [7, 10, 23] (fun sv _ iv wr => ∃ k : Nat, k ≤ S ∧ iv = .int .i64 k ∧ Hid (wr.ownsRow V 99 2 sv (d * S + k) (flatV spV (spTree first S (ns.take d) ++ spRow first S nd k))) ∧ Hid (Below V w2 wr)) (fun _ _ iv _ => S - (intOf iv).toNat)
      case atStart => exact ⟨0, by omega, rfl, Lib.hid (by rw [← HWY.out]; have := HO1.out; simpa [spRow] using this), Lib.hid (by rw [← HWY.out]; exact HB1.out)⟩
      case round =>
        obtain ⟨k, hk, rfl, HO, HB⟩ := hrel
        by_cases hkn : k < S
        · have j0' : (0 : Int) ≤ (k : Int) := by omega
          have j1' : (k : Int) < (S : Int) := by omega
          have hkd : decide ((k : Int) < (S : Int)) = true := decide_eq_true j1'
          have hkd' : decide (k < S) = true := decide_eq_true hkn
          have c1 : wr.cell? ⟨B, 1, none⟩ = some (.int .i64 (S : Int)) := (HK2.out.below HB.out HBV.out.2).cell 1
          have HTS : Hid (flatV spV (spTree first S (ns.take d) ++ spRow first S nd (k + 1)) = flatV spV (spTree first S (ns.take d) ++ spRow first S nd k) ++ [.int .i64 first, .int .i64 (nd * S + k)]) := Lib.hid (by
            rw [spRow_succ, ← List.append_assoc, flatV_snoc]; rfl)
          have hmul : 0 ≤ nd * (S : Int) ∧ nd * (S : Int) ≤ 2046 * 8 := ⟨Int.mul_nonneg (by omega) (by omega), Int.mul_le_mul (by omega) (by omega) (by omega) (by omega)⟩
          have HSZ : Hid (V ≤ wr.heap.size) := Lib.hid (by have := HVE.out; have := HB.out.size; omega)
          have HLN : Hid ((flatV spV (spTree first S (ns.take d) ++ spRow first S nd k)).length = (d * S + k) * 2) := Lib.hid (by
            rw [flatV_len spV_k, List.length_append, spTree_len, spRow_len, List.length_take, Int.toNat_natCast, Nat.min_eq_left (by omega)])
          have hdk : d * S + k ≤ 88 := by omega
          obtain ⟨m, hm⟩ : ∃ m, d * S + k = m := ⟨_, rfl⟩
          rw [hm] at HO HLN hdk
          have HM := Lib.hid hm
          clear hm
          go_wp2_with (first
            | (at_builtin; go_loud (refine wpList_append_own_at _ rfl (.tmp 26) (.tmp 35) 96 rfl V 99 i0 (.agg #[.int .i64 0, .int .i64 0]) 2 16 Tryz.underlying96 HI.out HZ.out HS.out HY.out rfl (by decide) _ m _ rfl (HO.out.alloc _) ⟨wr.heap.size, 0, none⟩ 1 1 [.int .i64 first, .int .i64 (nd * S + k)] rfl rfl (cells_litD _ _ _) (by simp [Value.oneCell']) (by unfold maxLen; omega) (by omega) (by have := HSZ.out; simp; omega) ?_))
            | fail)
          intro v' w10 hown hgrow _ _
          have HO10 : Hid (w10.ownsRow V 99 2 v' (m + 1) (flatV spV (spTree first S (ns.take d) ++ spRow first S nd (k + 1)))) := Lib.hid (by rw [HTS.out]; exact hown)
          have HB10 : Hid (Below V w2 w10) := Lib.hid ((HB.out.alloc HSZ.out _).grown hgrow (by have := HSZ.out; simp; omega) (fun kk hkk => (HO.out.lt kk hkk).1))
          clear hown hgrow
          go_wp2
          go_roundw
          case rel => exact ⟨k + 1, by omega, by go_num, by rw [show d * S + (k + 1) = m + 1 by have := HM.out; omega]; exact HO10, HB10⟩
          case measure => simp [intOf]; omega
        · obtain rfl : k = S := by omega
          have hkd : decide ((k : Int) < (k : Int)) = false := by simp
          have HO2 : Hid (wr.ownsRow V 99 2 u7 ((d + 1) * k) (flatV spV (spTree first k (ns.take (d + 1))))) := Lib.hid (by
            rw [HTK.out, Nat.add_mul, Nat.one_mul]; exact HO.out)
          go_wp2
          go_roundw
          case rel => exact ⟨d + 1, by omega, by go_num, HO2, HB⟩
          case measure => simp [intOf]; omega
    · obtain rfl : d = ns.length := by omega
      have hdd : decide ((ns.length : Int) < (ns.length : Int)) = false := by simp
      rw [List.take_length] at HO
      have c2 : wr.cell? ⟨B, 2, none⟩ = some (.int .i64 (T : Int)) := (HK2.out.below HB.out HBV.out.2).cell 2
      have hmS := HLEN.out ns.length (Nat.le_refl _)
      obtain ⟨m0, hm0⟩ : ∃ m0, ns.length * S = m0 := ⟨_, rfl⟩
      rw [hm0] at HO hmS
      have HM0 := Lib.hid hm0
      obtain ⟨TL, hTL⟩ : ∃ TL, spTree first S ns = TL := ⟨_, rfl⟩
      rw [hTL] at HO
      have HTLE := Lib.hid hTL
      have HTLL : Hid (TL.length = m0) := Lib.hid (by rw [← hTL, spTree_len, Int.toNat_natCast]; exact hm0)
      obtain ⟨wy, hwy⟩ : ∃ wy : World, wy = wr := ⟨_, rfl⟩
      have HO1 : Hid (wy.ownsRow V 99 2 u7 m0 (flatV spV TL)) := Lib.hid (by rw [hwy]; exact HO.out)
      have HB1 : Hid (Below V w2 wy) := Lib.hid (by rw [hwy]; exact HB.out)
      have HWY := Lib.hid hwy
      clear hwy HO HB hm0 hTL
      go_wp2_with fail
      go_loopw [7, 11, 41] (fun sv _ iv wr => ∃ k : Nat, k ≤ T ∧ iv = .int .i64 k ∧ Hid (wr.ownsRow V 99 2 sv (m0 + k) (flatV spV (TL ++ spSt first k))) ∧ Hid (Below V w2 wr)) (fun _ _ iv _ => T - (intOf iv).toNat)
      case atStart => exact ⟨0, by omega, rfl, Lib.hid (by rw [← HWY.out]; have := HO1.out; simpa [spSt] using this), Lib.hid (by rw [← HWY.out]; exact HB1.out)⟩
      case round =>
        obtain ⟨k, hk, rfl, HO, HB⟩ := hrel
        by_cases hkn : k < T
        · have j0' : (0 : Int) ≤ (k : Int) := by omega
          have j1' : (k : Int) < (T : Int) := by omega
          have hkd : decide ((k : Int) < (T : Int)) = true := decide_eq_true j1'
          have hkd' : decide (k < T) = true := decide_eq_true hkn
          have HTS : Hid (flatV spV (TL ++ spSt first (k + 1)) = flatV spV (TL ++ spSt first k) ++ [.int .i64 (first + 1), .int .i64 k]) := Lib.hid (by
            rw [spSt_succ, ← List.append_assoc, flatV_snoc]; rfl)
          have HSZ : Hid (V ≤ wr.heap.size) := Lib.hid (by have := HVE.out; have := HB.out.size; omega)
          have HLN : Hid ((flatV spV (TL ++ spSt first k)).length = (m0 + k) * 2) := Lib.hid (by
            rw [flatV_len spV_k, List.length_append, spSt_len, HTLL.out])
          have hdk : m0 + k ≤ 152 := by omega
          have wf1 : IntKind.i64.wrap (first + 1) = first + 1 := by rw [IntKind.wrap_i64]; omega
          obtain ⟨m, hm⟩ : ∃ m, m0 + k = m := ⟨_, rfl⟩
          rw [hm] at HO HLN hdk
          have HM := Lib.hid hm
          clear hm
          go_wp2_with (first
            | (at_builtin; go_loud (refine wpList_append_own_at _ rfl (.tmp 44) (.tmp 49) 96 rfl V 99 i0 (.agg #[.int .i64 0, .int .i64 0]) 2 16 Tryz.underlying96 HI.out HZ.out HS.out HY.out rfl (by decide) _ m _ rfl (HO.out.alloc _) ⟨wr.heap.size, 0, none⟩ 1 1 [.int .i64 (first + 1), .int .i64 k] rfl rfl (cells_litD _ _ _) (by simp [Value.oneCell']) (by unfold maxLen; omega) (by omega) (by have := HSZ.out; simp; omega) ?_))
            | fail)
          intro v' w10 hown hgrow _ _
          have HO10 : Hid (w10.ownsRow V 99 2 v' (m + 1) (flatV spV (TL ++ spSt first (k + 1)))) := Lib.hid (by rw [HTS.out]; exact hown)
          have HB10 : Hid (Below V w2 w10) := Lib.hid ((HB.out.alloc HSZ.out _).grown hgrow (by have := HSZ.out; simp; omega) (fun kk hkk => (HO.out.lt kk hkk).1))
          clear hown hgrow
          go_wp2
          go_roundw
          case rel => exact ⟨k + 1, by omega, by go_num, by rw [show m0 + (k + 1) = m + 1 by have := HM.out; omega]; exact HO10, HB10⟩
          case measure => simp [intOf]; omega
        · obtain rfl : k = T := by omega
          have hkd : decide ((k : Int) < (k : Int)) = false := by simp
          go_wp2
          go_ret
          refine ⟨_, rfl, ?_, HB2.out.trans ((by have := HVE.out; have h := HB.out; rw [← this] at h; exact h : Below w2.heap.size w2 wr).mono HB2.out.size)⟩
          have e : (spTree first (S : Int) ns ++ spSt first k).length = m0 + k := by
            rw [HTLE.out, List.length_append, spSt_len, HTLL.out]
          rw [Int.toNat_natCast, e, HTLE.out]
          exact own_baseL HO.out HBV.out.1
end Go.Proofs.YthchfdobdghdoaaGreat
end
section
/-
  The walk of shellgameref10.places (any first region: f1 is the one behind it).
-/
namespace Go.Sg
open Go Go.RowKit
def spStG (f1 : Int) (k : Nat) : List Sp := (List.range k).map (fun i : Nat => (f1, (i : Int)))
theorem spStG_len (f1 : Int) (k : Nat) : (spStG f1 k).length = k := by simp [spStG]
theorem spStG_succ (f1 : Int) (k : Nat) : spStG f1 (k + 1) = spStG f1 k ++ [(f1, (k : Int))] := by simp [spStG, List.range_succ]
/-- the cells of a way, and of the stash, whatever the regions are -/
def spG (first f1 : Int) (c : Lc) (lf : Int) : List Sp := spTree first c.2.1 (pathL c.1 lf) ++ spStG f1 c.2.2.toNat
end Go.Sg
namespace Go.Proofs.YthchfdobdghdoaaGreat
open Go Go.RowKit Go.Sg
theorem info_placeR : (Tryz.prog.info? 104).map (fun i => (i.zero, i.size, i.bytes)) = some (some (.agg #[.int .i64 0, .int .i64 0]), 2, 16) := by kernel_rfl
set_option maxHeartbeats 4000000 in
set_option maxRecDepth 100000 in
theorem rvplaces_any (c : Lc) (hc : LcOk c) (hr : lcRight c = true) (first f1 lf : Int) (wf1 : IntKind.i64.wrap (first + 1) = f1) (ht : hasB c.1 lf = true) (w : World) :
    Calls Tryz.prog 49 #[.int .i64 first, .agg #[.int .i64 c.1, .int .i64 c.2.1, .int .i64 c.2.2], .int .i64 lf] w fun e w' => ∃ v, e = .returned v ∧ w'.ownsRow w.heap.size 104 2 v (spG first f1 c lf).length (flatV spV (spG first f1 c lf)) ∧ Below w.heap.size w w' := by
  have KP := Lib.hid (fun w' => ref8Path_any c.1 lf hc.1 w')
  have hb := lcRight_bd hr
  have hpl := pathL_len ht
  have hpb := pathL_bd ht
  have hsl : spG first f1 c lf = spTree first c.2.1 (pathL c.1 lf) ++ spStG f1 c.2.2.toNat := rfl
  rw [hsl]
  clear hsl hr ht
  generalize pathL c.1 lf = ns at *
  have hnl : ns.length ≤ 11 := by omega
  obtain ⟨L, S, T⟩ := c
  simp only at *
  obtain ⟨S, rfl⟩ : ∃ s : Nat, S = s := ⟨S.toNat, by omega⟩
  obtain ⟨T, rfl⟩ : ∃ t : Nat, T = t := ⟨T.toNat, by omega⟩
  have hS : 1 ≤ S ∧ S ≤ 8 := by omega
  have hT : 1 ≤ T ∧ T ≤ 64 := by omega
  have hlen : ∀ d, d ≤ ns.length → d * S ≤ 88 := fun d hd => by
    have := Nat.mul_le_mul (show d ≤ 11 by omega) hS.2
    omega
  have HLEN := Lib.hid hlen
  have HPB := Lib.hid hpb
  obtain ⟨i0, hi0, hz0, hz1, hz2⟩ := info_parts info_placeR
  have HI := Lib.hid hi0
  have HZ := Lib.hid hz0
  have HS := Lib.hid hz1
  have HY := Lib.hid hz2
  obtain ⟨B, hB⟩ : ∃ B, w.heap.size = B := ⟨_, rfl⟩
  have HBE := Lib.hid hB
  have HB1 : Hid (Below w.heap.size w (w.alloc (.cells #[.int .i64 L, .int .i64 S, .int .i64 T] 28))) := Lib.hid ((Below.refl _ _).alloc (Nat.le_refl _) _)
  have HK1 : Hid (Blk (w.alloc (.cells #[.int .i64 L, .int .i64 S, .int .i64 T] 28)) B #[.int .i64 L, .int .i64 S, .int .i64 T] 28) := Lib.hid (by rw [← hB]; exact Blk.new w _ _)
  clear hi0 hz0 hz1 hz2 hb hpl hpb hlen hc
  go_enter Tryz.func49, Tryz.ntmps49
  go_wp2_with fail
  refine (KP.out _).mono ?_
  rintro e w2 ⟨pv, rfl, hp, hb2⟩
  obtain ⟨pa, pcap, rfl⟩ := hp.len
  rw [ints_len]
  have HB2 : Hid (Below w.heap.size w w2) := Lib.hid (HB1.out.trans (hb2.mono HB1.out.size))
  have HK2 := Lib.hid (HK1.out.below hb2 HK1.out.lt)
  have HP2 := Lib.hid hp
  clear hb2 hp KP HB1 HK1 hB
  obtain ⟨V, hV⟩ : ∃ V, w2.heap.size = V := ⟨_, rfl⟩
  have HVE := Lib.hid hV
  have HBV : Hid (w.heap.size ≤ V ∧ B < V) := Lib.hid ⟨by have := HB2.out.size; omega, by have := HK2.out.lt; omega⟩
  have HBR : Hid (Below V w2 w2) := Lib.hid (Below.refl _ _)
  clear hV
  go_wp2_with fail
  go_loopw [7, 9, 10] (fun sv iv _ wr => ∃ d : Nat, d ≤ ns.length ∧ iv = .int .i64 d ∧ Hid (wr.ownsRow V 104 2 sv (d * S) (flatV spV (spTree first S (ns.take d)))) ∧ Hid (Below V w2 wr)) (fun _ iv _ _ => ns.length - (intOf iv).toNat)
  case atStart => exact ⟨0, by omega, rfl, Lib.hid (by have := World.ownsRow_nil w2 V 104 2; simpa [spTree, flatV] using this), HBR⟩
  case round =>
    obtain ⟨d, hd, rfl, HO, HB⟩ := hrel
    by_cases hdn : d < ns.length
    · have i0' : (0 : Int) ≤ (d : Int) := by omega
      have i1' : (d : Int) < (ns.length : Int) := by omega
      have hdd : decide ((d : Int) < (ns.length : Int)) = true := decide_eq_true i1'
      have hdd' : decide (d < ns.length) = true := decide_eq_true hdn
      have HL1 := HLEN.out (d + 1) hdn
      rw [Nat.add_mul, Nat.one_mul] at HL1
      have hnb := HPB.out _ (List.getElem_mem hdn)
      have hcl : ∃ b off, pa = some ⟨b, off, none⟩ ∧ b < V ∧ w2.cell? ⟨b, off + d, none⟩ = some (.int .i64 ns[d]) := by
        rcases HP2.out with ⟨h0, -⟩ | ⟨-, b, off, cp, hv, -, -, hlt, hce⟩
        · have : ns = [] := by have := congrArg List.length h0; rw [ints_len] at this; exact List.length_eq_zero_iff.1 this
          rw [this] at hdn
          simp at hdn
        · simp only [Value.slice.injEq] at hv
          obtain ⟨rfl, -, -⟩ := hv
          refine ⟨b, off, rfl, by have := HVE.out; omega, ?_⟩
          rw [hce d (by rw [ints_len]; exact hdn)]
          simp [ints]
      obtain ⟨b, off, rfl, hbV, cn2⟩ := hcl
      have HTK : Hid (spTree first S (ns.take (d + 1)) = spTree first S (ns.take d) ++ spRow first S ns[d] S) := Lib.hid (by
        rw [List.take_succ_eq_append_getElem hdn, spTree_snoc, Int.toNat_natCast])
      have c1 : wr.cell? ⟨B, 1, none⟩ = some (.int .i64 (S : Int)) := (HK2.out.below HB.out HBV.out.2).cell 1
      generalize ns[d] = nd at *
      have HCC : Hid (∀ w', Below V w2 w' → w'.cell? ⟨B, 1, none⟩ = some (.int .i64 (S : Int)) ∧ w'.cell? ⟨b, off + d, none⟩ = some (.int .i64 nd)) := Lib.hid fun w' h => ⟨(HK2.out.below h HBV.out.2).cell 1, (h.cell (p := ⟨b, off + d, none⟩) hbV).trans cn2⟩
      clear cn2
      obtain ⟨wy, hwy⟩ : ∃ wy : World, wy = wr := ⟨_, rfl⟩
      have HO1 : Hid (wy.ownsRow V 104 2 u7 (d * S) (flatV spV (spTree first S (ns.take d)))) := Lib.hid (by rw [hwy]; exact HO.out)
      have HB1 : Hid (Below V w2 wy) := Lib.hid (by rw [hwy]; exact HB.out)
      have HWY := Lib.hid hwy
      clear hwy HO HB
      go_wp2_with fail
      go_loopw [7, 10] (fun sv iv wr => ∃ k : Nat, k ≤ S ∧ iv = .int .i64 k ∧ Hid (wr.ownsRow V 104 2 sv (d * S + k) (flatV spV (spTree first S (ns.take d) ++ spRow first S nd k))) ∧ Hid (Below V w2 wr)) (fun _ iv _ => S - (intOf iv).toNat)
      case atStart => exact ⟨0, by omega, rfl, Lib.hid (by rw [← HWY.out]; have := HO1.out; simpa [spRow] using this), Lib.hid (by rw [← HWY.out]; exact HB1.out)⟩
      case round =>
        obtain ⟨k, hk, rfl, HO, HB⟩ := hrel
        by_cases hkn : k < S
        · have j0' : (0 : Int) ≤ (k : Int) := by omega
          have j1' : (k : Int) < (S : Int) := by omega
          have hkd : decide ((k : Int) < (S : Int)) = true := decide_eq_true j1'
          have hkd' : decide (k < S) = true := decide_eq_true hkn
          have c1 : wr.cell? ⟨B, 1, none⟩ = some (.int .i64 (S : Int)) := (HK2.out.below HB.out HBV.out.2).cell 1
          have HTS : Hid (flatV spV (spTree first S (ns.take d) ++ spRow first S nd (k + 1)) = flatV spV (spTree first S (ns.take d) ++ spRow first S nd k) ++ [.int .i64 first, .int .i64 (nd * S + k)]) := Lib.hid (by
            rw [spRow_succ, ← List.append_assoc, flatV_snoc]; rfl)
          have hmul : 0 ≤ nd * (S : Int) ∧ nd * (S : Int) ≤ 2046 * 8 := ⟨Int.mul_nonneg (by omega) (by omega), Int.mul_le_mul (by omega) (by omega) (by omega) (by omega)⟩
          have HSZ : Hid (V ≤ wr.heap.size) := Lib.hid (by have := HVE.out; have := HB.out.size; omega)
          have HLN : Hid ((flatV spV (spTree first S (ns.take d) ++ spRow first S nd k)).length = (d * S + k) * 2) := Lib.hid (by
            rw [flatV_len spV_k, List.length_append, spTree_len, spRow_len, List.length_take, Int.toNat_natCast, Nat.min_eq_left (by omega)])
          have hdk : d * S + k ≤ 88 := by omega
          obtain ⟨m, hm⟩ : ∃ m, d * S + k = m := ⟨_, rfl⟩
          rw [hm] at HO HLN hdk
          have HM := Lib.hid hm
          have wm : IntKind.i64.wrap (nd * (S : Int)) = nd * S := by rw [IntKind.wrap_i64]; omega
          have wm2 : IntKind.i64.wrap (nd * (S : Int) + k) = nd * S + k := by rw [IntKind.wrap_i64]; omega
          have hb0 := HB.out.drew
          have hc0 := HCC.out _ hb0
          have HO0 := Lib.hid (ownsRow_below HO.out ((Below.refl _ _).drew))
          clear hm
          go_upto_region 9 with fail
          go_region_held3 (fun w' => w'.cell? ⟨B, 1, none⟩ = some (.int .i64 (S : Int)) ∧ w'.cell? ⟨b, off + d, none⟩ = some (.int .i64 nd)) (first | exact HCC.out _ (by assumption) | exact HCC.out _ (hb0.alloc (by have := HSZ.out; simpa using this) _)) (first
            | (go_loud (refine step_append_own_at rfl (.tmp 28) (.tmp 40) 101 rfl V 104 i0 (.agg #[.int .i64 0, .int .i64 0]) 2 16 Tryz.underlying101 HI.out HZ.out HS.out HY.out rfl (by decide) _ m _ rfl (HO0.out.alloc _) ⟨wr.drew.heap.size, 0, none⟩ 1 1 [.int .i64 first, .int .i64 (nd * S + k)] rfl rfl (cells_litD _ _ _) (by simp [Value.oneCell']) (by unfold maxLen; omega) (by omega) (by have := HSZ.out; simp; omega) ?_); intro v' w10 hown hgrow _; have hb4 : Below V w2 w10 := (hb0.alloc (by have := HSZ.out; simpa using this) _).grown hgrow (by have := HSZ.out; simp; omega) (fun j hj => (HO.out.lt j hj).1)))
          all_goals
            have HO10 : Hid (w10.ownsRow V 104 2 v' (m + 1) (flatV spV (spTree first S (ns.take d) ++ spRow first S nd (k + 1)))) := Lib.hid (by rw [HTS.out]; exact hown)
            have HB10 := Lib.hid hb4
            clear hown hgrow hb4 hc0 hb0
            go_wp2
            go_roundw
            case rel => exact ⟨k + 1, by omega, by go_num, by rw [show d * S + (k + 1) = m + 1 by have := HM.out; omega]; exact HO10, HB10⟩
            case measure => simp [intOf]; omega
        · obtain rfl : k = S := by omega
          have hkd : decide ((k : Int) < (k : Int)) = false := by simp
          have c1 : wr.cell? ⟨B, 1, none⟩ = some (.int .i64 (k : Int)) := (HK2.out.below HB.out HBV.out.2).cell 1
          have HO2 : Hid (wr.ownsRow V 104 2 u7 ((d + 1) * k) (flatV spV (spTree first k (ns.take (d + 1))))) := Lib.hid (by
            rw [HTK.out, Nat.add_mul, Nat.one_mul]; exact HO.out)
          go_wp2
          go_roundw
          case rel => exact ⟨d + 1, by omega, by go_num, HO2, HB⟩
          case measure => simp [intOf]; omega
    · obtain rfl : d = ns.length := by omega
      have hdd : decide ((ns.length : Int) < (ns.length : Int)) = false := by simp
      rw [List.take_length] at HO
      have hmS := HLEN.out ns.length (Nat.le_refl _)
      obtain ⟨m0, hm0⟩ : ∃ m0, ns.length * S = m0 := ⟨_, rfl⟩
      rw [hm0] at HO hmS
      have HM0 := Lib.hid hm0
      obtain ⟨TL, hTL⟩ : ∃ TL, spTree first S ns = TL := ⟨_, rfl⟩
      rw [hTL] at HO
      have HTLE := Lib.hid hTL
      have HTLL : Hid (TL.length = m0) := Lib.hid (by rw [← hTL, spTree_len, Int.toNat_natCast]; exact hm0)
      obtain ⟨wy, hwy⟩ : ∃ wy : World, wy = wr := ⟨_, rfl⟩
      have HO1 : Hid (wy.ownsRow V 104 2 u7 m0 (flatV spV TL)) := Lib.hid (by rw [hwy]; exact HO.out)
      have HB1 : Hid (Below V w2 wy) := Lib.hid (by rw [hwy]; exact HB.out)
      have HWY := Lib.hid hwy
      clear hwy HO HB hm0 hTL
      go_wp2_with fail
      go_loopw [7, 11] (fun sv iv wr => ∃ k : Nat, k ≤ T ∧ iv = .int .i64 k ∧ Hid (wr.ownsRow V 104 2 sv (m0 + k) (flatV spV (TL ++ spStG f1 k))) ∧ Hid (Below V w2 wr)) (fun _ iv _ => T - (intOf iv).toNat)
      case atStart => exact ⟨0, by omega, rfl, Lib.hid (by rw [← HWY.out]; have := HO1.out; simpa [spStG] using this), Lib.hid (by rw [← HWY.out]; exact HB1.out)⟩
      case round =>
        obtain ⟨k, hk, rfl, HO, HB⟩ := hrel
        have c2 : wr.cell? ⟨B, 2, none⟩ = some (.int .i64 (T : Int)) := (HK2.out.below HB.out HBV.out.2).cell 2
        by_cases hkn : k < T
        · have j0' : (0 : Int) ≤ (k : Int) := by omega
          have j1' : (k : Int) < (T : Int) := by omega
          have hkd : decide ((k : Int) < (T : Int)) = true := decide_eq_true j1'
          have hkd' : decide (k < T) = true := decide_eq_true hkn
          have HTS : Hid (flatV spV (TL ++ spStG f1 (k + 1)) = flatV spV (TL ++ spStG f1 k) ++ [.int .i64 f1, .int .i64 k]) := Lib.hid (by
            rw [spStG_succ, ← List.append_assoc, flatV_snoc]; rfl)
          have HSZ : Hid (V ≤ wr.heap.size) := Lib.hid (by have := HVE.out; have := HB.out.size; omega)
          have HLN : Hid ((flatV spV (TL ++ spStG f1 k)).length = (m0 + k) * 2) := Lib.hid (by
            rw [flatV_len spV_k, List.length_append, spStG_len, HTLL.out])
          have hdk : m0 + k ≤ 152 := by omega
          obtain ⟨m, hm⟩ : ∃ m, m0 + k = m := ⟨_, rfl⟩
          rw [hm] at HO HLN hdk
          have HM := Lib.hid hm
          clear hm
          go_wp2_with (first
            | (at_builtin; go_loud (refine wpList_append_own_at _ rfl (.tmp 48) (.tmp 53) 101 rfl V 104 i0 (.agg #[.int .i64 0, .int .i64 0]) 2 16 Tryz.underlying101 HI.out HZ.out HS.out HY.out rfl (by decide) _ m _ rfl (HO.out.alloc _) ⟨wr.heap.size, 0, none⟩ 1 1 [.int .i64 f1, .int .i64 k] rfl rfl (cells_litD _ _ _) (by simp [Value.oneCell']) (by unfold maxLen; omega) (by omega) (by have := HSZ.out; simp; omega) ?_))
            | fail)
          intro v' w10 hown hgrow _ _
          have HO10 : Hid (w10.ownsRow V 104 2 v' (m + 1) (flatV spV (TL ++ spStG f1 (k + 1)))) := Lib.hid (by rw [HTS.out]; exact hown)
          have HB10 : Hid (Below V w2 w10) := Lib.hid ((HB.out.alloc HSZ.out _).grown hgrow (by have := HSZ.out; simp; omega) (fun kk hkk => (HO.out.lt kk hkk).1))
          clear hown hgrow
          go_wp2
          go_roundw
          case rel => exact ⟨k + 1, by omega, by go_num, by rw [show m0 + (k + 1) = m + 1 by have := HM.out; omega]; exact HO10, HB10⟩
          case measure => simp [intOf]; omega
        · obtain rfl : k = T := by omega
          have hkd : decide ((k : Int) < (k : Int)) = false := by simp
          go_wp2
          go_ret
          refine ⟨_, rfl, ?_, HB2.out.trans ((by have := HVE.out; have h := HB.out; rw [← this] at h; exact h : Below w2.heap.size w2 wr).mono HB2.out.size)⟩
          have e : (spTree first (S : Int) ns ++ spStG f1 k).length = m0 + k := by
            rw [HTLE.out, List.length_append, spStG_len, HTLL.out]
          rw [Int.toNat_natCast, e, HTLE.out]
          exact own_baseL HO.out HBV.out.1
end Go.Proofs.YthchfdobdghdoaaGreat
end
section
/-
  The walk of a level's spots, whatever the regions are (f1 is the one behind the first).
-/
namespace Go.Sg
open Go Go.RowKit
theorem spG_len {first f1 : Int} {c : Lc} {lf : Int} (h : lcRight c = true) (ht : hasB c.1 lf = true) : ((spG first f1 c lf).length : Int) + 1 = placesD (lcSh c) := by
  have e : (spG first f1 c lf).length = (spL first c lf).length := by unfold spG spL; simp [spStG_len, spSt_len]
  rw [e]
  exact spL_len h ht
end Go.Sg
namespace Go.Proofs.YthchfdobdghdoaaGreat
open Go Go.RowKit Go.Sg
set_option maxHeartbeats 4000000 in
set_option maxRecDepth 100000 in
theorem spotsG_any (c : Lc) (hc : LcOk c) (hr : lcRight c = true) (first f1 lf : Int) (wf1 : IntKind.i64.wrap (first + 1) = f1) (ht : hasB c.1 lf = true) (w : World) :
    Calls Tryz.prog 47 #[.agg #[.int .i64 c.1, .int .i64 c.2.1, .int .i64 c.2.2], .int .i64 first, .int .i64 lf] w fun e w' => ∃ v, e = .returned v ∧ w'.ownsRow w.heap.size 99 2 v (spG first f1 c lf).length (flatV spV (spG first f1 c lf)) ∧ Below w.heap.size w w' := by
  have KP := Lib.hid (fun w' => pathPathN_any c.1 lf hc.1 w')
  have hb := lcRight_bd hr
  have hpl := pathL_len ht
  have hpb := pathL_bd ht
  have hsl : spG first f1 c lf = spTree first c.2.1 (pathL c.1 lf) ++ spStG f1 c.2.2.toNat := rfl
  rw [hsl]
  clear hsl hr ht
  generalize pathL c.1 lf = ns at *
  have hnl : ns.length ≤ 11 := by omega
  obtain ⟨L, S, T⟩ := c
  simp only at *
  obtain ⟨S, rfl⟩ : ∃ s : Nat, S = s := ⟨S.toNat, by omega⟩
  obtain ⟨T, rfl⟩ : ∃ t : Nat, T = t := ⟨T.toNat, by omega⟩
  have hS : 1 ≤ S ∧ S ≤ 8 := by omega
  have hT : 1 ≤ T ∧ T ≤ 64 := by omega
  have hlen : ∀ d, d ≤ ns.length → d * S ≤ 88 := fun d hd => by
    have := Nat.mul_le_mul (show d ≤ 11 by omega) hS.2
    omega
  have HLEN := Lib.hid hlen
  have HPB := Lib.hid hpb
  obtain ⟨i0, hi0, hz0, hz1, hz2⟩ := info_parts info_spot
  have HI := Lib.hid hi0
  have HZ := Lib.hid hz0
  have HS := Lib.hid hz1
  have HY := Lib.hid hz2
  obtain ⟨B, hB⟩ : ∃ B, w.heap.size = B := ⟨_, rfl⟩
  have HBE := Lib.hid hB
  have HB1 : Hid (Below w.heap.size w (w.alloc (.cells #[.int .i64 L, .int .i64 S, .int .i64 T] 23))) := Lib.hid ((Below.refl _ _).alloc (Nat.le_refl _) _)
  have HK1 : Hid (Blk (w.alloc (.cells #[.int .i64 L, .int .i64 S, .int .i64 T] 23)) B #[.int .i64 L, .int .i64 S, .int .i64 T] 23) := Lib.hid (by rw [← hB]; exact Blk.new w _ _)
  clear hi0 hz0 hz1 hz2 hb hpl hpb hlen hc
  go_enter Tryz.func47, Tryz.ntmps47
  go_wp2_with fail
  refine (KP.out _).mono ?_
  rintro e w2 ⟨pv, rfl, hp, hb2, hpo⟩
  obtain ⟨pa, pcap, rfl⟩ := hp.len
  rw [ints_len]
  have HB2 : Hid (Below w.heap.size w w2) := Lib.hid (HB1.out.trans (hb2.mono HB1.out.size))
  have HK2 := Lib.hid (HK1.out.below hb2 HK1.out.lt)
  have HP2 := Lib.hid hp
  clear hb2 hp hpo KP HB1 HK1 hB
  obtain ⟨V, hV⟩ : ∃ V, w2.heap.size = V := ⟨_, rfl⟩
  have HVE := Lib.hid hV
  have HBV : Hid (w.heap.size ≤ V ∧ B < V) := Lib.hid ⟨by have := HB2.out.size; omega, by have := HK2.out.lt; omega⟩
  have HBR : Hid (Below V w2 w2) := Lib.hid (Below.refl _ _)
  have HPV : Hid (∀ b off cp, Value.slice pa ns.length pcap = .slice (some ⟨b, off, none⟩) ns.length cp → b < w2.heap.size → b < V) := Lib.hid (fun b off cp _ h => by omega)
  clear hV
  go_wp2_with fail
  go_loopw [7, 9, 10, 17, 23] (fun sv _ _ iv _ wr => ∃ d : Nat, d ≤ ns.length ∧ iv = .int .i64 d ∧ Hid (wr.ownsRow V 99 2 sv (d * S) (flatV spV (spTree first S (ns.take d)))) ∧ Hid (Below V w2 wr)) (fun _ _ _ iv _ _ => ns.length - (intOf iv).toNat)
  case atStart => exact ⟨0, by omega, rfl, Lib.hid (by have := World.ownsRow_nil w2 V 99 2; simpa [spTree, flatV] using this), HBR⟩
  case round =>
    obtain ⟨d, hd, rfl, HO, HB⟩ := hrel
    by_cases hdn : d < ns.length
    · have i0' : (0 : Int) ≤ (d : Int) := by omega
      have i1' : (d : Int) < (ns.length : Int) := by omega
      have hdd : decide ((d : Int) < (ns.length : Int)) = true := decide_eq_true i1'
      have hdd' : decide (d < ns.length) = true := decide_eq_true hdn
      have HL1 := HLEN.out (d + 1) hdn
      rw [Nat.add_mul, Nat.one_mul] at HL1
      have hnb := HPB.out _ (List.getElem_mem hdn)
      have hcl : ∃ b off, pa = some ⟨b, off, none⟩ ∧ wr.cell? ⟨b, off + d, none⟩ = some (.int .i64 ns[d]) := by
        rcases HP2.out with ⟨h0, -⟩ | ⟨-, b, off, cp, hv, -, -, hlt, hce⟩
        · have : ns = [] := by have := congrArg List.length h0; rw [ints_len] at this; exact List.length_eq_zero_iff.1 this
          rw [this] at hdn
          simp at hdn
        · simp only [Value.slice.injEq] at hv
          obtain ⟨rfl, -, -⟩ := hv
          refine ⟨b, off, rfl, (HB.out.cell (p := ⟨b, off + d, none⟩) (show b < V by have := HVE.out; omega)).trans ?_⟩
          rw [hce d (by rw [ints_len]; exact hdn)]
          simp [ints]
      obtain ⟨b, off, rfl, cn⟩ := hcl
      have HTK : Hid (spTree first S (ns.take (d + 1)) = spTree first S (ns.take d) ++ spRow first S ns[d] S) := Lib.hid (by
        rw [List.take_succ_eq_append_getElem hdn, spTree_snoc, Int.toNat_natCast])
      have c1 : wr.cell? ⟨B, 1, none⟩ = some (.int .i64 (S : Int)) := (HK2.out.below HB.out HBV.out.2).cell 1
      generalize ns[d] = nd at *
      obtain ⟨wy, hwy⟩ : ∃ wy : World, wy = wr := ⟨_, rfl⟩
      have HO1 : Hid (wy.ownsRow V 99 2 u7 (d * S) (flatV spV (spTree first S (ns.take d)))) := Lib.hid (by rw [hwy]; exact HO.out)
      have HB1 : Hid (Below V w2 wy) := Lib.hid (by rw [hwy]; exact HB.out)
      have HWY := Lib.hid hwy
      clear hwy HO HB
      go_wp2_with fail
      go_loopw [7, 10, 23] (fun sv _ iv wr => ∃ k : Nat, k ≤ S ∧ iv = .int .i64 k ∧ Hid (wr.ownsRow V 99 2 sv (d * S + k) (flatV spV (spTree first S (ns.take d) ++ spRow first S nd k))) ∧ Hid (Below V w2 wr)) (fun _ _ iv _ => S - (intOf iv).toNat)
      case atStart => exact ⟨0, by omega, rfl, Lib.hid (by rw [← HWY.out]; have := HO1.out; simpa [spRow] using this), Lib.hid (by rw [← HWY.out]; exact HB1.out)⟩
      case round =>
        obtain ⟨k, hk, rfl, HO, HB⟩ := hrel
        by_cases hkn : k < S
        · have j0' : (0 : Int) ≤ (k : Int) := by omega
          have j1' : (k : Int) < (S : Int) := by omega
          have hkd : decide ((k : Int) < (S : Int)) = true := decide_eq_true j1'
          have hkd' : decide (k < S) = true := decide_eq_true hkn
          have c1 : wr.cell? ⟨B, 1, none⟩ = some (.int .i64 (S : Int)) := (HK2.out.below HB.out HBV.out.2).cell 1
          have HTS : Hid (flatV spV (spTree first S (ns.take d) ++ spRow first S nd (k + 1)) = flatV spV (spTree first S (ns.take d) ++ spRow first S nd k) ++ [.int .i64 first, .int .i64 (nd * S + k)]) := Lib.hid (by
            rw [spRow_succ, ← List.append_assoc, flatV_snoc]; rfl)
          have hmul : 0 ≤ nd * (S : Int) ∧ nd * (S : Int) ≤ 2046 * 8 := ⟨Int.mul_nonneg (by omega) (by omega), Int.mul_le_mul (by omega) (by omega) (by omega) (by omega)⟩
          have HSZ : Hid (V ≤ wr.heap.size) := Lib.hid (by have := HVE.out; have := HB.out.size; omega)
          have HLN : Hid ((flatV spV (spTree first S (ns.take d) ++ spRow first S nd k)).length = (d * S + k) * 2) := Lib.hid (by
            rw [flatV_len spV_k, List.length_append, spTree_len, spRow_len, List.length_take, Int.toNat_natCast, Nat.min_eq_left (by omega)])
          have hdk : d * S + k ≤ 88 := by omega
          obtain ⟨m, hm⟩ : ∃ m, d * S + k = m := ⟨_, rfl⟩
          rw [hm] at HO HLN hdk
          have HM := Lib.hid hm
          clear hm
          go_wp2_with (first
            | (at_builtin; go_loud (refine wpList_append_own_at _ rfl (.tmp 26) (.tmp 35) 96 rfl V 99 i0 (.agg #[.int .i64 0, .int .i64 0]) 2 16 Tryz.underlying96 HI.out HZ.out HS.out HY.out rfl (by decide) _ m _ rfl (HO.out.alloc _) ⟨wr.heap.size, 0, none⟩ 1 1 [.int .i64 first, .int .i64 (nd * S + k)] rfl rfl (cells_litD _ _ _) (by simp [Value.oneCell']) (by unfold maxLen; omega) (by omega) (by have := HSZ.out; simp; omega) ?_))
            | fail)
          intro v' w10 hown hgrow _ _
          have HO10 : Hid (w10.ownsRow V 99 2 v' (m + 1) (flatV spV (spTree first S (ns.take d) ++ spRow first S nd (k + 1)))) := Lib.hid (by rw [HTS.out]; exact hown)
          have HB10 : Hid (Below V w2 w10) := Lib.hid ((HB.out.alloc HSZ.out _).grown hgrow (by have := HSZ.out; simp; omega) (fun kk hkk => (HO.out.lt kk hkk).1))
          clear hown hgrow
          go_wp2
          go_roundw
          case rel => exact ⟨k + 1, by omega, by go_num, by rw [show d * S + (k + 1) = m + 1 by have := HM.out; omega]; exact HO10, HB10⟩
          case measure => simp [intOf]; omega
        · obtain rfl : k = S := by omega
          have hkd : decide ((k : Int) < (k : Int)) = false := by simp
          have HO2 : Hid (wr.ownsRow V 99 2 u7 ((d + 1) * k) (flatV spV (spTree first k (ns.take (d + 1))))) := Lib.hid (by
            rw [HTK.out, Nat.add_mul, Nat.one_mul]; exact HO.out)
          go_wp2
          go_roundw
          case rel => exact ⟨d + 1, by omega, by go_num, HO2, HB⟩
          case measure => simp [intOf]; omega
    · obtain rfl : d = ns.length := by omega
      have hdd : decide ((ns.length : Int) < (ns.length : Int)) = false := by simp
      rw [List.take_length] at HO
      have c2 : wr.cell? ⟨B, 2, none⟩ = some (.int .i64 (T : Int)) := (HK2.out.below HB.out HBV.out.2).cell 2
      have hmS := HLEN.out ns.length (Nat.le_refl _)
      obtain ⟨m0, hm0⟩ : ∃ m0, ns.length * S = m0 := ⟨_, rfl⟩
      rw [hm0] at HO hmS
      have HM0 := Lib.hid hm0
      obtain ⟨TL, hTL⟩ : ∃ TL, spTree first S ns = TL := ⟨_, rfl⟩
      rw [hTL] at HO
      have HTLE := Lib.hid hTL
      have HTLL : Hid (TL.length = m0) := Lib.hid (by rw [← hTL, spTree_len, Int.toNat_natCast]; exact hm0)
      obtain ⟨wy, hwy⟩ : ∃ wy : World, wy = wr := ⟨_, rfl⟩
      have HO1 : Hid (wy.ownsRow V 99 2 u7 m0 (flatV spV TL)) := Lib.hid (by rw [hwy]; exact HO.out)
      have HB1 : Hid (Below V w2 wy) := Lib.hid (by rw [hwy]; exact HB.out)
      have HWY := Lib.hid hwy
      clear hwy HO HB hm0 hTL
      go_wp2_with fail
      go_loopw [7, 11, 41] (fun sv _ iv wr => ∃ k : Nat, k ≤ T ∧ iv = .int .i64 k ∧ Hid (wr.ownsRow V 99 2 sv (m0 + k) (flatV spV (TL ++ spStG f1 k))) ∧ Hid (Below V w2 wr)) (fun _ _ iv _ => T - (intOf iv).toNat)
      case atStart => exact ⟨0, by omega, rfl, Lib.hid (by rw [← HWY.out]; have := HO1.out; simpa [spStG] using this), Lib.hid (by rw [← HWY.out]; exact HB1.out)⟩
      case round =>
        obtain ⟨k, hk, rfl, HO, HB⟩ := hrel
        by_cases hkn : k < T
        · have j0' : (0 : Int) ≤ (k : Int) := by omega
          have j1' : (k : Int) < (T : Int) := by omega
          have hkd : decide ((k : Int) < (T : Int)) = true := decide_eq_true j1'
          have hkd' : decide (k < T) = true := decide_eq_true hkn
          have HTS : Hid (flatV spV (TL ++ spStG f1 (k + 1)) = flatV spV (TL ++ spStG f1 k) ++ [.int .i64 f1, .int .i64 k]) := Lib.hid (by
            rw [spStG_succ, ← List.append_assoc, flatV_snoc]; rfl)
          have HSZ : Hid (V ≤ wr.heap.size) := Lib.hid (by have := HVE.out; have := HB.out.size; omega)
          have HLN : Hid ((flatV spV (TL ++ spStG f1 k)).length = (m0 + k) * 2) := Lib.hid (by
            rw [flatV_len spV_k, List.length_append, spStG_len, HTLL.out])
          have hdk : m0 + k ≤ 152 := by omega
          obtain ⟨m, hm⟩ : ∃ m, m0 + k = m := ⟨_, rfl⟩
          rw [hm] at HO HLN hdk
          have HM := Lib.hid hm
          clear hm
          go_wp2_with (first
            | (at_builtin; go_loud (refine wpList_append_own_at _ rfl (.tmp 44) (.tmp 49) 96 rfl V 99 i0 (.agg #[.int .i64 0, .int .i64 0]) 2 16 Tryz.underlying96 HI.out HZ.out HS.out HY.out rfl (by decide) _ m _ rfl (HO.out.alloc _) ⟨wr.heap.size, 0, none⟩ 1 1 [.int .i64 f1, .int .i64 k] rfl rfl (cells_litD _ _ _) (by simp [Value.oneCell']) (by unfold maxLen; omega) (by omega) (by have := HSZ.out; simp; omega) ?_))
            | fail)
          intro v' w10 hown hgrow _ _
          have HO10 : Hid (w10.ownsRow V 99 2 v' (m + 1) (flatV spV (TL ++ spStG f1 (k + 1)))) := Lib.hid (by rw [HTS.out]; exact hown)
          have HB10 : Hid (Below V w2 w10) := Lib.hid ((HB.out.alloc HSZ.out _).grown hgrow (by have := HSZ.out; simp; omega) (fun kk hkk => (HO.out.lt kk hkk).1))
          clear hown hgrow
          go_wp2
          go_roundw
          case rel => exact ⟨k + 1, by omega, by go_num, by rw [show m0 + (k + 1) = m + 1 by have := HM.out; omega]; exact HO10, HB10⟩
          case measure => simp [intOf]; omega
        · obtain rfl : k = T := by omega
          have hkd : decide ((k : Int) < (k : Int)) = false := by simp
          go_wp2
          go_ret
          refine ⟨_, rfl, ?_, HB2.out.trans ((by have := HVE.out; have h := HB.out; rw [← this] at h; exact h : Below w2.heap.size w2 wr).mono HB2.out.size)⟩
          have e : (spTree first (S : Int) ns ++ spStG f1 k).length = m0 + k := by
            rw [HTLE.out, List.length_append, spStG_len, HTLL.out]
          rw [Int.toNat_natCast, e, HTLE.out]
          exact own_baseL HO.out HBV.out.1
end Go.Proofs.YthchfdobdghdoaaGreat
end
