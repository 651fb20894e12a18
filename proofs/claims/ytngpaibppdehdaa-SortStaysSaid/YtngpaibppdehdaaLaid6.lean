/-
  The walk of shellgamelaw6.laid.
-/
import Derived.Test.YtngpaibppdehdaaLaidL
import Derived.Test.YtngpaibppdehdaaOneR
import Derived.Test.YtngpaibppdehdaaCellFn6
import Derived.Test.YtngpaibppdehdaaRef5
import Derived.Test.YtngpaibppdehdaaRowB
namespace Go.Proofs.Ytngpaibppdehdaa
open Go Go.RowKit Go.Sg

theorem info_int6 : (Try.prog.info? 3).map (fun i => (i.zero, i.size, i.bytes)) = some (some (.int .i64 0), 1, 8) := by kernel_rfl
theorem ints_one6 (xs : List Int) : ∀ u ∈ ints xs, u.oneCell' = true := by
  intro u hu; obtain ⟨_, _, rfl⟩ := List.mem_map.1 hu; rfl

set_option maxHeartbeats 4000000 in
set_option maxRecDepth 100000 in
theorem laid6_any (r c : Nat) (hr : 1 ≤ r) (hr2 : r ≤ 16) (hc : 1 ≤ c) (hc2 : c ≤ 4096) (v : Value) (zs : List Int) (hw : ∀ x ∈ zs, Word x) (w : World) (hv : Sl1 w v (zs.map (Value.int .u64))) :
    Calls Try.prog 58 #[.int .i64 r, .int .i64 c, v] w fun e w' => ∃ p q, e = .returned (.tuple #[.pointer (some ⟨p, 0, none⟩), .pointer (some ⟨q, 0, none⟩)]) ∧ PairX 108 60 w w' p q (laidM r c zs) (laidM r c zs) (fun _ => False) (fun _ => True) := by
  have HV := Lib.hid hv
  obtain ⟨va, vc, rfl⟩ : ∃ a c, v = .slice a zs.length c := by have := hv.len; rwa [List.length_map] at this
  have hmx := hv.len_le
  rw [List.length_map] at hmx
  unfold maxLen at hmx
  obtain ⟨i0, hi0, hz0, hz1, hz2⟩ := info_parts info_int6
  have HI := Lib.hid hi0
  have HZ := Lib.hid hz0
  have HS := Lib.hid hz1
  have HY := Lib.hid hz2
  clear hi0 hz0 hz1 hz2 hv
  go_enter Try.func58, Try.ntmps58
  go_wp2_with fail
  go_loopw [8, 9] (fun sv i wr => ∃ k : Nat, k ≤ r ∧ i = .int .i64 k ∧ Hid (wr.ownsRow w.heap.size 3 1 sv k (ints (List.replicate k (c : Int)))) ∧ Hid (Below w.heap.size w wr)) (fun _ i _ => r - (intOf i).toNat)
  case atStart => exact ⟨0, by omega, rfl, Lib.hid (World.ownsRow_nil _ _ _ _), Lib.hid (Below.refl _ _)⟩
  case round =>
    obtain ⟨k, hk, rfl, HO, HB⟩ := hrel
    by_cases hlt : k < r
    · go_wp2_with (first
        | (at_builtin; go_loud (refine wpList_append_own_at _ rfl (.tmp 20) (.tmp 22) 32 rfl w.heap.size 3 i0 (.int .i64 0) 1 8 Try.underlying32 HI.out HZ.out HS.out HY.out rfl (by decide) _ k (ints (List.replicate k (c : Int))) rfl (HO.out.alloc _) ⟨wr.heap.size, 0, none⟩ 1 1 [.int .i64 (c : Int)] rfl rfl (cells_new wr [.int .i64 (c : Int)] _) (by simp [Value.oneCell']) (by unfold maxLen; omega) (by omega) (by have := HB.out.size; simp; omega) ?_))
        | fail)
      intro v' w4 hown hgrow _ _
      have HO4 := Lib.hid hown
      have HB4 : Hid (Below w.heap.size w w4) := Lib.hid ((HB.out.alloc HB.out.size _).grown hgrow (by have := HB.out.size; simp; omega) (fun j hj => (HO.out.lt j hj).1))
      clear hown hgrow
      go_wp2
      go_roundw
      case rel => exact ⟨k + 1, by omega, by go_num, Lib.hid (by rw [List.replicate_succ', ints, List.map_append]; exact HO4.out), HB4⟩
      case measure => simp [intOf]; omega
    · obtain rfl : k = r := by omega
      obtain ⟨sa, sc, rfl⟩ := owns_slice HO.out
      have HS1 : Hid (Sl1 wr (.slice sa k sc) (ints (List.replicate k (c : Int)))) := Lib.hid (Sl1.of_owns HO.out)
      have HV1 := Lib.hid (HV.out.below HB.out)
      have HOK := Lib.hid (laid_ok hr hr2 hc hc2)
      go_wp2_with fail
      refine (memNew_any _ _ _ HS1.out).mono ?_
      rintro e w2 ⟨hb2, hret⟩
      rcases hret with ⟨h0, _⟩ | ⟨_, p, F, rfl, hm, hF⟩
      · rw [HOK.out] at h0; cases h0
      have HB2 := Lib.hid hb2
      have HS2 := Lib.hid (HS1.out.below hb2)
      have HV2 := Lib.hid (HV1.out.below hb2)
      have HM := Lib.hid hm
      have HF := Lib.hid hF
      clear hb2 hm hF
      go_wp2_with fail
      refine (ref3New_any _ _ _ HS2.out).mono ?_
      rintro e w3 ⟨hb3, hret⟩
      rcases hret with ⟨h0, _⟩ | ⟨_, q, G, rfl, hm, hG⟩
      · rw [HOK.out] at h0; cases h0
      have HP := Lib.hid (PairX.of_two (two_new HB.out HM.out HF.out HB2.out hm hG hb3))
      have HV3 := Lib.hid (HV2.out.below hb3)
      clear hb3 hm hG HM HF HB2 HS1 HS2 HV1 HV2 HB HO
      go_wp2_with fail
      go_loopw [14] (fun i wr => ∃ j : Nat, j ≤ c ∧ j ≤ zs.length ∧ i = .int .i64 j ∧ Hid (PairX 108 60 w wr p q (laidK k c zs j) (laidK k c zs j) (fun _ => False) (fun _ => True))) (fun i _ => zs.length - (intOf i).toNat)
      case atStart => exact ⟨0, by omega, by omega, rfl, HP⟩
      case round =>
        obtain ⟨j, hj, hj2, rfl, HPk⟩ := hrel
        by_cases hgo : j < zs.length ∧ j < c
        · obtain ⟨h1, h2⟩ := hgo
          obtain ⟨b, off, cap, hvv, hvlt, hvc⟩ := HV.out.at (fun e => by rw [e] at h1; cases h1)
          simp only [Value.slice.injEq, true_and] at hvv
          obtain ⟨rfl, rfl⟩ := hvv
          have cL : wr.cell? ⟨b, off + j, none⟩ = some (.int .u64 zs[j]) := (HPk.out.old.cell (p := ⟨b, off + j, none⟩) hvlt).trans (hvc j h1)
          have HST : Hid (laidK k c zs (j + 1) = (laidK k c zs j).write 0 (j : Int) (cellL zs[j])) := Lib.hid (by simp [laidK, h1])
          have HEV : Hid ((laidK k c zs j).evs.length ≤ 1099511627776) := Lib.hid (by rw [laidK_evs zs hr j hj]; simp; omega)
          clear hvc
          generalize zs[j] = x at *
          generalize laidK k c zs j = M at *
          go_wp2_with fail
          refine (cell6_any x _).mono ?_
          rintro e wA ⟨rfl, hbA⟩
          have HPA := Lib.hid (HPk.out.below keeps_true hbA)
          have cLA := (hbA.cell (p := ⟨b, off + j, none⟩) (Nat.lt_of_lt_of_le hvlt HPk.out.old.size)).trans cL
          clear hbA cL
          go_wp2_with fail
          refine (HPA.out.call (R := fun e => e = .returned (.tuple #[])) keeps_true fun D' X' hK' h' => one_write hK' 0 (j : Int) (cellL x) (cellL_len x) (cellL_words x) h' HEV.out).mono ?_
          rintro e wB ⟨rfl, hPB⟩
          have HPB := Lib.hid hPB
          have cLB : wB.cell? ⟨b, off + j, none⟩ = some (.int .u64 x) := (hPB.old.cell (p := ⟨b, off + j, none⟩) hvlt).trans ((HPA.out.old.cell (p := ⟨b, off + j, none⟩) hvlt).symm.trans cLA)
          clear hPB cLA
          go_wp2_with fail
          refine (cell6_any x _).mono ?_
          rintro e wC ⟨rfl, hbC⟩
          have HPC := Lib.hid (HPB.out.below keeps_true hbC)
          clear hbC cLB
          go_wp2_with fail
          refine (HPC.out.call2 (R := fun e => e = .returned (.tuple #[])) keeps_true fun D' X' hK' h' => one_rwrite hK' 0 (j : Int) (cellL x) (cellL_len x) (cellL_words x) h' HEV.out).mono ?_
          rintro e wD ⟨rfl, hPD⟩
          have HPD := Lib.hid hPD
          clear hPD HPA HPB HPC
          go_wp2
          go_roundw
          case rel => exact ⟨j + 1, by omega, by omega, by go_num, Lib.hid (by rw [HST.out]; exact HPD.out)⟩
          case measure => simp [intOf]; omega
        · have hjm : j = min zs.length c := by omega
          have HQ : Hid (PairX 108 60 w wr p q (laidM k c zs) (laidM k c zs) (fun _ => False) (fun _ => True)) := Lib.hid (by unfold laidM; rw [← hjm]; exact HPk.out)
          by_cases h1 : j < zs.length
          · go_wp2
            go_ret2
            exact ⟨p, q, rfl, HQ.out⟩
          · go_wp2
            go_ret2
            exact ⟨p, q, rfl, HQ.out⟩
end Go.Proofs.Ytngpaibppdehdaa
