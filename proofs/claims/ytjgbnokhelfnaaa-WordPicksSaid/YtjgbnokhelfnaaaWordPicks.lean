/-
  The walk of shellgamelaw1.WordPicks.
-/
import Derived.Test.YtjgbnokhelfnaaaLaw1
import Derived.Test.YtjgbnokhelfnaaaRefPick
import Derived.Test.YtjgbnokhelfnaaaCellFn1
import Derived.Test.YtjgbnokhelfnaaaCellEq
import Derived.Test.YtjgbnokhelfnaaaReg
namespace Go.Proofs.Ytjgbnokhelfnaaa
open Go.RowKit Go.Sg

theorem sw1_pk (m a b : Int) : sw1 m a b = pk m b a := by
  unfold sw1 pk
  rw [xr_comm a b]
theorem zip_sw1 (m : Int) (a b : List Int) (h : a.length = b.length) : List.zipWith (sw1 m) a b = List.zipWith (pk m) b a := by
  apply List.ext_getElem
  · simp [h]
  · intro i h1 h2
    simp [sw1_pk]

set_option maxHeartbeats 4000000 in
theorem WordPicks_walk (m a b : Int) (hm : Word m) (ha : Word a) (hb : Word b) (w : World) :
    Calls Try.prog 9 #[.int .u64 m, .int .u64 a, .int .u64 b] w fun e w' => e = .returned (.bool true) ∧ Below w.heap.size w w' := by
  have KS := Lib.hid (fun w => swap_any m a b hm ha hb w)
  obtain ⟨c, d, HC, HD, hcl, hdl, KC⟩ : ∃ c d : List Int, Hid (c = List.zipWith (pk m) (cellL b) (cellL a)) ∧ Hid (d = List.zipWith (pk m) (cellL a) (cellL b)) ∧ Hid (c.length = 12) ∧ Hid (d.length = 12) ∧
      Hid (∀ w, Calls Try.prog 24 #[.int .u64 m, .agg (cw (cellL a)), .agg (cw (cellL b))] w fun e w' => e = .returned (.tuple #[.agg (cw c), .agg (cw d)]) ∧ Below w.heap.size w w') :=
    ⟨_, _, Lib.hid rfl, Lib.hid rfl, Lib.hid (by simp [cellL_len]), Lib.hid (by simp [cellL_len]), Lib.hid fun w => by
      rw [← zip_sw1 m (cellL a) (cellL b) (by rw [cellL_len, cellL_len])]
      exact swapCell_any m (cellL a) (cellL b) hm (cellL_len _) (cellL_len _) (cellL_word _) (cellL_word _) w⟩
  have HI1 : Hid ((Try.prog.info? 38).map (·.size) = some (cw c).size) := Lib.hid (by rw [cw_size, hcl.out]; kernel_rfl)
  have HI2 : Hid ((Try.prog.info? 38).map (·.size) = some (cw d).size) := Lib.hid (by rw [cw_size, hdl.out]; kernel_rfl)
  have Ka := Lib.hid (cell1_any a)
  have Kb := Lib.hid (cell1_any b)
  have KP : Hid (∀ w, Calls Try.prog 27 #[.int .u64 m, .agg (cw (cellL a)), .agg (cw (cellL b))] w fun e w' => e = .returned (.agg (cw d)) ∧ Below w.heap.size w w') := Lib.hid fun w => by
    rw [HD.out]; exact pickCell_any m (cellL a) (cellL b) hm (cellL_len _) (cellL_len _) (cellL_word _) (cellL_word _) w
  have KR : Hid (∀ w, Calls Try.prog 28 #[.int .u64 m, .agg (cw (cellL a)), .agg (cw (cellL b))] w fun e w' => e = .returned (.agg (cw d)) ∧ Below w.heap.size w w') := Lib.hid fun w => by
    rw [HD.out]; exact refPickCell_any m (cellL a) (cellL b) hm (cellL_len _) (cellL_len _) (cellL_word _) (cellL_word _) w
  have KR' : Hid (∀ w, Calls Try.prog 28 #[.int .u64 m, .agg (cw (cellL b)), .agg (cw (cellL a))] w fun e w' => e = .returned (.agg (cw c)) ∧ Below w.heap.size w w') := Lib.hid fun w => by
    rw [HC.out]; exact refPickCell_any m (cellL b) (cellL a) hm (cellL_len _) (cellL_len _) (cellL_word _) (cellL_word _) w
  have K1 := Lib.hid (fun w => pick_any m a b hm ha hb w)
  have K2 := Lib.hid (fun w => refPick_any m a b hm ha hb w)
  have K3 : Hid (∀ w, Calls Try.prog 26 #[.int .u64 m, .int .u64 b, .int .u64 a] w fun e w' => e = .returned (.int .u64 (sw1 m a b)) ∧ w' = w) := Lib.hid fun w => by
    rw [sw1_pk]; exact refPick_any m b a hm hb ha w
  have q1 : ∀ w, (Op.equalIn 10000 38 (.agg (cw c)) (.agg (cw c))).run Try.prog w = .ok true w := fun w => by rw [run_eqcell c c hcl.out hcl.out w]; simp
  have q2 : ∀ w, (Op.equalIn 10000 38 (.agg (cw d)) (.agg (cw d))).run Try.prog w = .ok true w := fun w => by rw [run_eqcell d d hdl.out hdl.out w]; simp
  have Q1 := Lib.hid q1
  have Q2 := Lib.hid q2
  clear q1 q2 hm ha hb
  generalize sw1 m a b = p at *
  generalize pk m a b = q at *
  generalize cellL a = la at *
  generalize cellL b = lb at *
  go_enter Try.func9, Try.ntmps9
  go_wp2_with fail
  refine (shown1 _).mono ?_; rintro e w' ⟨rfl, rfl⟩
  go_wp2_with fail
  refine (KS.out _).mono ?_; rintro e wA ⟨rfl, rfl⟩
  go_wp2_with fail
  refine (Ka.out _).mono ?_; rintro e w1 ⟨rfl, hb1⟩
  go_wp2_with fail
  refine (Kb.out _).mono ?_; rintro e w2 ⟨rfl, hb2⟩
  go_wp2_with fail
  refine (KC.out _).mono ?_; rintro e w3 ⟨rfl, hb3⟩
  have B1 : Hid (Blk ((w3.alloc (.cells z12 38)).alloc (.cells z12 38)) w3.heap.size z12 38) := Lib.hid ((Blk.new w3 _ _).alloc _)
  have B2 : Hid (Blk ((w3.alloc (.cells z12 38)).alloc (.cells z12 38)) (w3.heap.size + 1) z12 38) := Lib.hid (by
    have := Blk.new (w3.alloc (.cells z12 38)) z12 38
    rw [World.size_alloc] at this
    exact this)
  go_wp2_with (first
    | (refine wpList_store_row rfl 38 (.tmp 10) (.tmp 27) rfl w3.heap.size (cw c) rfl rfl 38 _ B1.out HI1.out (by rw [cw_size, hcl.out]; rfl) (cw_one _) ?_)
    | (refine wpList_store_row rfl 38 (.tmp 11) (.tmp 28) rfl (w3.heap.size + 1) (cw d) rfl rfl 38 _ (B2.out.rowOther _ (by omega)) HI2.out (by rw [cw_size, hdl.out]; rfl) (cw_one _) ?_))
  have R1 : Hid (Blk ((((w3.alloc (.cells z12 38)).alloc (.cells z12 38)).setRow w3.heap.size (cw c)).setRow (w3.heap.size + 1) (cw d)) w3.heap.size (cw c) 38) := Lib.hid ((B1.out.setRow _).rowOther _ (by omega))
  have R2 : Hid (Blk ((((w3.alloc (.cells z12 38)).alloc (.cells z12 38)).setRow w3.heap.size (cw c)).setRow (w3.heap.size + 1) (cw d)) (w3.heap.size + 1) (cw d) 38) := Lib.hid ((B2.out.rowOther _ (by omega)).setRow _)
  have hall : Below wA.heap.size wA w3 := (hb1.trans (hb2.mono hb1.size)).trans (hb3.mono (Nat.le_trans hb1.size hb2.size))
  have R3 : Hid (Below wA.heap.size wA ((((w3.alloc (.cells z12 38)).alloc (.cells z12 38)).setRow w3.heap.size (cw c)).setRow (w3.heap.size + 1) (cw d))) :=
    Lib.hid (below_setRow (below_setRow ((hall.alloc hall.size _).alloc (by simp; have := hall.size; omega) _) hall.size _) (by have := hall.size; omega) _)
  clear B1 B2 hb1 hb2 hb3 hall
  refine at_world (fun w' => Blk w' w3.heap.size (cw c) 38 ∧ Blk w' (w3.heap.size + 1) (cw d) 38 ∧ Below wA.heap.size wA w') ⟨R1.out, R2.out, R3.out⟩ ?_
  clear R1 R2 R3
  rintro wR ⟨R1, R2, R3⟩
  generalize w3.heap.size = g at *
  simp only [Act.put]
  refine wp_region_cls (fun w' => Below wR.heap.size wR w') (by kernel_rfl) (by kernel_rfl) ((Below.refl _ _).drew) ?_
  have q1 := Q1.out
  have q2 := Q2.out
  repeat (first
    | (refine wpQuiet_step (fun K hK => ?_)
       refine qs_load_row (by rfl) 38 (.tmp 10) rfl g rfl 38 (cw c) _ (fun w hw => R1.below hw R1.lt) Try.underlying38 rfl HI1.out (hK _ ?_)
       clear hK K)
    | (refine wpQuiet_step (fun K hK => ?_)
       refine qs_load_row (by rfl) 38 (.tmp 11) rfl (g + 1) rfl 38 (cw d) _ (fun w hw => R2.below hw R2.lt) Try.underlying38 rfl HI2.out (hK _ ?_)
       clear hK K)
    | (refine wpQuiet_step (fun K hK => ?_)
       go_simp
       first
         | (refine hK _ ?_; clear hK K)
         | (refine ⟨_, fun _ _ => rfl, hK _ ?_⟩; clear hK K)
         | (apply Exists.intro
            refine ⟨fun _ hC => ?_, hK _ ?_⟩
            (first | with_reducible exact cls_same K1.out hC | with_reducible exact cls_same K2.out hC | with_reducible exact cls_same K3.out hC | with_reducible exact cls_call Ka.out (Nat.le_refl _) hC | with_reducible exact cls_call Kb.out (Nat.le_refl _) hC | with_reducible exact cls_call KP.out (Nat.le_refl _) hC | with_reducible exact cls_call KR.out (Nat.le_refl _) hC | with_reducible exact cls_call KR'.out (Nat.le_refl _) hC)
            clear hK K)))
  refine wpQuiet_nil ?_
  intro w5 hb5
  go_wp2
  go_ret
  exact ⟨rfl, R3.trans (hb5.mono R3.size)⟩
end Go.Proofs.Ytjgbnokhelfnaaa
