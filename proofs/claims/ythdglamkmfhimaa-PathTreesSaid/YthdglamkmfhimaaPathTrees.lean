/-
  The walk of shellgamelaw8.PathTrees.
-/
import Derived.Test.YthdglamkmfhimaaRefPath
namespace Go.Proofs.Ythdglamkmfhimaa
open Go.RowKit Go.Sg

theorem PathTrees_walk (n l d : Int) (w : World) (hn : Num n) (_hl : Num l) (hd : Num d) :
    Calls Try.prog 6 #[.int .i64 n, .int .i64 l, .int .i64 d] w fun e w' => e = .returned (.bool true) ∧ Below w.heap.size w w' := by
  have KS := Lib.hid (fun w' (h : Below w.heap.size w w') => cls_call (P := Try.prog) shown8 (Nat.le_refl _) h)
  have K1 := Lib.hid (fun w' (h : Below w.heap.size w w') => cls_same (P := Try.prog) (pathRight_any n hn) h)
  have K2 := Lib.hid (fun w' (h : Below w.heap.size w w') => cls_same (P := Try.prog) (ref8Right_any n hn) h)
  have K3 := Lib.hid (fun w' (h : Below w.heap.size w w') => cls_same (P := Try.prog) (pathDepth_any n hn) h)
  have K4 := Lib.hid (fun w' (h : Below w.heap.size w w') => cls_same (P := Try.prog) (ref8Depth_any n hn) h)
  have K5 := Lib.hid (fun w' (h : Below w.heap.size w w') => cls_same (P := Try.prog) (pathNodes_any n hn) h)
  have K6 := Lib.hid (fun w' (h : Below w.heap.size w w') => cls_same (P := Try.prog) (ref8Nodes_any n hn) h)
  have K7 := Lib.hid (fun w' (h : Below w.heap.size w w') => cls_call (P := Try.prog) (pathNode_any n l d hn hd) (Nat.le_refl _) h)
  have K8 := Lib.hid (fun w' (h : Below w.heap.size w w') => cls_call (P := Try.prog) (ref8Node_any n l d hn hd) (Nat.le_refl _) h)
  have K9 := Lib.hid (fun w' => pathPath_any n l hn w')
  have K10 := Lib.hid (fun w' => ref8Path_any n l hn w')
  have hB : Below w.heap.size w w := Below.refl _ _
  generalize nodeI n l d = x1 at *
  generalize depthI n = x2 at *
  generalize nodesI n = x3 at *
  generalize rightB n = x4 at *
  generalize pathL n l = zs at *
  go_enter Try.func6, Try.ntmps6
  go_wp2_with (first
    | (go_at_call 9; (with_reducible refine (KS.out _ (by assumption)).mono ?_); rintro e w' ⟨rfl, hb1⟩)
    | (go_at_call 14; (with_reducible refine (K1.out _ (by assumption)).mono ?_); rintro e w' ⟨rfl, hb2⟩)
    | (go_at_call 15; (with_reducible refine (K2.out _ (by assumption)).mono ?_); rintro e w' ⟨rfl, hb3⟩)
    | (go_at_call 16; (with_reducible refine (K3.out _ (by assumption)).mono ?_); rintro e w' ⟨rfl, hb4⟩)
    | (go_at_call 17; (with_reducible refine (K4.out _ (by assumption)).mono ?_); rintro e w' ⟨rfl, hb5⟩)
    | (go_at_call 18; (with_reducible refine (K5.out _ (by assumption)).mono ?_); rintro e w' ⟨rfl, hb6⟩)
    | (go_at_call 19; (with_reducible refine (K6.out _ (by assumption)).mono ?_); rintro e w' ⟨rfl, hb7⟩)
    | (go_at_call 12; (with_reducible refine (K7.out _ (by assumption)).mono ?_); rintro e w' ⟨rfl, hb8⟩)
    | (go_at_call 20; (with_reducible refine (K8.out _ (by assumption)).mono ?_); rintro e w8 ⟨rfl, hb9⟩)
    | fail)
  refine (K9.out _).mono ?_
  rintro e w9 ⟨v9, rfl, hs9, hbel9⟩
  have hs9' := Lib.hid hs9
  have hC9 := Lib.hid (hb9.trans (hbel9.mono hb9.size))
  clear hs9 hbel9
  go_wp2_with fail
  refine (K10.out _).mono ?_
  rintro e w10 ⟨v10, rfl, hs10, hbel10⟩
  have hs11 := Lib.hid (hs9'.out.below hbel10)
  have hs12 := Lib.hid hs10
  have hC10 := Lib.hid (hC9.out.trans (hbel10.mono hC9.out.size))
  clear hs10 hbel10
  go_wp2_with fail
  refine (same8_any _ _ zs zs _ hs11.out hs12.out).mono ?_
  rintro e w11 ⟨rfl, hb11⟩
  have hC11 := Lib.hid (hC10.out.trans (hb11.mono hC10.out.size))
  clear hb11
  go_wp2
  go_ret
  exact ⟨congrArg (fun b => Ending.returned (Value.bool b)) (by simp), hC11.out⟩
end Go.Proofs.Ythdglamkmfhimaa
