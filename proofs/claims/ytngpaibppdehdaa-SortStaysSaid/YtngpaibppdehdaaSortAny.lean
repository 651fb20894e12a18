/-
  A run, right or not: of sort and of shellgameref6; their looks.
-/
import Derived.Test.YtngpaibppdehdaaSortRun
import Derived.Test.YtngpaibppdehdaaSortRef
namespace Go.Sg
open Go Go.RowKit
def lgN (n : Int) : Nat := Nat.log2 n.toNat
def netI (n : Int) : List Pr := if rightB n then netP (2 ^ lgN n) (lgN n) else []
theorem lgN_pow {t : Nat} : lgN ((2 ^ t : Nat) : Int) = t := by
  unfold lgN
  rw [Int.toNat_natCast, Nat.log2_two_pow]
theorem rightB_lg {n : Int} (h : rightB n = true) : ∃ t : Nat, t ≤ 10 ∧ n = ((2 ^ t : Nat) : Int) := by
  obtain ⟨t, ht, rfl⟩ := rightB_of h
  exact ⟨t, ht, by simp⟩
def evsR (r n : Int) : List Ev := evsS r (netI n)
def runOk (M : Mm) (r n key : Int) : Bool := rightB n && !decide ((M.size r : Int) < n) && !decide (key < 0) && decide (key < 12)
def runM (M : Mm) (r n key : Int) : Mm := if runOk M r n key then (M.srt r key.toNat (netI n)).noted (evsR r n) else M
theorem runOk_bad {M : Mm} {r n key : Int} (h : runOk M r n key = false) : rightB n = false ∨ (M.size r : Int) < n ∨ key < 0 ∨ 12 ≤ key := by
  unfold runOk at h
  simp only [Bool.and_eq_false_iff, Bool.not_eq_eq_eq_not, Bool.not_false, decide_eq_true_eq, decide_eq_false_iff_not] at h
  rcases h with ((h | h) | h) | h
  · exact .inl h
  · exact .inr (.inl h)
  · exact .inr (.inr (.inl h))
  · exact .inr (.inr (.inr (by omega)))
theorem runOk_good {M : Mm} {r n key : Int} (h : runOk M r n key = true) : ∃ (t kn : Nat), t ≤ 10 ∧ n = ((2 ^ t : Nat) : Int) ∧ 2 ^ t ≤ M.size r ∧ kn < 12 ∧ key = kn := by
  unfold runOk at h
  simp only [Bool.and_eq_true, Bool.not_eq_eq_eq_not, Bool.not_true, decide_eq_false_iff_not, decide_eq_true_eq] at h
  obtain ⟨⟨⟨h1, h2⟩, h3⟩, h4⟩ := h
  obtain ⟨t, ht, rfl⟩ := rightB_lg h1
  exact ⟨t, key.toNat, ht, rfl, by omega, by omega, by omega⟩
theorem netI_pow {t : Nat} (ht : t ≤ 10) : netI ((2 ^ t : Nat) : Int) = netP (2 ^ t) t := by
  unfold netI
  rw [if_pos (by have := rightB_pow t ht; rwa [show ((2 ^ t : Nat) : Int) = (2 : Int) ^ t by simp]), lgN_pow]
theorem runM_ok {M : Mm} (h : M.ok) (r n key : Int) : (runM M r n key).ok := by
  unfold runM
  split
  · exact Mm.noted_ok (Mm.srt_ok h _ _ _) _
  · exact h
theorem runM_size (M : Mm) (r n key x : Int) : (runM M r n key).size x = M.size x := by
  unfold runM
  split
  · rw [Mm.noted_size, Mm.srt_size]
  · rfl
end Go.Sg
namespace Go.Proofs.Ytngpaibppdehdaa
open Go Go.RowKit Go.Sg
variable {w0 w : World} {p : Nat} {M : Mm} {D : Nat → Prop} {X : World → Prop}
theorem netI_few (n : Int) : (netI n).length ≤ 30000 := by
  unfold netI
  split
  · rename_i h
    obtain ⟨t, ht, rfl⟩ := rightB_lg h
    rw [lgN_pow]
    exact netP_few t ht
  · exact Nat.zero_le _
theorem evsR_len (r n : Int) : (evsR r n).length ≤ 120000 := by
  unfold evsR
  rw [evsS_len]
  have := netI_few n
  omega
theorem runM_evs (M : Mm) (r n key : Int) : (runM M r n key).evs = M.evs ++ (if runOk M r n key then evsR r n else []) := by
  unfold runM
  split
  · rw [Mm.noted_evs, Mm.srt_evs]
  · simp
theorem runM_evs_le (M : Mm) (r n key : Int) : (runM M r n key).evs.length ≤ M.evs.length + 120000 := by
  rw [runM_evs, List.length_append]
  have := evsR_len r n
  split
  · omega
  · simp
theorem one_run (hK : Keeps D X) (r n key : Int) (h : OneX 108 w0 w p M D X) (hN : M.evs.length ≤ 1099511000000) :
    Calls Try.prog 59 #[.pointer (some ⟨p, 0, none⟩), .int .i64 r, .int .i64 n, .int .i64 key] w fun e w' => e = .returned (.int .i64 (if runOk M r n key then 0 else 1)) ∧ OneX 108 w0 w' p (runM M r n key) D X := by
  cases hb : runOk M r n key with
  | false =>
    have e : runM M r n key = M := by unfold runM; rw [if_neg (by rw [hb]; exact Bool.false_ne_true)]
    rw [e]
    exact (one_run_no n r key (runOk_bad hb) h).mono fun e w' ⟨he, hw⟩ => ⟨he, by rw [hw]; exact h⟩
  | true =>
    obtain ⟨t, kn, ht, rfl, hs, hk, rfl⟩ := runOk_good hb
    have e : runM M r ((2 ^ t : Nat) : Int) (kn : Int) = (M.srt r kn (netP (2 ^ t) t)).noted (evsS r (netP (2 ^ t) t)) := by
      unfold runM
      rw [if_pos hb]
      unfold evsR
      rw [netI_pow ht, Int.toNat_natCast]
    rw [e]
    exact one_run_yes hK t ht r kn hk hs h hN
theorem one_rrun (hK : Keeps D X) (r n key : Int) (hn : Num n) (h : OneX 60 w0 w p M D X) (hN : M.evs.length ≤ 1099511000000) :
    Calls Try.prog 74 #[.pointer (some ⟨p, 0, none⟩), .int .i64 r, .int .i64 n, .int .i64 key] w fun e w' => e = .returned (.int .i64 (if runOk M r n key then 0 else 1)) ∧ OneX 60 w0 w' p (runM M r n key) D X := by
  cases hb : runOk M r n key with
  | false =>
    have e : runM M r n key = M := by unfold runM; rw [if_neg (by rw [hb]; exact Bool.false_ne_true)]
    rw [e]
    exact (one_rrun_no n r key hn (runOk_bad hb) h).mono fun e w' ⟨he, hw⟩ => ⟨he, by rw [hw]; exact h⟩
  | true =>
    obtain ⟨t, kn, ht, rfl, hs, hk, rfl⟩ := runOk_good hb
    have e : runM M r ((2 ^ t : Nat) : Int) (kn : Int) = (M.srt r kn (netP (2 ^ t) t)).noted (evsS r (netP (2 ^ t) t)) := by
      unfold runM
      rw [if_pos hb]
      unfold evsR
      rw [netI_pow ht, Int.toNat_natCast]
    rw [e]
    exact one_rrun_yes hK t ht r kn hk hs h hN
theorem sortEvents_any (r n : Int) (w : World) : Calls Try.prog 72 #[.int .i64 r, .int .i64 n] w (RetE (evsR r n) w) := by
  cases hb : rightB n with
  | false =>
    have e : evsR r n = [] := by unfold evsR netI; rw [hb]; rfl
    rw [e]
    exact sortEvents_no r n hb w
  | true =>
    obtain ⟨t, ht, rfl⟩ := rightB_lg hb
    unfold evsR
    rw [netI_pow ht]
    exact sortEvents_yes t ht r w
theorem refEvents_any (r n : Int) (hn : Num n) (w : World) : Calls Try.prog 75 #[.int .i64 r, .int .i64 n] w (RetE (evsR r n) w) := by
  cases hb : rightB n with
  | false =>
    have e : evsR r n = [] := by unfold evsR netI; rw [hb]; rfl
    rw [e]
    exact refEvents_no r n hn hb w
  | true =>
    obtain ⟨t, ht, rfl⟩ := rightB_lg hb
    unfold evsR
    rw [netI_pow ht]
    exact refEvents_yes t ht r w
end Go.Proofs.Ytngpaibppdehdaa
