/-
  The walks of a stable sort of items: ranges that change places, blocks that are turned.
-/
import Derived.Test.YtiimdgdimjjboaaProg
import Derived.Test.YtiimdgdimjjboaaStabW
import Derived.Deep.RegionHeld3
import Derived.Deep.DeepCutAuto
import Derived.BigQuiet
import Derived.IntWalk
import Derived.Deep.RegionLaw
namespace Go.Sg
open Go Go.RowKit
def intV (x : Int) : List Value := [.int .i64 x]
theorem intV_k : EncK intV 1 := ⟨fun _ => rfl, fun x u hu => by simp [intV] at hu; rcases hu with rfl; rfl, by decide⟩
section
variable {T G : Nat} {w0 w : World} {tl : List Value} {d : List Int}
theorem Rw.at1 (h : Rw intV T w0 G tl d w) {i : Nat} {x : Int} (hx : d[i]? = some x) : w.cell? ⟨G, i, none⟩ = some (.int .i64 x) := by
  have := h.at intV_k hx 0 _ rfl
  rwa [Nat.mul_one] at this
theorem Rw.swap1 (h : Rw intV T w0 G tl d w) {i j : Nat} {x y : Int} (hx : d[i]? = some x) (hy : d[j]? = some y) : Rw intV T w0 G tl (swL d i j) ((w.setCells G i (intV y)).setCells G j (intV x)) := by
  have := h.swap intV_k hx hy
  rwa [Nat.mul_one, Nat.mul_one] at this
end
end Go.Sg
namespace Go.Proofs.Ytiimdgdimjjboaa
open Go Go.RowKit Go.Sg
variable {w0 w : World} {G : Nat} {tl : List Value}
abbrev RwI (w0 : World) (G : Nat) (tl : List Value) (d : List Int) (w : World) : Prop := Rw intV 3 w0 G tl d w

set_option maxHeartbeats 2000000 in
set_option maxRecDepth 100000 in
theorem swapRange_any (A s B t C : List Int) (a b m cap : Nat) (cmp : Value) (hs : s.length = m) (ht : t.length = m) (hA : A.length = a) (hb : a + m + B.length = b) (hn : b + m + C.length ≤ cap) (hcap : b + m + C.length ≤ 1099511627776) (w : World) (h : RwI w0 G tl (A ++ s ++ B ++ t ++ C) w) :
    Calls Try.prog 113 #[.slice (some ⟨G, 0, none⟩) (b + m + C.length) cap, .int .i64 a, .int .i64 b, .int .i64 m, cmp] w fun e w' => e = .returned (.tuple #[]) ∧ RwI w0 G tl (A ++ t ++ B ++ s ++ C) w' := by
  have HX0 : Hid (RwI w0 G tl (A ++ (t.take 0 ++ s.drop 0) ++ B ++ (s.take 0 ++ t.drop 0) ++ C) w) := Lib.hid (by simpa using h)
  have HSW := Lib.hid (fun k hk => swL_run A s B t C k hk (by rw [hs, ht]) a b hA (by rw [hs]; exact hb))
  have HS := Lib.hid hs
  have HT := Lib.hid ht
  have HA := Lib.hid hA
  have HB := Lib.hid hb
  have hbd : a + m ≤ b := by omega
  clear h hs ht hA hb
  obtain ⟨n, hN⟩ : ∃ n, b + m + C.length = n := ⟨_, rfl⟩
  rw [hN] at hn ⊢
  have hbn : b + m ≤ n := by omega
  have HN := Lib.hid hN
  clear hN
  go_enter Try.func113, Try.ntmps113
  go_wp2_with fail
  go_loopw [10] (fun i wr => ∃ k : Nat, k ≤ m ∧ i = .int .i64 k ∧ Hid (RwI w0 G tl (A ++ (t.take k ++ s.drop k) ++ B ++ (s.take k ++ t.drop k) ++ C) wr)) (fun i _ => m - (intOf i).toNat)
  case atStart => exact ⟨0, by omega, rfl, HX0⟩
  case round =>
    obtain ⟨k, hk, rfl, HX⟩ := hrel
    by_cases hlt : k < m
    · have hks : k < s.length := by rw [HS.out]; exact hlt
      have hkt : k < t.length := by rw [HT.out]; exact hlt
      have hx := get_run1 A s B t C k hks (by rw [HS.out, HT.out]) a HA.out
      have hy := get_run2 A s B t C k hks (by rw [HS.out, HT.out]) a b HA.out (by rw [HS.out]; exact HB.out)
      have hX1 := HX.out
      have r1 := hX1.at1 hx
      have r2 := hX1.at1 hy
      have hsw := hX1.swap1 hx hy
      rw [HSW.out k hks] at hsw
      have HSX := Lib.hid hsw
      generalize s[k] = x at *
      generalize t[k] = y at *
      have x0 := r1
      have y0 := r2
      have fx0 := HX.out.blk.free (a + k)
      have fy0 := HX.out.blk.free (b + k)
      have ia0 : (0 : Int) ≤ (a : Int) + (k : Int) := by omega
      have ia1 : (a : Int) + (k : Int) < (n : Int) := by omega
      have ib0 : (0 : Int) ≤ (b : Int) + (k : Int) := by omega
      have ib1 : (b : Int) + (k : Int) < (n : Int) := by omega
      have wa := IntWalk.i64_in ((a : Int) + (k : Int)) (by omega)
      have wb := IntWalk.i64_in ((b : Int) + (k : Int)) (by omega)
      have na : ((a : Int) + (k : Int)).toNat = a + k := by omega
      have nb : ((b : Int) + (k : Int)).toNat = b + k := by omega
      clear hx hy hX1 hsw HX r1 r2
      go_wp2_with fail
      go_region_law (fail)
      all_goals
        have HD := Lib.hid HSX.out.drew
        clear HSX
        go_wp2
        go_roundw
        case rel => exact ⟨k + 1, by omega, by go_num, HD⟩
        case measure => simp [intOf]; omega
    · obtain rfl : k = m := by omega
      have HE : Hid (RwI w0 G tl (A ++ t ++ B ++ s ++ C) wr) := Lib.hid (by
        have h := HX.out
        rwa [List.take_of_length_le (Nat.le_of_eq HT.out), List.take_of_length_le (Nat.le_of_eq HS.out), List.drop_of_length_le (Nat.le_of_eq HS.out), List.drop_of_length_le (Nat.le_of_eq HT.out), List.append_nil, List.append_nil] at h)
      clear HX
      go_wp2
      go_end0
      exact ⟨rfl, HE.out⟩

theorem swapRange_at (A s B t C : List Int) (n cap : Nat) (a b m : Int) (cmp : Value) (hs : (s.length : Int) = m) (ht : (t.length : Int) = m) (hA : (A.length : Int) = a) (hb : a + m + B.length = b) (hn : b + m + C.length = n) (hc : n ≤ cap) (hcap : n ≤ 1099511627776) (w : World) (h : RwI w0 G tl (A ++ s ++ B ++ t ++ C) w) :
    Calls Try.prog 113 #[.slice (some ⟨G, 0, none⟩) n cap, .int .i64 a, .int .i64 b, .int .i64 m, cmp] w fun e w' => e = .returned (.tuple #[]) ∧ RwI w0 G tl (A ++ t ++ B ++ s ++ C) w' := by
  obtain ⟨a', rfl⟩ : ∃ x : Nat, a = x := ⟨a.toNat, by omega⟩
  obtain ⟨b', rfl⟩ : ∃ x : Nat, b = x := ⟨b.toNat, by omega⟩
  obtain ⟨m', rfl⟩ : ∃ x : Nat, m = x := ⟨m.toNat, by omega⟩
  obtain rfl : b' + m' + C.length = n := by omega
  exact swapRange_any A s B t C a' b' m' cap cmp (by omega) (by omega) (by omega) (by omega) hc hcap w h

set_option maxHeartbeats 2000000 in
set_option maxRecDepth 100000 in
theorem rotate_any (A u v C : List Int) (n cap : Nat) (a m b : Int) (cmp : Value) (hA : (A.length : Int) = a) (hu : a + u.length = m) (hv : m + v.length = b) (hn : b + C.length = n) (hu0 : 0 < u.length) (hv0 : 0 < v.length) (hc : n ≤ cap) (hcap : n ≤ 1099511627776) (w : World) (h : RwI w0 G tl (A ++ u ++ v ++ C) w) :
    Calls Try.prog 104 #[.slice (some ⟨G, 0, none⟩) n cap, .int .i64 a, .int .i64 m, .int .i64 b, cmp] w fun e w' => e = .returned (.tuple #[]) ∧ RwI w0 G tl (A ++ v ++ u ++ C) w' := by
  have HX0 : Hid (RwI w0 G tl (A ++ [] ++ u ++ v ++ [] ++ C) w) := Lib.hid (by simpa using h)
  have HA := Lib.hid hA
  have hab : 0 ≤ a := by omega
  have hal : a < m := by omega
  have hml : m < b := by omega
  have hbn : b ≤ n := by omega
  have HN := Lib.hid hn
  have HL : Hid ((u.length : Int) = m - a ∧ (v.length : Int) = b - m) := Lib.hid ⟨by omega, by omega⟩
  clear h hA hu hv hn hu0 hv0
  go_enter Try.func104, Try.ntmps104
  go_wp2_with fail
  go_loopw [10, 11] (fun iv jv wr => ∃ i j : Nat, iv = .int .i64 i ∧ jv = .int .i64 j ∧ 0 < i ∧ 0 < j ∧ (i : Int) ≤ m ∧ m + j ≤ n ∧ Hid (∃ X p q Y : List Int, p.length = i ∧ q.length = j ∧ a + X.length + i = m ∧ m + j + Y.length = b ∧ X ++ q ++ p ++ Y = v ++ u ∧ RwI w0 G tl (A ++ X ++ p ++ q ++ Y ++ C) wr)) (fun iv jv _ => (intOf iv).toNat + (intOf jv).toNat)
  case atStart =>
    refine ⟨(m - a).toNat, (b - m).toNat, ?_, ?_, by omega, by omega, by omega, by omega, Lib.hid ⟨[], u, v, [], ?_, ?_, ?_, ?_, by simp, HX0.out⟩⟩
    · congr 1; omega
    · congr 1; omega
    · have := HL.out.1; omega
    · have := HL.out.2; omega
    · simp; omega
    · simp; omega
  case round =>
    obtain ⟨i, j, rfl, rfl, hi, hj, him, hjn, HX⟩ := hrel
    by_cases e : i = j
    · subst e
      have d : ((i : Int) != (i : Int)) = false := by simp
      obtain ⟨X, p, q, Y, h1, h2, h3, h4, h5, h6⟩ := HX.out
      have K := Lib.hid (swapRange_at (A ++ X) p [] q (Y ++ C) n cap (m - i) m i cmp (by omega) (by omega) (by have := HA.out; simp; omega) (by simp) (by have := HN.out; simp; omega) hc hcap wr (by simpa using h6))
      have HE : Hid (A ++ X ++ q ++ [] ++ p ++ (Y ++ C) = A ++ v ++ u ++ C) := Lib.hid (by
        have : A ++ X ++ q ++ [] ++ p ++ (Y ++ C) = A ++ (X ++ q ++ p ++ Y) ++ C := by simp
        rw [this, h5]
        simp)
      rw [HE.out] at K
      clear h1 h2 h3 h4 h5 h6 HX HX0
      go_wp2_with fail
      refine K.out.mono ?_
      rintro e' w' ⟨rfl, hX⟩
      have HXE := Lib.hid hX
      clear hX K
      go_wp2
      go_end0
      exact ⟨rfl, HXE.out⟩
    · have d : ((i : Int) != (j : Int)) = true := by rw [bne_iff_ne]; omega
      obtain ⟨X, p, q, Y, h1, h2, h3, h4, h5, h6⟩ := HX.out
      by_cases hlt : j < i
      · have d1 : decide ((j : Int) < (i : Int)) = true := decide_eq_true (by omega)
        have d2 : decide (j < i) = true := decide_eq_true hlt
        have hp : p = p.take j ++ p.drop j := (List.take_append_drop _ _).symm
        have hl1 : (p.take j).length = j := by rw [List.length_take]; omega
        have hl2 : (p.drop j).length = i - j := by rw [List.length_drop]; omega
        generalize p.take j = p1 at *
        generalize p.drop j = p2 at *
        subst hp
        have K := Lib.hid (swapRange_at (A ++ X) p1 p2 q (Y ++ C) n cap (m - i) m j cmp (by omega) (by omega) (by have := HA.out; simp; omega) (by omega) (by have := HN.out; simp; omega) hc hcap wr (by simpa using h6))
        have HE : Hid (∀ w', RwI w0 G tl (A ++ X ++ q ++ p2 ++ p1 ++ (Y ++ C)) w' → ∃ X p q Y : List Int, p.length = i - j ∧ q.length = j ∧ a + X.length + ((i - j : Nat) : Int) = m ∧ m + j + Y.length = b ∧ X ++ q ++ p ++ Y = v ++ u ∧ RwI w0 G tl (A ++ X ++ p ++ q ++ Y ++ C) w') := Lib.hid fun w' h => ⟨X ++ q, p2, p1, Y, hl2, hl1, by simp; omega, h4, by rw [← h5]; simp, by simpa using h⟩
        clear h1 h2 h3 h4 h5 h6 HX HX0 hl1 hl2
        go_wp2_with fail
        refine K.out.mono ?_
        rintro e' w' ⟨rfl, hX⟩
        have HXE := Lib.hid (HE.out _ hX)
        clear hX K HE
        go_wp2
        go_roundw
        case rel => exact ⟨i - j, j, by congr 1; omega, rfl, by omega, hj, by omega, hjn, HXE⟩
        case measure => simp [intOf]; omega
      · have d1 : decide ((j : Int) < (i : Int)) = false := decide_eq_false (by omega)
        have d2 : decide (j < i) = false := decide_eq_false hlt
        have hij : i < j := by omega
        have hq : q = q.take (j - i) ++ q.drop (j - i) := (List.take_append_drop _ _).symm
        have hl1 : (q.take (j - i)).length = j - i := by rw [List.length_take]; omega
        have hl2 : (q.drop (j - i)).length = i := by rw [List.length_drop]; omega
        generalize q.take (j - i) = q1 at *
        generalize q.drop (j - i) = q2 at *
        subst hq
        have K := Lib.hid (swapRange_at (A ++ X) p q1 q2 (Y ++ C) n cap (m - i) (m + j - i) i cmp (by omega) (by omega) (by have := HA.out; simp; omega) (by omega) (by have := HN.out; simp; omega) hc hcap wr (by simpa using h6))
        have HE : Hid (∀ w', RwI w0 G tl (A ++ X ++ q2 ++ q1 ++ p ++ (Y ++ C)) w' → ∃ X p q Y : List Int, p.length = i ∧ q.length = j - i ∧ a + X.length + i = m ∧ m + ((j - i : Nat) : Int) + Y.length = b ∧ X ++ q ++ p ++ Y = v ++ u ∧ RwI w0 G tl (A ++ X ++ p ++ q ++ Y ++ C) w') := Lib.hid fun w' h => ⟨X, q2, q1, p ++ Y, hl2, hl1, h3, by simp; omega, by rw [← h5]; simp, by simpa using h⟩
        clear h1 h2 h3 h4 h5 h6 HX HX0 hl1 hl2
        go_wp2_with fail
        refine K.out.mono ?_
        rintro e' w' ⟨rfl, hX⟩
        have HXE := Lib.hid (HE.out _ hX)
        clear hX K HE
        go_wp2
        go_roundw
        case rel => exact ⟨i, j - i, rfl, by congr 1; omega, hi, by omega, him, by omega, HXE⟩
        case measure => simp [intOf]; omega
end Go.Proofs.Ytiimdgdimjjboaa
