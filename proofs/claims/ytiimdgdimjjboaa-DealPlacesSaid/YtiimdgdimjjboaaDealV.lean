/-
  Items that stand otherwise go to the same places: in plain Lean.
-/
import Derived.Test.YtiimdgdimjjboaaDealH
import Derived.Test.YtiimdgdimjjboaaAs9
namespace Go.Sg
open Go Go.RowKit
/-- where the item at j of the turned items stood -/
def sg (n t : Nat) (j : Int) : Int := (j + t) % n
theorem sg_in {n t : Nat} (hn : 0 < n) (j : Int) : 0 ≤ sg n t j ∧ sg n t j < n := ⟨Int.emod_nonneg _ (by omega), Int.emod_lt_of_pos _ (by omega)⟩
theorem sg_val {n t : Nat} (ht : t ≤ n) {j : Int} (h0 : 0 ≤ j) (h1 : j < n) : sg n t j = if j + t < n then j + t else j + t - n := by
  unfold sg
  by_cases h : j + t < n
  · rw [if_pos h, Int.emod_eq_of_lt (by omega) h]
  · rw [if_neg h, ← Int.sub_emod_right, Int.emod_eq_of_lt (by omega) (by omega)]
theorem sg_inj {n t : Nat} (ht : t ≤ n) {i j : Int} (h0 : 0 ≤ i) (h1 : i < n) (h2 : 0 ≤ j) (h3 : j < n) (h : sg n t i = sg n t j) : i = j := by
  rw [sg_val ht h0 h1, sg_val ht h2 h3] at h
  split at h <;> split at h <;> omega
theorem sg_back {n t : Nat} (ht : t ≤ n) {i : Int} (h0 : 0 ≤ i) (h1 : i < n) : sg n t (sg n (n - t) i) = i := by
  have hn : 0 < n := by omega
  obtain ⟨a, b⟩ := sg_in (t := n - t) hn i
  rw [sg_val ht a b, sg_val (show n - t ≤ n by omega) h0 h1]
  split <;> split <;> omega
/-- items, turned -/
def turnL (K : List Di) (t : Nat) : List Di := K.drop t ++ K.take t
theorem turnL_len (K : List Di) (t : Nat) : (turnL K t).length = K.length := by unfold turnL; rw [List.length_append, List.length_drop, List.length_take]; omega
theorem turnL_get {K : List Di} {n t : Nat} (hK : K.length = n) (ht : t ≤ n) {j : Int} (h0 : 0 ≤ j) (h1 : j < n) : getD' (turnL K t) j = getD' K (sg n t j) := by
  obtain ⟨j, rfl⟩ := Int.eq_ofNat_of_zero_le h0
  rw [sg_val ht h0 h1]
  unfold getD' turnL
  rw [List.getD_eq_getElem?_getD, List.getD_eq_getElem?_getD, List.getElem?_append, Int.toNat_natCast]
  by_cases h : (j : Int) + t < n
  · rw [if_pos h, if_pos (by rw [List.length_drop]; omega), List.getElem?_drop, show ((j : Int) + t).toNat = t + j by omega]
  · rw [if_neg h, if_neg (by rw [List.length_drop]; omega), List.getElem?_take, if_pos (by rw [List.length_drop]; omega), List.length_drop, show ((j : Int) + t - n).toNat = j - (K.length - t) by omega]
section
variable {s : Sh} {K : List Di} {n t : Nat}
def leR (K : List Di) (i j : Int) : Prop := (getD' K j).2 < (getD' K i).2 ∨ ((getD' K i).2 = (getD' K j).2 ∧ (getD' K i).1 ≤ (getD' K j).1)
theorem realO_leR (K : List Di) : (realO K).Pairwise (leR K) := by
  have h : (realO K).Pairwise (leO K) := by
    rw [realO_filter]
    exact (ordD_sorted K).sublist List.filter_sublist
  refine h.imp_of_mem fun {a b} ha hb hab => ?_
  have h1 := (realO_mem.1 ha).2
  have h2 := (realO_mem.1 hb).2
  rw [leO_iff] at hab
  unfold leR
  omega
theorem map_nodup {L : List Int} {f : Int → Int} (h : L.Nodup) (hf : ∀ a ∈ L, ∀ b ∈ L, f a = f b → a = b) : (L.map f).Nodup := by
  rw [List.Nodup, List.pairwise_map]
  exact h.imp_of_mem fun {a b} ha hb hab e => hab (hf a ha b hb e)
theorem real_turn (hK : K.length = n) (ht : t ≤ n) {j : Int} (h0 : 0 ≤ j) (h1 : j < n) : j ∈ realO (turnL K t) ↔ sg n t j ∈ realO K := by
  have hn : 0 < n := by omega
  rw [realO_mem, realO_mem, turnL_get hK ht h0 h1, turnL_len, hK]
  have := sg_in (t := t) hn j
  constructor
  · exact fun h => ⟨this, h.2⟩
  · exact fun h => ⟨⟨h0, h1⟩, h.2⟩
theorem realO_turn (hK : K.length = n) (ht : t ≤ n) (hid : ∀ i j : Int, 0 ≤ i → i < n → 0 ≤ j → j < n → (getD' K i).1 = (getD' K j).1 → i = j) : (realO (turnL K t)).map (sg n t) = realO K := by
  have hm : ∀ j ∈ realO (turnL K t), (0 ≤ j ∧ j < n) ∧ sg n t j ∈ realO K := fun j hj => by
    have h := (realO_mem.1 hj).1
    rw [turnL_len, hK] at h
    exact ⟨h, (real_turn hK ht h.1 h.2).1 hj⟩
  have hm2 : ∀ i ∈ realO K, (0 ≤ i ∧ i < n) ∧ sg n (n - t) i ∈ realO (turnL K t) := fun i hi => by
    have h := (realO_mem.1 hi).1
    rw [hK] at h
    have hn : 0 < n := by omega
    have h2 := sg_in (t := n - t) hn i
    refine ⟨h, (real_turn hK ht h2.1 h2.2).2 ?_⟩
    rw [sg_back ht h.1 h.2]
    exact hi
  have hnd : ((realO (turnL K t)).map (sg n t)).Nodup := map_nodup (realO_nodup _) fun a ha b hb e => sg_inj ht (hm a ha).1.1 (hm a ha).1.2 (hm b hb).1.1 (hm b hb).1.2 e
  have hlen : (realO K).length ≤ ((realO (turnL K t)).map (sg n t)).length := by
    have := nodup_le (L := (realO K).map (sg n (n - t))) (M := realO (turnL K t)) (map_nodup (realO_nodup _) fun a ha b hb e => sg_inj (by omega) (hm2 a ha).1.1 (hm2 a ha).1.2 (hm2 b hb).1.1 (hm2 b hb).1.2 e) (fun x hx => by
      obtain ⟨i, hi, rfl⟩ := List.mem_map.1 hx
      exact (hm2 i hi).2)
    simpa using this
  have hp : ((realO (turnL K t)).map (sg n t)).Perm (realO K) := nodup_perm hnd (fun x hx => by
    obtain ⟨i, hi, rfl⟩ := List.mem_map.1 hx
    exact (hm i hi).2) hlen
  refine hp.eq_of_pairwise (le := leR K) (fun a b ha hb h1 h2 => ?_) ?_ (realO_leR K)
  · have g1 := (realO_mem.1 (hp.mem_iff.1 ha)).1
    have g2 := (realO_mem.1 hb).1
    rw [hK] at g1 g2
    refine hid a b g1.1 g1.2 g2.1 g2.2 ?_
    unfold leR at h1 h2
    omega
  · rw [List.pairwise_map]
    refine (realO_leR (turnL K t)).imp_of_mem fun {a b} ha hb hab => ?_
    unfold leR at *
    rw [turnL_get hK ht (hm a ha).1.1 (hm a ha).1.2, turnL_get hK ht (hm b hb).1.1 (hm b hb).1.2] at hab
    exact hab
structure Tw (n t : Nat) (x y : St) : Prop where
  ds : x.ds = y.ds
  lost : y.lost = x.lost.map (sg n t)
  pl : ∀ j : Nat, j < n → y.pl (sg n t j).toNat = x.pl j
theorem Tw.step (hK : K.length = n) (ht : t ≤ n) {x y : St} (h : Tw n t x y) {i : Int} (h0 : 0 ≤ i) (h1 : i < n) : Tw n t (stepSt s (turnL K t) x i) (stepSt s K y (sg n t i)) := by
  have hn : 0 < n := by omega
  have hsg := sg_in (t := t) hn i
  unfold stepSt
  rw [turnL_get hK ht h0 h1, h.ds]
  generalize nextD s y.ds (getD' K (sg n t i)).2 = r
  by_cases hr : r.1 < 0
  · rw [if_pos hr, if_pos hr]
    exact ⟨rfl, by simp only; rw [h.lost, List.map_append]; rfl, h.pl⟩
  · rw [if_neg hr, if_neg hr]
    refine ⟨rfl, h.lost, fun j hj => ?_⟩
    simp only [upd]
    by_cases hji : j = i.toNat
    · have : (j : Int) = i := by omega
      rw [if_pos hji, this, if_pos rfl]
    · have hne : (sg n t (j : Int)).toNat ≠ (sg n t i).toNat := fun e => by
        have h2 := sg_in (t := t) hn (j : Int)
        have := sg_inj ht (show (0 : Int) ≤ (j : Int) by omega) (by omega) h0 h1 (by omega)
        omega
      rw [if_neg hji, if_neg hne]
      exact h.pl j hj
theorem end_turn (hK : K.length = n) (ht : t ≤ n) (hid : ∀ i j : Int, 0 ≤ i → i < n → 0 ≤ j → j < n → (getD' K i).1 = (getD' K j).1 → i = j) : Tw n t (endSt s (turnL K t)) (endSt s K) := by
  unfold endSt
  rw [← realO_turn hK ht hid]
  refine snoc_ind (P := fun L => Tw n t (runSt s (turnL K t) L) (runSt s K (L.map (sg n t)))) (realO (turnL K t)) ⟨rfl, rfl, fun j _ => rfl⟩ (fun r hr h => ?_)
  have hm := (realO_mem.1 (List.getElem_mem hr)).1
  rw [turnL_len, hK] at hm
  rw [List.map_append, List.map_cons, List.map_nil, runSt_snoc, runSt_snoc]
  exact h.step hK ht hm.1 hm.2
theorem moved_facts (hs : rightD s = true) (hn : (n : Int) = placesD s) (hK : K.length = n) (ht : t ≤ n) (hid : ∀ i j : Int, 0 ≤ i → i < n → 0 ≤ j → j < n → (getD' K i).1 = (getD' K j).1 → i = j) :
    dealLost s K = (dealLost s (turnL K t)).map (sg n t) ∧ ∀ i : Nat, i < n → 0 ≤ (getD' K (i : Int)).2 → (i : Int) ∉ dealLost s K → endG s K i = endG s (turnL K t) (sg n (n - t) i).toNat := by
  have hT : (turnL K t).length = n := by rw [turnL_len, hK]
  have h := end_turn (s := s) hK ht hid
  rw [dealLost_eq hs hn hK, dealLost_eq hs hn hT]
  refine ⟨h.lost, fun i hi hd hl => ?_⟩
  have hn0 : 0 < n := by omega
  have hj := sg_in (t := n - t) hn0 (i : Int)
  have hb := sg_back ht (show (0 : Int) ≤ (i : Int) by omega) (by omega)
  obtain ⟨j, hjj⟩ : ∃ j : Nat, sg n (n - t) (i : Int) = j := ⟨(sg n (n - t) (i : Int)).toNat, by omega⟩
  rw [hjj] at hj hb ⊢
  rw [Int.toNat_natCast]
  rcases deal_kept hs hn hK hi hd with h1 | ⟨-, h1, -, -⟩
  · exact absurd h1 hl
  · have hdj : 0 ≤ (getD' (turnL K t) (j : Int)).2 := by rw [turnL_get hK ht hj.1 hj.2, hb]; exact hd
    rcases deal_kept hs hn hT (i := j) (by omega) hdj with h2 | ⟨-, h2, -, -⟩
    · exfalso
      refine hl ?_
      rw [h.lost]
      exact List.mem_map.2 ⟨_, h2, hb⟩
    · rw [h1, h2, ← h.pl j (by omega), hb, Int.toNat_natCast]
end
/-- the items of the law: no two alike -/
def movF (f : Nat → Di) (i : Nat) : Di := ((f i).1 * 256 % 18446744073709551616 + i, (f i).2)
theorem mov_id (f : Nat → Di) {n : Nat} (hn : n ≤ 153) (i j : Int) (h0 : 0 ≤ i) (h1 : i < n) (h2 : 0 ≤ j) (h3 : j < n) (h : (getD' (mkD (movF f) n) i).1 = (getD' (mkD (movF f) n) j).1) : i = j := by
  obtain ⟨i, rfl⟩ := Int.eq_ofNat_of_zero_le h0
  obtain ⟨j, rfl⟩ := Int.eq_ofNat_of_zero_le h2
  have hg : ∀ k : Nat, k < n → getD' (mkD (movF f) n) (k : Int) = movF f k := fun k hk => by
    unfold getD'
    rw [Int.toNat_natCast, List.getD_eq_getElem?_getD, List.getElem?_eq_getElem (by rw [mkD_len]; exact hk), mkD_get]
    rfl
  rw [hg i (by omega), hg j (by omega)] at h
  unfold movF at h
  simp only at h
  omega
theorem lost_in (s : Sh) (l : List Di) : ∀ x ∈ (endSt s l).lost, x ∈ realO l := by
  unfold endSt
  refine snoc_ind (P := fun L => ∀ x ∈ (runSt s l L).lost, x ∈ L) (realO l) (fun x hx => by simp [runSt, st0] at hx) (fun t ht h x hx => ?_)
  rw [runSt_snoc] at hx
  unfold stepSt at hx
  split at hx
  · rcases List.mem_append.1 hx with h1 | h1
    · exact List.mem_append_left _ (h x h1)
    · exact List.mem_append_right _ h1
  · exact List.mem_append_left _ (h x hx)
theorem set_flat (f : Nat → Di) {n t : Nat} (ht : t < n) (x : Int) : (flatV diV (mkD f n)).set (t * 2) (.int .u64 x) = flatV diV (mkD (fun i => if i = t then (x, (f i).2) else f i) n) := by
  have hfl : ∀ g : Nat → Di, (flatV diV (mkD g n)).length = n * 2 := fun g => by rw [flatV_len diV_k, mkD_len]
  refine List.ext_getElem? fun j => ?_
  by_cases hj : j < n * 2
  · obtain ⟨i, r, hi, hr, rfl⟩ : ∃ i r, i < n ∧ r < 2 ∧ j = i * 2 + r := ⟨j / 2, j % 2, by omega, by omega, by omega⟩
    have h1 : ∀ (g : Nat → Di) u, (diV (g i))[r]? = some u → (flatV diV (mkD g n))[i * 2 + r]? = some u := fun g u hu => flatV_at diV_k (l := mkD g n) (by rw [mkD_len]; exact hi) (by rw [mkD_get]; exact hu)
    rw [List.getElem?_set]
    by_cases hit : i = t
    · subst hit
      by_cases hr0 : r = 0
      · subst hr0
        rw [if_pos (by omega), if_pos (by rw [hfl]; omega)]
        exact (h1 (fun k => if k = i then (x, (f k).2) else f k) _ (by simp [diV])).symm
      · obtain rfl : r = 1 := by omega
        rw [if_neg (by omega), h1 f (.int .i64 (f i).2) rfl]
        exact (h1 (fun k => if k = i then (x, (f k).2) else f k) _ (by simp [diV])).symm
    · rw [if_neg (by omega)]
      obtain ⟨u, hu⟩ : ∃ u, (diV (f i))[r]? = some u := by
        rcases (show r = 0 ∨ r = 1 by omega) with rfl | rfl
        · exact ⟨_, rfl⟩
        · exact ⟨_, rfl⟩
      rw [h1 f u hu]
      exact (h1 (fun k => if k = t then (x, (f k).2) else f k) u (by simpa [hit] using hu)).symm
  · rw [List.getElem?_eq_none (by rw [List.length_set, hfl]; omega), List.getElem?_eq_none (by rw [hfl]; omega)]
theorem owns_set {B : Nat} {e : TypeId} {w : World} {m : Nat} {xs : List Value} {g cap : Nat} (h : w.ownsRow B e 2 (.slice (some ⟨g, 0, none⟩) m cap) m xs) {o : Nat} (ho : o < xs.length) (u : Value) :
    (w.setCell ⟨g, o, none⟩ u).ownsRow B e 2 (.slice (some ⟨g, 0, none⟩) m cap) m (xs.set o u) := by
  refine ⟨by rw [List.length_set]; exact h.1, ?_⟩
  rcases h.2 with ⟨h2, -⟩ | ⟨g', cap', cur, h2, hb, hg, hn, hm, hsz, ht⟩
  · simp at h2
  · simp only [Value.slice.injEq, Option.some.injEq, Addr.mk.injEq, and_true, true_and] at h2
    obtain ⟨rfl, rfl⟩ := h2
    refine .inr ⟨g, cap, cur.setIfInBounds o u, rfl, hb, ?_, hn, hm, by simpa using hsz, ?_⟩
    · have hk : Blk w g cur e := hg
      exact hk.set o u
    · rw [← ht] at ho ⊢
      rw [Array.toList_setIfInBounds, List.take_set]
theorem owns_free {B : Nat} {e : TypeId} {w : World} {m : Nat} {xs : List Value} {g cap : Nat} (h : w.ownsRow B e 2 (.slice (some ⟨g, 0, none⟩) m cap) m xs) (o : Nat) : w.frozen? ⟨g, o, none⟩ = false := by
  rcases h.2 with ⟨h2, -⟩ | ⟨g', cap', cur, h2, hb, hg, hn, hm, hsz, ht⟩
  · simp at h2
  · simp only [Value.slice.injEq, Option.some.injEq, Addr.mk.injEq, and_true, true_and] at h2
    obtain ⟨rfl, rfl⟩ := h2
    have hk : Blk w g cur e := hg
    exact hk.free o
end Go.Sg
