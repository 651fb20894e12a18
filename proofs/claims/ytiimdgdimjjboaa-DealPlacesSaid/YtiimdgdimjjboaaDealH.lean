/-
  What a dealing has made, in plain Lean: each place is dealt once; who lies deeper than it may is lost; how many are lost.
-/
import Derived.Test.YtiimdgdimjjboaaDealG
namespace Go.Sg
open Go Go.RowKit
theorem end_inv {s : Sh} (hs : rightD s = true) (l : List Di) : PInv s l (realO l) (endSt s l) ∧ CInv s l (realO l) (endSt s l) := by
  unfold endSt
  refine snoc_ind (P := fun L => PInv s l L (runSt s l L) ∧ CInv s l L (runSt s l L)) (realO l) ⟨PInv.start s hs l, CInv.start s hs l⟩ (fun t ht h => ?_)
  have hm := realO_mem.1 (List.getElem_mem ht)
  have hni : (realO l)[t] ∉ (realO l).take t := fun hj => pair_take (realO_nodup l) ht _ hj rfl
  have hnn : ∀ j ∈ (realO l).take t, 0 ≤ j := fun j hj => (realO_mem.1 (List.mem_of_mem_take hj)).1.1
  rw [runSt_snoc]
  refine ⟨h.1.step hs hm.1.1 hnn hni hm.2, h.2.step hs ?_ hm.1.1 hnn hni hm.2 (fun j hj => pair_take (realO_desc l) ht j hj)⟩
  rcases Int.lt_or_le ((runSt s l ((realO l).take t)).pl (realO l)[t].toNat) 0 with h1 | h1
  · exact h1
  · have := (h.1.pos _ h1).1
    rw [Int.toNat_of_nonneg hm.1.1] at this
    exact absurd this hni
theorem nodup_le {α : Type} [DecidableEq α] : ∀ {L M : List α}, L.Nodup → (∀ x ∈ L, x ∈ M) → L.length ≤ M.length
  | [], _, _, _ => by simp
  | a :: L, M, hn, hs => by
    rw [List.nodup_cons] at hn
    have ha := hs a List.mem_cons_self
    have := nodup_le (M := M.erase a) hn.2 (fun x hx => (List.mem_erase_of_ne (fun (e : x = a) => hn.1 (by rw [← e]; exact hx))).2 (hs x (List.mem_cons_of_mem _ hx)))
    rw [List.length_erase_of_mem ha] at this
    have h2 := List.length_pos_of_mem ha
    rw [List.length_cons]
    omega
theorem nodup_perm {α : Type} [DecidableEq α] : ∀ {L M : List α}, L.Nodup → (∀ x ∈ L, x ∈ M) → M.length ≤ L.length → L.Perm M
  | [], M, _, _, h => by
    have : M = [] := List.length_eq_zero_iff.1 (by simpa using h)
    rw [this]
  | a :: L, M, hn, hs, h => by
    rw [List.nodup_cons] at hn
    have ha := hs a List.mem_cons_self
    have hl := List.length_erase_of_mem ha
    have h2 := List.length_pos_of_mem ha
    rw [List.length_cons] at h
    exact ((nodup_perm (M := M.erase a) hn.2 (fun x hx => (List.mem_erase_of_ne (fun (e : x = a) => hn.1 (by rw [← e]; exact hx))).2 (hs x (List.mem_cons_of_mem _ hx))) (by omega)).cons a).trans (List.perm_cons_erase ha).symm
theorem kept_eq {f : Nat → Int} (h : ∀ p : Nat, f p = p ∨ f p = -1) (n : Nat) : keptD f n = ((List.range n).filter (fun p => decide (0 ≤ f p))).map (fun p : Nat => (p : Int)) := by
  unfold keptD
  rw [List.filter_map]
  refine List.map_congr_left fun p hp => ?_
  have := (List.mem_filter.1 hp).2
  simp only [Function.comp, decide_eq_true_eq] at this
  rcases h p with h1 | h1 <;> omega
theorem kept_nodup {f : Nat → Int} (h : ∀ p : Nat, f p = p ∨ f p = -1) (n : Nat) : (keptD f n).Nodup := by
  rw [kept_eq h]
  exact List.Pairwise.map (R := (· ≠ ·)) _ (fun a b h => fun e => h (by omega)) (List.nodup_range.sublist List.filter_sublist)
theorem kept_in {f : Nat → Int} (h : ∀ p : Nat, f p = p ∨ f p = -1) {n : Nat} {v : Int} (hv : v ∈ keptD f n) : 0 ≤ v ∧ v < n ∧ f v.toNat = v := by
  rw [kept_eq h, List.mem_map] at hv
  obtain ⟨p, hp, rfl⟩ := hv
  rw [List.mem_filter, List.mem_range, decide_eq_true_eq] at hp
  refine ⟨by omega, by omega, ?_⟩
  rcases h p with h1 | h1
  · simpa using h1
  · omega
theorem cntN_lt {f : Nat → Int} {i n : Nat} (h : i < n) (hf : f i < 0) : cntN f i < cntN f n := by
  have := cntN_mono f (show i + 1 ≤ n from h)
  rw [cntN_succ, if_pos hf] at this
  omega
/-- where all lie at the end -/
def endG (s : Sh) (l : List Di) (i : Nat) : Int := if (endSt s l).pl i < 0 then (keptD (endSt s l).lf l.length).getD (cntN (endSt s l).pl i) 0 else (endSt s l).pl i
theorem dealP_eq {s : Sh} (hs : rightD s = true) {l : List Di} {n : Nat} (hn : (n : Int) = placesD s) (hl : l.length = n) : dealP s l = (List.range n).map (endG s l) := by
  have hfit : fitD s l = true := by unfold fitD; rw [hs, hl, decide_eq_true hn]; rfl
  unfold dealP
  rw [hfit, if_pos rfl]
  refine List.ext_getElem? fun i => ?_
  by_cases hi : i < l.length
  · rw [fill_get _ _ hi, List.getElem?_map, List.getElem?_range (by omega)]
    rfl
  · rw [List.getElem?_eq_none (by rw [fillL_len]; simp; omega), List.getElem?_eq_none (by simp; omega)]
theorem dealLost_eq {s : Sh} (hs : rightD s = true) {l : List Di} {n : Nat} (hn : (n : Int) = placesD s) (hl : l.length = n) : dealLost s l = (endSt s l).lost := by
  have hfit : fitD s l = true := by unfold fitD; rw [hs, hl, decide_eq_true hn]; rfl
  unfold dealLost
  rw [hfit, if_pos rfl]
/-- the counts of places taken and left -/
theorem end_cnt {s : Sh} (hs : rightD s = true) {l : List Di} {n : Nat} (hn : (n : Int) = levelsD s + s.2.2 + 1) (hl : l.length = n) : cntN (endSt s l).lf n + cntN (endSt s l).pl n = n := by
  have h : DInv s n (realO l) (endSt s l) := by
    unfold endSt
    refine snoc_ind (P := fun L => DInv s n L (runSt s l L)) (realO l) (DInv.start s hs n) (fun t ht h => ?_)
    have hm := realO_mem.1 (List.getElem_mem ht)
    rw [runSt_snoc]
    exact (h.step hs hn hm.1.1 (by omega) (fun hj => pair_take (realO_nodup l) ht _ hj rfl) hm.2).1
  exact h.cnt
theorem endG_in {s : Sh} (hs : rightD s = true) {l : List Di} {n : Nat} (hn : (n : Int) = levelsD s + s.2.2 + 1) (hl : l.length = n) {i : Nat} (hi : i < n) :
    (0 ≤ (endSt s l).pl i ∧ endG s l i = (endSt s l).pl i) ∨ ((endSt s l).pl i < 0 ∧ ∃ h : cntN (endSt s l).pl i < (keptD (endSt s l).lf n).length, endG s l i = (keptD (endSt s l).lf n)[cntN (endSt s l).pl i]) := by
  have hc := end_cnt hs hn hl
  have hk := kept_cnt (endSt s l).lf n
  unfold endG
  rw [hl]
  by_cases h : (endSt s l).pl i < 0
  · right
    have h1 := cntN_lt hi h
    have h2 : cntN (endSt s l).pl i < (keptD (endSt s l).lf n).length := by omega
    refine ⟨h, h2, ?_⟩
    rw [if_pos h, List.getD_eq_getElem?_getD, List.getElem?_eq_getElem h2]
    rfl
  · exact .inl ⟨by omega, by rw [if_neg h]⟩
theorem deal_perm {s : Sh} (hs : rightD s = true) {l : List Di} {n : Nat} (hn : (n : Int) = placesD s) (hl : l.length = n) : (dealP s l).Perm (idx n) := by
  have hn' : (n : Int) = levelsD s + s.2.2 + 1 := by rw [hn]; unfold placesD; rw [if_pos hs]
  obtain ⟨hp, -⟩ := end_inv hs l
  have hlb := levelsD_bd hs
  rw [dealP_eq hs hn hl]
  refine nodup_perm ?_ (fun x hx => ?_) (by rw [idx_len]; simp)
  · rw [List.Nodup, List.pairwise_map]
    refine List.pairwise_lt_range.imp_of_mem fun {a b} ha hb hab => ?_
    rw [List.mem_range] at ha hb
    rcases endG_in hs hn' hl ha with ⟨a1, a2⟩ | ⟨a1, a3, a2⟩ <;> rcases endG_in hs hn' hl hb with ⟨b1, b2⟩ | ⟨b1, b3, b2⟩ <;> rw [a2, b2]
    · exact fun e => by have := hp.inj a b a1 e; omega
    · intro e
      have h1 := kept_in hp.lf (List.getElem_mem b3)
      rw [← e] at h1
      have := hp.off a a1
      omega
    · intro e
      have h1 := kept_in hp.lf (List.getElem_mem a3)
      rw [e] at h1
      have := hp.off b b1
      omega
    · intro e
      have h1 := cntN_lt hab a1
      have h2 := kept_nodup hp.lf n
      rw [List.Nodup, List.pairwise_iff_getElem] at h2
      exact h2 _ _ a3 b3 h1 e
  · rw [List.mem_map] at hx
    obtain ⟨i, hi, rfl⟩ := hx
    rw [List.mem_range] at hi
    rw [idx_mem]
    rcases endG_in hs hn' hl hi with ⟨a1, a2⟩ | ⟨a1, a3, a2⟩ <;> rw [a2]
    · have := (hp.pos i a1).2.1
      omega
    · have h1 := kept_in hp.lf (List.getElem_mem a3)
      omega
/-- an item that is not lost -/
theorem deal_kept {s : Sh} (hs : rightD s = true) {l : List Di} {n : Nat} (hn : (n : Int) = placesD s) (hl : l.length = n) {i : Nat} (hi : i < n) (hd : 0 ≤ (getD' l (i : Int)).2) :
    (i : Int) ∈ (endSt s l).lost ∨ (0 ≤ (endSt s l).pl i ∧ endG s l i = (endSt s l).pl i ∧ endG s l i < (n : Int) - 1 ∧ (endG s l i < levelsD s → endG s l i / s.2.1 ≤ (getD' l (i : Int)).2)) := by
  have hn' : (n : Int) = levelsD s + s.2.2 + 1 := by rw [hn]; unfold placesD; rw [if_pos hs]
  obtain ⟨hp, -⟩ := end_inv hs l
  rcases hp.all (i : Int) (realO_mem.2 ⟨by omega, hd⟩) with h | h
  · exact .inl h
  · right
    rw [Int.toNat_natCast] at h
    obtain ⟨-, h1, -, h2⟩ := hp.pos i h
    have e : endG s l i = (endSt s l).pl i := by unfold endG; rw [if_neg (by omega)]
    rw [e]
    exact ⟨h, rfl, by omega, h2⟩
def realN (l : List Di) (i : Nat) : Bool := decide (0 ≤ (getD' l (i : Int)).2)
def badN (s : Sh) (l : List Di) (n : Nat) (i : Nat) : Bool := realN l i && (decide (endG s l i = (n : Int) - 1) || (decide (endG s l i < levelsD s) && decide ((getD' l (i : Int)).2 < endG s l i / s.2.1)))
theorem once_facts {s : Sh} (hs : rightD s = true) {l : List Di} {n : Nat} (hn : (n : Int) = placesD s) (hl : l.length = n) :
    (List.range n).countP (badN s l n) ≤ (dealLost s l).length ∧ ((dealLost s l).length : Int) ≤ max 0 (((List.range n).countP (realN l) : Nat) - s.2.2) := by
  have hs' := rightD_iff.1 hs
  rw [dealLost_eq hs hn hl]
  constructor
  · have h1 : (((List.range n).filter (badN s l n)).map (fun i : Nat => (i : Int))).length ≤ (endSt s l).lost.length := by
      refine nodup_le (List.Pairwise.map (R := (· ≠ ·)) _ (fun a b h => fun e => h (by omega)) (List.nodup_range.sublist List.filter_sublist)) fun x hx => ?_
      rw [List.mem_map] at hx
      obtain ⟨i, hi, rfl⟩ := hx
      rw [List.mem_filter, List.mem_range] at hi
      obtain ⟨hi, hb⟩ := hi
      unfold badN realN at hb
      simp only [Bool.and_eq_true, Bool.or_eq_true, decide_eq_true_eq] at hb
      rcases deal_kept hs hn hl hi hb.1 with h | ⟨-, -, h2, h3⟩
      · exact h
      · exfalso
        rcases hb.2 with h4 | ⟨h4, h5⟩
        · omega
        · have := h3 h4; omega
    rw [List.length_map] at h1
    rw [List.countP_eq_length_filter]
    exact h1
  · obtain ⟨-, hc⟩ := end_inv hs l
    have h1 : (realO l).length = (List.range n).countP (realN l) := by
      have := realO_count l (fun _ => true)
      rw [List.countP_true] at this
      rw [this, hl]
      exact List.countP_congr fun i _ => by simp [realN]
    rw [← h1]
    have h2 := hc.cnt
    rcases Classical.em ((endSt s l).lost = []) with h | h
    · rw [h]; simp only [List.length_nil]; omega
    · have := (hc.full h).2
      omega
/-- the most that must be left over -/
def inN (s : Sh) (l : List Di) (d : Int) (i : Nat) : Bool := realN l i && decide (min (getD' l (i : Int)).2 s.1 ≤ d)
def mostD (s : Sh) (l : List Di) (n : Nat) : Nat → Int
  | 0 => 0
  | d + 1 => max (mostD s l n d) (((List.range n).countP (inN s l d) : Nat) - s.2.1 * ((d : Int) + 1))
def overN (s : Sh) (l : List Di) (n : Nat) (i : Nat) : Bool := (realN l i && decide (levelsD s ≤ endG s l i)) && decide (endG s l i < (n : Int) - 1)
theorem inN_eq (s : Sh) {l : List Di} {n : Nat} (hl : l.length = n) (d : Int) : (((List.range n).countP (inN s l d) : Nat) : Int) = inC s l (realO l) d := by
  unfold inC
  rw [realO_count, hl]
  congr 1
  exact List.countP_congr fun i _ => by unfold inN realN; rw [Bool.and_comm]
theorem few_facts {s : Sh} (hs : rightD s = true) {l : List Di} {n : Nat} (hn : (n : Int) = placesD s) (hl : l.length = n) {D : Nat} (hD : s.1 = (D : Int)) :
    ((dealLost s l).length : Int) = max 0 (mostD s l n (D + 1) - s.2.2) ∧ (dealLost s l = [] → (((List.range n).countP (overN s l n) : Nat) : Int) = mostD s l n (D + 1)) := by
  have hs' := rightD_iff.1 hs
  have hn' : (n : Int) = levelsD s + s.2.2 + 1 := by rw [hn]; unfold placesD; rw [if_pos hs]
  obtain ⟨hp, hc⟩ := end_inv hs l
  rw [dealLost_eq hs hn hl]
  obtain ⟨o1, o2, o3, o4, o5, o6⟩ := hc.ok
  have hO : 0 ≤ (endSt s l).ds.2.2 + (endSt s l).lost.length := by omega
  have hmost : mostD s l n (D + 1) = (endSt s l).ds.2.2 + (endSt s l).lost.length := by
    have hup : ∀ d, d ≤ D + 1 → mostD s l n d ≤ (endSt s l).ds.2.2 + (endSt s l).lost.length := by
      intro d
      induction d with
      | zero => intro _; exact hO
      | succ d ih =>
        intro hd
        have h1 := ih (by omega)
        have h2 := hc.up d (by omega) (by omega)
        rw [← inN_eq s hl] at h2
        have h3 : (if (d : Int) < (endSt s l).ds.1 then 0 else ((d : Int) - (endSt s l).ds.1) * s.2.1 + (endSt s l).ds.2.1) ≤ s.2.1 * ((d : Int) + 1) := by
          have h5 : 0 ≤ s.2.1 * ((d : Int) + 1) := Int.mul_nonneg (by omega) (by omega)
          by_cases h6 : (d : Int) < (endSt s l).ds.1
          · rw [if_pos h6]; exact h5
          · rw [if_neg h6]
            have h7 : ((d : Int) - (endSt s l).ds.1) * s.2.1 ≤ ((d : Int) + 1) * s.2.1 := mulS (by omega) (by omega)
            by_cases h8 : (endSt s l).ds.1 < 0
            · rw [hc.col h8, Int.mul_comm s.2.1]; omega
            · have h9 : ((d : Int) - (endSt s l).ds.1 + 1) * s.2.1 ≤ ((d : Int) + 1) * s.2.1 := mulS (by omega) (by omega)
              rw [Int.add_mul, Int.one_mul] at h9
              rw [Int.mul_comm s.2.1]
              omega
        unfold mostD
        omega
    have hmono : ∀ d e, d ≤ e → mostD s l n d ≤ mostD s l n e := by
      intro d e
      induction e with
      | zero => intro h; rw [show d = 0 by omega]; exact Int.le_refl _
      | succ e ih =>
        intro h
        by_cases h1 : d = e + 1
        · rw [h1]; exact Int.le_refl _
        · have := ih (by omega)
          have h2 : mostD s l n e ≤ mostD s l n (e + 1) := by rw [mostD]; omega
          omega
    obtain ⟨R, r1, r2, r3, -, r5⟩ := hc.eq
    obtain ⟨r, rfl⟩ : ∃ r : Nat, R = r := ⟨R.toNat, by omega⟩
    have h1 : ((List.range n).countP (inN s l r) : Nat) - s.2.1 * ((r : Int) + 1) ≤ mostD s l n (r + 1) := by rw [mostD]; omega
    have h2 := hmono (r + 1) (D + 1) (by omega)
    have h3 := hup (D + 1) (Nat.le_refl _)
    have h0 := hmono 0 (D + 1) (by omega)
    have h00 : mostD s l n 0 = 0 := rfl
    rw [inN_eq s hl, r5] at h1
    rcases hc.top with h4 | ⟨h4, h5⟩
    · have h6 : (endSt s l).ds.1 = -1 := by omega
      rw [hc.col h4, h6, show (r : Int) - -1 = r + 1 by omega, Int.mul_comm] at h1
      omega
    · rw [h5, h4] at h3 ⊢
      simp only [List.length_nil] at *
      omega
  rw [hmost]
  constructor
  · rcases Classical.em ((endSt s l).lost = []) with h | h
    · rw [h]; simp only [List.length_nil]; omega
    · have := (hc.full h).2
      omega
  · intro hlost
    rw [hlost]
    have h1 := hc.sh
    rw [realO_count, hl] at h1
    have h2 : (List.range n).countP (overN s l n) = (List.range n).countP (fun i : Nat => decide (levelsD s ≤ (endSt s l).pl (i : Int).toNat) && decide (0 ≤ (getD' l (i : Int)).2)) := by
      refine List.countP_congr fun i hi => ?_
      rw [List.mem_range] at hi
      unfold overN realN
      simp only [Bool.and_eq_true, decide_eq_true_eq, Int.toNat_natCast]
      constructor
      · rintro ⟨⟨h3, h4⟩, h5⟩
        rcases deal_kept hs hn hl hi h3 with h | ⟨h6, h7, -, -⟩
        · rw [hlost] at h; simp at h
        · exact ⟨by omega, h3⟩
      · rintro ⟨h3, h4⟩
        rcases deal_kept hs hn hl hi h4 with h | ⟨h6, h7, h8, -⟩
        · rw [hlost] at h; simp at h
        · exact ⟨⟨h4, by omega⟩, h8⟩
    rw [h2, h1]
    simp
end Go.Sg
