/-
  Who goes first: plain facts of cells that are unlike.
-/
import Derived.Test.YtmnnfhplgepiaaaPolL
namespace Go.Sg
theorem nodup_inj {l : List It} (h : (l.map (·.1)).Nodup) {x y : It} (hx : x ∈ l) (hy : y ∈ l) (e : x.1 = y.1) : x = y := by
  induction l with
  | nil => cases hx
  | cons a l ih =>
    rw [List.map_cons, List.nodup_cons] at h
    rcases List.mem_cons.1 hx with h1 | h1
    · rcases List.mem_cons.1 hy with h2 | h2
      · rw [h1, h2]
      · exact absurd (by rw [← h1, e]; exact List.mem_map_of_mem (f := fun x : It => x.1) h2) h.1
    · rcases List.mem_cons.1 hy with h2 | h2
      · exact absurd (by rw [← h2, ← e]; exact List.mem_map_of_mem (f := fun x : It => x.1) h1) h.1
      · exact ih h.2 h1 h2
theorem srt_nodup {l : List It} (h : (l.map (·.1)).Nodup) : ((srtI l).map (·.1)).Nodup := (((srtI_perm l).map (·.1)).nodup_iff).2 h
theorem vict_nodup {l : List It} (h : (l.map (·.1)).Nodup) (cap batch : Int) : (victI l cap batch).Nodup := by
  unfold victI
  rw [List.map_take]
  exact (srt_nodup h).sublist (List.take_sublist _ _)
theorem vict_mem {l : List It} {cap batch c : Int} (h : c ∈ victI l cap batch) : ∃ x ∈ l, x.1 = c := by
  unfold victI at h
  obtain ⟨x, hx, rfl⟩ := List.mem_map.1 h
  exact ⟨x, (srtI_perm l).mem_iff.1 (List.mem_of_mem_take hx), rfl⟩
theorem vict_in {l : List It} (hn : (l.map (·.1)).Nodup) {cap batch : Int} {x : It} (hx : x ∈ l) (h : x.1 ∈ victI l cap batch) : x ∈ (srtI l).take (goI l cap batch) := by
  unfold victI at h
  obtain ⟨y, hy, e⟩ := List.mem_map.1 h
  rw [nodup_inj hn hx ((srtI_perm l).mem_iff.1 (List.mem_of_mem_take hy)) e.symm]
  exact hy
theorem vict_out {l : List It} {cap batch : Int} {x : It} (hx : x ∈ l) (h : x.1 ∉ victI l cap batch) : x ∈ (srtI l).drop (goI l cap batch) := by
  have := (srtI_perm l).mem_iff.2 hx
  rw [← List.take_append_drop (goI l cap batch) (srtI l)] at this
  rcases List.mem_append.1 this with h1 | h1
  · exact absurd (List.mem_map_of_mem (f := fun x : It => x.1) h1) h
  · exact h1
/-- who goes is ahead of who stays -/
theorem vict_pair {l : List It} (hn : (l.map (·.1)).Nodup) {cap batch : Int} {x y : It} (hx : x ∈ l) (hy : y ∈ l) (h1 : x.1 ∈ victI l cap batch) (h2 : y.1 ∉ victI l cap batch) : leI x y :=
  vict_ahead (vict_in hn hx h1) (vict_out hy h2)
theorem keyI_bd (x : It) : 0 ≤ x.2.1 % 4611686018427387904 ∧ x.2.1 % 4611686018427387904 < 4611686018427387904 := ⟨by omega, by omega⟩
/-- .. so no one stays that is expired, or of a lesser rank -/
theorem leI_bad {x y : It} (h : leI x y) : ¬ (y.2.2 = true ∧ x.2.2 = false) ∧ ¬ (y.2.2 = x.2.2 ∧ y.2.1 % 4611686018427387904 < x.2.1 % 4611686018427387904) := by
  rw [leI_iff] at h
  have h1 := keyI_bd x
  have h2 := keyI_bd y
  unfold keyI at h
  constructor
  · rintro ⟨a, b⟩
    rw [a, b] at h
    simp at h
    omega
  · rintro ⟨a, b⟩
    rw [a] at h
    by_cases e : x.2.2 = true
    · simp only [if_pos e] at h; omega
    · simp only [if_neg e] at h; omega
/-- who is left -/
def leftI (l : List It) (gone : List Int) : List It := l.filter (fun x => !gone.contains x.1)
theorem left_len {l : List It} (hn : (l.map (·.1)).Nodup) (cap batch : Int) : (leftI l (victI l cap batch)).length = l.length - goI l cap batch := by
  have hp : (leftI l (victI l cap batch)).Perm (leftI (srtI l) (victI l cap batch)) := (srtI_perm l).symm.filter _
  rw [hp.length_eq]
  unfold leftI
  have e := List.take_append_drop (goI l cap batch) (srtI l)
  have h1 : ((srtI l).take (goI l cap batch)).filter (fun x => !(victI l cap batch).contains x.1) = [] := by
    rw [List.filter_eq_nil_iff]
    intro x hx
    have : x.1 ∈ victI l cap batch := List.mem_map_of_mem (f := fun x : It => x.1) hx
    simp [this]
  have h2 : ((srtI l).drop (goI l cap batch)).filter (fun x => !(victI l cap batch).contains x.1) = (srtI l).drop (goI l cap batch) := by
    rw [List.filter_eq_self]
    intro x hx
    have hns := srt_nodup hn
    rw [← e, List.map_append] at hns
    have hd := (List.nodup_append.1 hns).2.2
    have : x.1 ∉ victI l cap batch := fun h => hd _ h _ (List.mem_map_of_mem (f := fun x : It => x.1) hx) rfl
    simp [this]
  have h3 : (srtI l).filter (fun x => !(victI l cap batch).contains x.1) = (srtI l).drop (goI l cap batch) := by
    have : (srtI l).filter (fun x => !(victI l cap batch).contains x.1) = ((srtI l).take (goI l cap batch) ++ (srtI l).drop (goI l cap batch)).filter (fun x => !(victI l cap batch).contains x.1) := by rw [e]
    rw [this, List.filter_append, h1, h2, List.nil_append]
  rw [h3, List.length_drop, srtI_len]
theorem left_nodup {l : List It} (hn : (l.map (·.1)).Nodup) (gone : List Int) : ((leftI l gone).map (·.1)).Nodup := hn.sublist (List.filter_sublist.map _)
theorem wrapI_id {n : Int} (h0 : -9223372036854775808 ≤ n) (h1 : n ≤ 9223372036854775807) : wrapI n = n := by unfold wrapI; omega
/-- how many go -/
theorem go_bd {l : List It} {cap batch : Int} (h0 : 0 ≤ cap) (h1 : 0 ≤ batch) (h2 : cap ≤ 1000000) (hl : (l.length : Int) ≤ 1000000) (h : (l.length : Int) ≤ cap + batch) :
    (l.length : Int) - goI l cap batch ≤ cap ∧ (goI l cap batch : Int) ≤ batch ∧ min (cntE l : Int) batch ≤ goI l cap batch := by
  have hc := cntE_le l
  unfold goI manyI
  rw [wrapI_id (by omega) (by omega)]
  omega
end Go.Sg
