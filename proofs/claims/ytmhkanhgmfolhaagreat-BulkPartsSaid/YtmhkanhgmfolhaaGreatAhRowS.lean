/- Slices of rows of integers that came in. -/
import Derived.Test.YtmhkanhgmfolhaaGreatAhRow
import Derived.ChangeArms
set_option linter.unusedVariables false
set_option linter.unusedSimpArgs false
namespace Go.AH

theorem addr_adds {a : Addr} (h : a.spot = none) (n : Nat) : a.add n = ⟨a.block, a.off + n, none⟩ := by
  unfold Addr.add
  cases a
  simp only at h
  subst h
  split <;> simp_all

theorem rel_rows {w : World} {k : IntKind} {a : Addr} {len cap sz : Nat} (rows : List (List Int)) (hl : rows.length = len) (hs : ∀ r, r ∈ rows → r.length = sz) (h0 : 0 < sz) (hc : len ≤ cap)
    (h : ∀ (i : Nat) (r : List Int), rows[i]? = some r → ∀ j, j < sz → w.cell? ((a.add (i * sz)).add j) = some (.int k (r.getD j 0))) :
    RelE (fun _ => True) (fun _ => none) w (.vs (rows.map fun r => r.map (D.int k))) (.slice (some a) len cap) := by
  have hlr : (rows.map fun r => r.map (D.int k)).length = len := by simpa using hl
  rw [← hlr]
  refine .pur _ _ (.vs _ (some a) cap sz (fun i j => .int k ((rows.getD i []).getD j 0)) (by rw [hlr]; exact hc) ?_ ?_ ?_)
  · intro r hr
    simp only [List.mem_map] at hr
    obtain ⟨x, hx, rfl⟩ := hr
    simpa using hs x hx
  · intro hne
    have hpos : 0 < rows.length := by
      cases rows with
      | nil => simp at hne
      | cons x xs => simp
    obtain ⟨r0, hr0⟩ : ∃ r, rows[0]? = some r := ⟨rows[0], by simp [hpos]⟩
    have hcell := h 0 r0 hr0 0 h0
    rw [show ((a.add (0 * sz)).add 0) = a by simp [Addr.add]] at hcell
    have hsp : a.spot = none ∧ a.block < w.heap.size := by
      unfold World.cell? at hcell
      split at hcell
      · rename_i hh
        refine ⟨?_, (Array.getElem?_eq_some_iff.1 hh).1⟩
        cases hsp : a.spot with
        | none => rfl
        | some x => simp [hsp] at hcell
      · cases hcell
    refine ⟨a.block, a.off, ?_, ⟨trivial, fun b bi hb => by simp at hb⟩, ?_, ?_⟩
    · obtain ⟨b, o, sp⟩ := a
      obtain ⟨h1, h2⟩ := hsp
      simp only at h1
      subst h1
      rfl
    · exact hsp.2
    · intro i j hi hj
      simp only [List.length_map] at hi
      obtain ⟨r, hr⟩ : ∃ r, rows[i]? = some r := ⟨rows[i], by simp [hi]⟩
      have := h i r hr j hj
      refine ⟨?_, rfl⟩
      have hg : rows.getD i [] = r := by simp [List.getD, hr]
      rw [hg, ← this, addr_adds hsp.1, addr_adds rfl]
      congr 2
      simp only [Nat.add_assoc]
  · intro i j r d hi hj
    simp only [List.getElem?_map, Option.map_eq_some_iff] at hi
    obtain ⟨x, hx, rfl⟩ := hi
    simp only [List.getElem?_map, Option.map_eq_some_iff] at hj
    obtain ⟨z, hz, rfl⟩ := hj
    have : (rows.getD i []).getD j 0 = z := by simp [List.getD, hx, hz]
    rw [this]
    exact .int _ _
end Go.AH
