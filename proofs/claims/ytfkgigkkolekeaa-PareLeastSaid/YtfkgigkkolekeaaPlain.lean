/- The plain law of PareLeast: what is left is there, none of it can be left out, it is a row within the row. -/
import Derived.Test.YtfkgigkkolekeaaRound
namespace Go.Proofs.Ytfkgigkkolekeaa
theorem rnd_has (h : List Int → Bool) : ∀ n l, h l = true → h (rnd h n l).1 = true
  | 0, l, hl => hl
  | n + 1, l, hl => by
    unfold rnd
    split
    · rename_i hy
      exact rnd_has h n _ hy
    · exact rnd_has h n l hl
theorem rnd_sub (h : List Int → Bool) : ∀ n l, (rnd h n l).1.Sublist l
  | 0, l => List.Sublist.refl l
  | n + 1, l => by
    unfold rnd
    split
    · exact (rnd_sub h n _).trans (List.eraseIdx_sublist l n)
    · exact rnd_sub h n l
theorem rnd_none (h : List Int → Bool) : ∀ n l, (rnd h n l).2 = false → (rnd h n l).1 = l ∧ ∀ i, i < n → h (l.eraseIdx i) = false
  | 0, l, _ => ⟨rfl, fun i hi => by omega⟩
  | n + 1, l, hn => by
    unfold rnd at hn ⊢
    split at hn
    · simp at hn
    · rename_i hy
      rw [if_neg hy]
      obtain ⟨h1, h2⟩ := rnd_none h n l hn
      refine ⟨h1, fun i hi => ?_⟩
      by_cases e : i = n
      · rw [e]; simpa using hy
      · exact h2 i (by omega)
theorem dwn_all (h : List Int → Bool) : ∀ f l, l.length < f → h l = true → h (dwn h f l).1 = true ∧ (dwn h f l).1.Sublist l ∧ ∀ i, i < (dwn h f l).1.length → h ((dwn h f l).1.eraseIdx i) = false
  | 0, l, hf, _ => by omega
  | f + 1, l, hf, hl => by
    have hr := rnd_len h l.length l (Nat.le_refl _)
    have hh := rnd_has h l.length l hl
    have hs := rnd_sub h l.length l
    unfold dwn
    cases hc : (rnd h l.length l).2 with
    | true =>
      have ih := dwn_all h f (rnd h l.length l).1 (by have := hr.2 hc; omega) hh
      simp only [if_true]
      exact ⟨ih.1, ih.2.1.trans hs, ih.2.2⟩
    | false =>
      obtain ⟨h1, h2⟩ := rnd_none h l.length l hc
      simp only [Bool.false_eq_true, if_false]
      rw [h1]
      exact ⟨hl, List.Sublist.refl _, h2⟩
theorem down_all (h : List Int → Bool) (l : List Int) (hl : h l = true) : h (down h l).1 = true ∧ (down h l).1.Sublist l ∧ ∀ i, i < (down h l).1.length → h ((down h l).1.eraseIdx i) = false := by
  unfold down
  rw [if_pos hl]
  exact dwn_all h (l.length + 1) l (by omega) hl
theorem sub_yes {l m : List Int} {i k : Nat} {x : Int} (hl : l[i]? = some x) (hm : m[k]? = some x) (h : (m.drop k).Sublist (l.drop i)) : (m.drop (k + 1)).Sublist (l.drop (i + 1)) := by
  obtain ⟨h1, e1⟩ := List.getElem?_eq_some_iff.1 hl
  obtain ⟨h2, e2⟩ := List.getElem?_eq_some_iff.1 hm
  rw [List.drop_eq_getElem_cons h1, List.drop_eq_getElem_cons h2, e1, e2] at h
  exact List.cons_sublist_cons.1 h
theorem sub_no {l m : List Int} {i k : Nat} {x y : Int} (hl : l[i]? = some x) (hm : m[k]? = some y) (hne : ¬ x = y) (h : (m.drop k).Sublist (l.drop i)) : (m.drop k).Sublist (l.drop (i + 1)) := by
  obtain ⟨h1, e1⟩ := List.getElem?_eq_some_iff.1 hl
  obtain ⟨h2, e2⟩ := List.getElem?_eq_some_iff.1 hm
  rw [List.drop_eq_getElem_cons h1, List.drop_eq_getElem_cons h2, e1, e2] at h
  rw [List.drop_eq_getElem_cons h2, e2]
  cases h with
  | cons _ h => exact h
  | cons_cons _ h => exact absurd rfl hne
end Go.Proofs.Ytfkgigkkolekeaa
