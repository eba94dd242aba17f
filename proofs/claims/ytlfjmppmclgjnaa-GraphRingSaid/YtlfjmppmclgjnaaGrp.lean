/- Growing, plain. -/
import Derived.Test.YtlfjmppmclgjnaaReW
import Derived.Test.YtlfjmppmclgjnaaHo
namespace Go.Proofs.Ytlfjmppmclgjnaa

theorem led_app {g : List (List Int)} {S T : List Int} {y : Nat} (h : Led g S y) : Led g (S ++ T) y :=
  h.mono fun _ hx => Led.start (List.mem_append_left _ hx)

theorem reach_more (g : List (List Int)) (S T : List Int) : ((reachL g S).all fun y => (reachL g (S ++ T)).any fun x => x == y) = true := by
  rw [List.all_eq_true]
  intro y hy
  obtain ⟨h0, h1, h2⟩ := reachL_mem.1 hy
  rw [List.any_eq_true]
  exact ⟨y, reachL_mem.2 ⟨h0, h1, led_app h2⟩, by simp⟩

theorem reach_holds {g : List (List Int)} {S : List Int} (hS : ∀ x ∈ S, 0 ≤ x ∧ x < g.length) : (S.all fun y => (reachL g S).any fun x => x == y) = true := by
  rw [List.all_eq_true]
  intro y hy
  rw [List.any_eq_true]
  exact ⟨y, reachL_mem.2 ⟨(hS y hy).1, (hS y hy).2, Led.start hy⟩, by simp⟩

theorem led_again {g : List (List Int)} {S : List Int} (hS : ∀ x ∈ S, 0 ≤ x ∧ x < g.length) : ledB g (reachL g S) = ledB g S := by
  funext y
  rw [Bool.eq_iff_iff, ledB_iff, ledB_iff]
  exact ⟨fun h => h.mono fun x hx => (reachL_mem.1 hx).2.2, fun h => h.mono fun x hx => Led.start (reachL_mem.2 ⟨(hS x hx).1, (hS x hx).2, Led.start hx⟩)⟩

theorem reach_again {g : List (List Int)} {S : List Int} (hS : ∀ x ∈ S, 0 ≤ x ∧ x < g.length) : reachL g (reachL g S) = reachL g S := by
  unfold reachL
  rw [show ledB g (((List.range g.length).filter (ledB g S)).map Int.ofNat) = ledB g S from led_again hS]

theorem wrong_more {g : List (List Int)} {S T : List Int} (h : wrongB g S = true) : wrongB g (S ++ T) = true := by
  unfold wrongB at h ⊢
  simp only [List.any_append, Bool.or_eq_true] at h ⊢
  rcases h with (h | h) | h
  · exact .inl (.inl h)
  · exact .inl (.inr (.inl h))
  · exact .inr h

theorem wrong_reach {g : List (List Int)} {S : List Int} (h : wrongB g S = false) : wrongB g (reachL g S) = false := by
  have h1 : (reachL g S).any (badB g.length) = false := by
    rw [List.any_eq_false]
    intro x hx
    obtain ⟨h0, h1, _⟩ := reachL_mem.1 hx
    simp [badB]; omega
  unfold wrongB at h ⊢
  simp only [Bool.or_eq_false_iff] at h ⊢
  exact ⟨⟨h.1.1, h1⟩, h.2⟩

end Go.Proofs.Ytlfjmppmclgjnaa
