/- The plain collector: what it leaves is a heap. -/
import Derived.Test.YtkmfohocicngaaaCopy2
namespace Go.Proofs.Ytkmfohocicngaaa

theorem fwd_plain {T : Tl} {x : Int} (h : isP x = false) : fwd T x = x := by simp [fwd, h]
theorem fwd_ptr {T : Tl} {x : Int} {p : Nat} (h : isP x = true) (hn : newAt T (x / 8).toNat = some p) : fwd T x = (p : Int) * 8 + 5 := by simp [fwd, h, hn]

theorem isP_mk (p : Nat) : isP ((p : Int) * 8 + 5) = true := by simp [isP]
theorem place_mk (p : Nat) : (((p : Int) * 8 + 5) / 8).toNat = p := by omega

theorem right_mk {L : List Ob} {p : Nat} {o : Ob} (h : atL L p = some o) : rightL L ((p : Int) * 8 + 5) = true := by
  unfold rightL
  rw [isP_mk, place_mk, h]
  simp; omega

theorem fwd_right {L : List Ob} {T : Tl} {x : Int} (hx : I64 x) (hc : come T x) (ht : total (obs T) ≤ 4194304) (_h : L = L) : I64 (fwd T x) ∧ rightL (obs T) (fwd T x) = true := by
  by_cases hp : isP x = true
  · cases hn : newAt T (x / 8).toNat with
    | none => exact absurd hn (hc hp)
    | some p =>
      obtain ⟨i, o, hi, rfl⟩ := newAt_some hn
      have hl := offs_lt (List.getElem?_eq_some_iff.1 hi).1
      rw [fwd_ptr hp hn]
      exact ⟨⟨by omega, by omega⟩, right_mk (at_offs hi)⟩
  · have hp' : isP x = false := by simpa using hp
    rw [fwd_plain hp']
    exact ⟨hx, by simp [rightL, hp']⟩

theorem Sc.wf {L : List Ob} {T : Tl} (hL : WfL L) (h : Sc L T T.length 0) (ht : Go.Proofs.Ytkmfohocicngaaa.total (obs T) ≤ 4194304) : WfL (obs T) := by
  have key : ∀ o ∈ obs T, ∃ o0 ∈ L, o.1 = o0.1 ∧ o.2.length = o0.2.length ∧ ∀ x ∈ o.2, I64 x ∧ rightL (obs T) x = true := by
    intro o ho
    obtain ⟨p, hp, rfl⟩ := List.mem_map.1 ho
    obtain ⟨n, hn, hpn⟩ := List.getElem_of_mem hp
    obtain ⟨o0, h1, h2, h3, h4⟩ := h.ent n p.1 p.2 (by rw [List.getElem?_eq_getElem hn, hpn])
    have hm := (atL_words h1).2.2.2
    refine ⟨o0, hm, h2, h3, fun x hx => ?_⟩
    obtain ⟨m, hm', hxm⟩ := List.getElem_of_mem hx
    have hm0 : m < o0.2.length := by omega
    obtain ⟨hc, he⟩ := (h4 m (o0.2[m]) (List.getElem?_eq_getElem hm0)).1 (.inl hn)
    rw [List.getElem?_eq_getElem hm', hxm] at he
    rw [Option.some.inj he]
    exact fwd_right (L := L) ((hL.each o0 hm).i64 _ (List.getElem_mem hm0)) hc ht rfl
  refine ⟨fun o ho => ?_, fun o ho x hx => ?_⟩
  · obtain ⟨o0, hm, h2, h3, h4⟩ := key o ho
    obtain ⟨a, b, c, _⟩ := hL.each o0 hm
    exact ⟨by rw [h2]; exact a, by rw [h2]; exact b, by rw [h3]; exact c, fun x hx => (h4 x hx).1⟩
  · obtain ⟨o0, hm, h2, h3, h4⟩ := key o ho
    exact (h4 x hx).2

theorem collect_wf {L : List Ob} (roots : List Int) (hL : WfL L) (ht : total L ≤ 4194304) : WfL (collectR L roots).1 ∧ total (collectR L roots).1 ≤ total L := by
  have h := collect_sc roots hL
  exact ⟨h.wf hL (by have := h.total; omega), h.total⟩

end Go.Proofs.Ytkmfohocicngaaa
