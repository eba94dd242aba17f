/- number and Pointer of the laws, walked; the state of 'shape'. -/
import Derived.Test.YtkmfohocicngaaaSetsW
import Derived.Test.YtkmfohocicngaaaCopy4
namespace Go.Proofs.Ytkmfohocicngaaa
open Go.RowKit

theorem pointer_law (v : Int) (w : World) : Calls Try.prog 28 #[.int .i64 v] w fun e w' => e = .returned (.bool (isP v)) ∧ w = w' := by
  have hb := bits_and7 v
  go_enter Try.func28, Try.ntmps28
  go_wp2
  go_ret
  exact ⟨rfl, rfl⟩

theorem number_any {w : World} {A : Option Addr} {n c : Nat} {xs : List Int} (p : Int) (hx : Rd w (.slice A n c) 1 n (xs.map (.int .i64))) (hn : n = xs.length) (hl : n ≤ 100000000) :
    Calls Try.prog 45 #[.slice A n c, .int .i64 p] w fun e w' => e = .returned (.int .i64 (numW xs p)) ∧ w = w' := by
  have HP := hide (pointer_law p w)
  cases hp : isP p
  · rw [hp] at HP
    have HE : Hid (numW xs p = p) := by show numW xs p = p; unfold numW; simp [hp]
    clear hp hx hn
    go_enter Try.func45, Try.ntmps45
    go_wp2_with (go_at_call 28; refine HP.out.mono ?_; rintro e w1 ⟨rfl, rfl⟩)
    go_ret
    exact ⟨by rw [HE.out]; rfl, rfl⟩
  · rw [hp] at HP
    have HE : Hid (numW xs p = -1 - (xs.findIdx (· == p) : Int)) := by show numW xs p = _; unfold numW; simp [hp]
    have HX := hide hx
    have HN := hide hn
    clear hp hx hn
    go_enter Try.func45, Try.ntmps45
    go_wp2_with (go_at_call 28; refine HP.out.mono ?_; rintro e w1 ⟨rfl, rfl⟩)
    go_loopw [5] (fun iv wr => ∃ k : Nat, k ≤ n ∧ iv = .int .i64 k ∧ wr = w ∧ Hid (∀ j x, j < k → xs[j]? = some x → x ≠ p)) (fun iv _ => n - (intOf iv).toNat)
    case atStart => exact ⟨0, Nat.zero_le _, rfl, rfl, fun j x h => absurd h (Nat.not_lt_zero _)⟩
    case round =>
      obtain ⟨k, hk, rfl, rfl, HK⟩ := hrel
      by_cases hlt : k < n
      · obtain ⟨gb, go, gs, x, rfl, hxe, hxc⟩ := HX.out.get HN.out hlt
        have HXE := hide hxe
        clear hxe
        cases hxy : (x == p)
        · have HNE := hide hxy
          go_wp2_with fail
          go_roundw
          case rel =>
            refine ⟨k + 1, by omega, by go_num, by trivial, fun j y hj hy => ?_⟩
            rcases Nat.lt_or_ge j k with h | h
            · exact HK.out j y h hy
            · obtain rfl : j = k := by omega
              have hn := HN.out
              rw [List.getElem?_eq_getElem (by omega)] at hy
              rw [← Option.some.inj hy, ← HXE.out]
              have := HNE.out
              simpa using this
          case measure => simp [intOf]; omega
        · have HNE := hide hxy
          go_wp2_with fail
          go_ret
          refine ⟨?_, rfl⟩
          rw [HE.out]
          have hn := HN.out
          have hkl : k < xs.length := by omega
          have : xs.findIdx (· == p) = k := by
            rw [List.findIdx_eq hkl]
            refine ⟨by rw [← HXE.out]; exact HNE.out, fun j hj => ?_⟩
            have := HK.out j _ hj (List.getElem?_eq_getElem (by omega))
            simpa using this
          rw [this]
          rfl
      · obtain rfl : k = n := by omega
        go_wp2_with fail
        go_ret
        refine ⟨?_, rfl⟩
        rw [HE.out]
        have hn := HN.out
        have : xs.findIdx (· == p) = xs.length := by
          rw [List.findIdx_eq_length]
          intro x hx
          obtain ⟨j, hj, rfl⟩ := List.getElem_of_mem hx
          have := HK.out j _ (by omega) (List.getElem?_eq_getElem hj)
          simpa using this
        rw [this, ← hn]
        rfl

/-- While 'shape' works: what was seen and the numbers, in two rows of its own, and rows that are kept. -/
structure ShSt (w wr : World) (s : Sh) (A1 : Option Addr) (n1 c1 : Nat) (A2 : Option Addr) (n2 c2 : Nat) (rs : List (Nat × List Int)) : Prop where
  seen : wr.ownsRow w.heap.size 3 1 (.slice A1 n1 c1) n1 (s.1.map (.int .i64))
  out : wr.ownsRow w.heap.size 3 1 (.slice A2 n2 c2) n2 (s.2.map (.int .i64))
  l1 : n1 = s.1.length
  l2 : n2 = s.2.length
  apart : ∀ k, (Value.slice A1 n1 c1).ownBlock = some k → (Value.slice A2 n2 c2).ownBlock ≠ some k
  upd : Upd (fun _ => False) w wr
  row : ∀ r ∈ rs, (∀ k, (Value.slice A1 n1 c1).ownBlock = some k → k ≠ r.1) ∧ (∀ k, (Value.slice A2 n2 c2).ownBlock = some k → k ≠ r.1) ∧ r.1 < wr.heap.size ∧ ∀ j u, r.2[j]? = some u → wr.cell? ⟨r.1, j, none⟩ = some (.int .i64 u)

section
variable {w wr w2 : World} {s : Sh} {A1 A2 A3 : Option Addr} {n1 c1 n2 c2 c3 : Nat} {rs : List (Nat × List Int)}

theorem cell_upd {S : Nat → Prop} {w w' : World} (hu : Upd S w w') {g j : Nat} {v : Value} (hS : ¬ S g) (hc : w.cell? ⟨g, j, none⟩ = some v) : w'.cell? ⟨g, j, none⟩ = some v := by
  rw [World.cell?_of_block (hu.block g (World.block_lt_of_cell? w _ hc) hS), hc]

theorem ShSt.start (w : World) : ShSt w w ([], []) none 0 0 none 0 0 [] :=
  ⟨World.ownsRow_nil .., World.ownsRow_nil .., rfl, rfl, fun k h => by simp [Value.ownBlock] at h, Upd.refl _ _, by simp⟩

theorem own_lo {e n : Nat} {v : Value} {xs : List Value} {B size : Nat} (h : wr.ownsRow B e size v n xs) {k : Nat} (hk : v.ownBlock = some k) : B ≤ k := (h.lt k hk).1

theorem ShSt.keep (h : ShSt w wr s A1 n1 c1 A2 n2 c2 rs) (hu : Upd (fun _ => False) wr w2) : ShSt w w2 s A1 n1 c1 A2 n2 c2 rs := by
  have hs := hu.size
  exact ⟨hu.own h.seen fun _ _ h => h, hu.own h.out fun _ _ h => h, h.l1, h.l2, h.apart, h.upd.trans hu, fun r hr => ⟨(h.row r hr).1, (h.row r hr).2.1, by have := (h.row r hr).2.2.1; omega, fun j u hj => cell_upd hu (fun h => h) ((h.row r hr).2.2.2 j u hj)⟩⟩

/-- A new row is kept. -/
theorem ShSt.push (h : ShSt w wr s A1 n1 c1 A2 n2 c2 rs) (hu : Upd (fun _ => False) wr w2) {g : Nat} (hg : wr.heap.size ≤ g) (hg2 : g < w2.heap.size) {xs : List Int} (hc : ∀ j u, xs[j]? = some u → w2.cell? ⟨g, j, none⟩ = some (.int .i64 u)) :
    ShSt w w2 s A1 n1 c1 A2 n2 c2 ((g, xs) :: rs) := by
  have hk := h.keep hu
  refine ⟨hk.seen, hk.out, hk.l1, hk.l2, hk.apart, hk.upd, fun r hr => ?_⟩
  rcases List.mem_cons.1 hr with rfl | hr
  · refine ⟨fun k hk he => ?_, fun k hk he => ?_, hg2, hc⟩
    · have := own_lt h.seen hk; simp only at he; omega
    · have := own_lt h.out hk; simp only at he; omega
  · exact hk.row r hr

theorem ShSt.pop {r : Nat × List Int} (h : ShSt w wr s A1 n1 c1 A2 n2 c2 (r :: rs)) : ShSt w wr s A1 n1 c1 A2 n2 c2 rs :=
  ⟨h.seen, h.out, h.l1, h.l2, h.apart, h.upd, fun r hr => h.row r (List.mem_cons_of_mem _ hr)⟩

theorem ShSt.addO (h : ShSt w wr s A1 n1 c1 A2 n2 c2 rs) {o : Obj} {ys : List Int} {n3 : Nat} (hn : n3 = n2 + ys.length)
    (hown : w2.ownsRow w.heap.size 3 1 (.slice A3 n3 c3) n3 (s.2.map (.int .i64) ++ ys.map (.int .i64))) (hu : Upd (fun q => (Value.slice A2 n2 c2).ownBlock = some q) (wr.alloc o) w2)
    (hat : (Value.slice A3 n3 c3).ownBlock = (Value.slice A2 n2 c2).ownBlock ∨ (Value.slice A3 n3 c3).ownBlock = some (wr.alloc o).heap.size) : ShSt w w2 (s.1, s.2 ++ ys) A1 n1 c1 A3 n3 c3 rs := by
  have ha := h.keep (Upd.alloc (fun _ => False) wr o)
  have hs := hu.size
  refine ⟨hu.own ha.seen fun k hk he => h.apart k hk he, by rw [List.map_append]; exact hown, h.l1, by rw [List.length_append, hn, h.l2], fun k hk he => ?_, ha.upd.extend hu fun q hq => .inr (own_lo h.out hq), fun r hr => ?_⟩
  · rcases hat with hat | hat
    · exact h.apart k hk (hat ▸ he)
    · rw [hat] at he
      have := own_lt ha.seen hk
      have := Option.some.inj he
      omega
  · obtain ⟨r1, r2, r3, r4⟩ := ha.row r hr
    refine ⟨r1, fun k hk => ?_, by omega, fun j u hj => cell_upd hu (fun he => r2 _ he rfl) (r4 j u hj)⟩
    rcases hat with hat | hat
    · exact r2 k (hat ▸ hk)
    · rw [hat] at hk
      have := Option.some.inj hk
      omega

theorem ShSt.addS (h : ShSt w wr s A1 n1 c1 A2 n2 c2 rs) {o : Obj} {ys : List Int} {n3 : Nat} (hn : n3 = n1 + ys.length)
    (hown : w2.ownsRow w.heap.size 3 1 (.slice A3 n3 c3) n3 (s.1.map (.int .i64) ++ ys.map (.int .i64))) (hu : Upd (fun q => (Value.slice A1 n1 c1).ownBlock = some q) (wr.alloc o) w2)
    (hat : (Value.slice A3 n3 c3).ownBlock = (Value.slice A1 n1 c1).ownBlock ∨ (Value.slice A3 n3 c3).ownBlock = some (wr.alloc o).heap.size) : ShSt w w2 (s.1 ++ ys, s.2) A3 n3 c3 A2 n2 c2 rs := by
  have ha := h.keep (Upd.alloc (fun _ => False) wr o)
  have hs := hu.size
  refine ⟨by rw [List.map_append]; exact hown, hu.own ha.out fun k hk he => h.apart k he hk, by rw [List.length_append, hn, h.l1], h.l2, fun k hk he => ?_, ha.upd.extend hu fun q hq => .inr (own_lo h.seen hq), fun r hr => ?_⟩
  · rcases hat with hat | hat
    · exact h.apart k (hat ▸ hk) he
    · rw [hat] at hk
      have := own_lt ha.out he
      have := Option.some.inj hk
      omega
  · obtain ⟨r1, r2, r3, r4⟩ := ha.row r hr
    refine ⟨fun k hk => ?_, r2, by omega, fun j u hj => cell_upd hu (fun he => r1 _ he rfl) (r4 j u hj)⟩
    rcases hat with hat | hat
    · exact r1 k (hat ▸ hk)
    · rw [hat] at hk
      have := Option.some.inj hk
      omega
end
end Go.Proofs.Ytkmfohocicngaaa
