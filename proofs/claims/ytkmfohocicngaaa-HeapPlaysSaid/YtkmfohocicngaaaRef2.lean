/- The reference's heap: Fields, Set. -/
import Derived.Test.YtkmfohocicngaaaRef
namespace Go.Proofs.Ytkmfohocicngaaa
open Go.RowKit

/-- append, at a step of a region that draws its order. -/
theorem step_app {P : Program} {t e : TypeId} {z : Value} {size bytes : Nat} (E : ElemOk P t e z size bytes) {ops : Array Oper} {o : Oper} {a : Act} {K : Act → World → Prop} {Q : Exit → Act → World → Prop} {X : Prop} (hgd : o.guard = none) (s x : Operand)
    (ho : o.op = .call { callee := .builtin .append, args := #[s, x], argTypes := #[t, t] }) {w : World} {B : Nat} {v : Value} {n : Nat} {xs : List Value} (hs : a.eval s = v) (hown : w.ownsRow B e size v n xs)
    {u : Value} {m : Nat} {ys : List Value} (hx : a.eval x = u) (hr : Rd w u size m ys) (h1 : ∀ y ∈ ys, y.oneCell' = true) (N : Nat) (hN : n + m = N) (hb : N ≤ 140737488355327) (hby : N * bytes ≤ 140737488355328) (hB : B ≤ w.heap.size)
    (h : ∀ A' c' w', w'.ownsRow B e size (.slice A' N c') N (xs ++ ys) → Upd (fun k => v.ownBlock = some k) w w' → ((Value.slice A' N c').ownBlock = v.ownBlock ∨ (Value.slice A' N c').ownBlock = some w.heap.size) →
      (v.ownBlock ≠ none → (Value.slice A' N c').ownBlock ≠ none) → K (a.put o.dst (.slice A' N c')) w') :
    if Region.wanted o (yielded ops a.tmps) = true then Oper.wp P o a w K Q else X := by
  subst hN
  have hw : Region.wanted o (yielded ops a.tmps) = true := by simp [Region.wanted, hgd]
  rw [if_pos hw]
  obtain ⟨v', w', hrun, h2, h3, h4, h5⟩ := run_app E o.type hown hr h1 hb hby hB
  have hv : ∃ A' c', v' = .slice A' (n + m) c' := by
    rcases h2.2 with ⟨rfl, h0⟩ | ⟨g, cap, cur, rfl, _⟩
    · exact ⟨none, 0, by rw [h0]⟩
    · exact ⟨_, _, rfl⟩
  obtain ⟨A', c', rfl⟩ := hv
  unfold Oper.wp execOp
  simp only [ho, resolve, invoke, builtin, Sem.run_bind, Sem.run_pure, Result.andThen_ok, List.map_toArray, List.map_cons, List.map_nil, hs, hx, hrun]
  exact h A' c' w' h2 h3 h4 h5

section
variable {w : World} {B b : Nat} {lim : Int} {L : List Ob} {F : Nat → Prop} {v : Value} {G : List (Nat × Nat)}

theorem own_slice {w : World} {B : Nat} {A : Option Addr} {n c : Nat} {xs : List Int} (h : w.ownsRow B 3 1 (.slice A n c) n (xs.map (.int .i64))) (hne : (Value.slice A n c).ownBlock ≠ none) : ∃ g, A = some ⟨g, 0, none⟩ ∧ n ≤ c ∧ B ≤ g ∧ g < w.heap.size := by
  obtain ⟨A', c', hv, hnc, _, _, _, hA⟩ := own_form h
  obtain ⟨g, hg⟩ := Option.ne_none_iff_exists'.1 hne
  obtain ⟨hAg, h1, h2, _⟩ := hA g hg
  injection hv with hv1 _ hv3
  exact ⟨g, by rw [hv1, hAg], by omega, h1, h2⟩

theorem fields_end {w w' : World} {A' : Option Addr} {m c1 : Nat} {fs : List Int} (hm : m = fs.length) (ho : w'.ownsRow w.heap.size 3 1 (.slice A' m c1) m ([] ++ fs.map (.int .i64)))
    (hu : Upd (fun k => (Value.slice (some ⟨w.heap.size, 0, none⟩) 0 0).ownBlock = some k) (w.alloc (.cells #[] 3)) w') (hn : (Value.slice (some ⟨w.heap.size, 0, none⟩) 0 0).ownBlock ≠ none → (Value.slice A' m c1).ownBlock ≠ none) :
    FieldsSk w (some fs) (.returned (.tuple #[.slice A' m c1, .int .i64 0])) w' := by
  subst hm
  rw [List.nil_append] at ho
  obtain ⟨g1, rfl, hnc, hlo, hlt⟩ := own_slice ho (hn (by simp [Value.ownBlock]))
  refine ⟨g1, c1, rfl, hnc, hlo, ho, (Upd.alloc (fun _ => False) w (.cells #[] 3)).extend hu fun q hq => .inr ?_⟩
  simp [Value.ownBlock] at hq
  omega

set_option maxHeartbeats 1000000 in
theorem rfields_any (h : RHv w B b lim L v G) (x : Int) :
    Calls Try.prog 26 #[.pointer (some ⟨b, 0, none⟩), .int .i64 x] w (FieldsSk w (fieldsL L x)) := by
  obtain ⟨r, hr⟩ := findZ_ex L x
  have HF := hide (find_any h hr)
  rcases hr with ⟨ho, rfl⟩ | ⟨i, o, ho, hi, hl, hp', hat, rfl⟩
  · rw [show fieldsL L x = none by simp [fieldsL, ho]]
    clear ho h
    go_enter Try.func26, Try.ntmps26
    go_wp2_with (go_at_call 43; refine HF.out.mono ?_; rintro e w4 ⟨rfl, rfl⟩)
    go_ret2
    exact ⟨rfl, rfl⟩
  · rw [show fieldsL L x = some o.2 by simp [fieldsL, ho]]
    obtain ⟨A, c, hv, hc, _, hll⟩ := h.slice
    obtain ⟨q, g, c', hv', _, _, _, _, hc2, hof⟩ := h.ro.at _ _ hi
    rw [hv] at hv'
    injection hv' with hA
    subst hA
    have hol : o.2.length ≤ 65535 := (h.wf.each o (List.mem_of_getElem? hi)).len
    generalize o.2 = fs at hc2 hof hol ⊢
    have hrd : Rd (w.alloc (.cells #[] 3)) (.slice (some ⟨g.1, 0, none⟩) fs.length g.2) 1 fs.length (fs.map (.int .i64)) := (Rd.of_own hof).keep (S := fun _ => False) (Upd.alloc _ _ _) (fun _ _ h => h)
    have HR := hide hrd
    have hcA : (w.alloc (.cells #[] 3)).cell? ⟨b, 1, none⟩ = some (.slice (some ⟨q, 0, none⟩) L.length c) := by rw [World.cell?_of_block ((Upd.alloc (fun _ => False) w (.cells #[] 3)).block b (World.block_lt_of_cell? w _ hc) (fun h => h)), hc]
    have hcB : (w.alloc (.cells #[] 3)).cell? ⟨q, i * 3 + 2, none⟩ = some (.slice (some ⟨g.1, 0, none⟩) fs.length g.2) := by rw [World.cell?_of_block ((Upd.alloc (fun _ => False) w (.cells #[] 3)).block q (World.block_lt_of_cell? w _ hc2) (fun h => h)), hc2]
    obtain ⟨m, hm⟩ : ∃ m, m = fs.length := ⟨_, rfl⟩
    rw [← hm] at hc2 HR hol hcB
    have HM := hide hm
    clear ho h hi hp' hat hv hof hrd hm hc hc2
    generalize L.length = n at *
    go_enter Try.func26, Try.ntmps26
    go_wp2_with (first | (go_at_call 43; refine HF.out.mono ?_; rintro e w4 ⟨rfl, rfl⟩) | (at_builtin; refine wpList_app (v := .slice (some ⟨w.heap.size, 0, none⟩) 0 0) Try.ints rfl (.tmp 12) (.tmp 20) rfl rfl (World.ownsRow_made w #[] 0 (Nat.le_refl _) (by decide) rfl) rfl HR.out (ints_oneCell _ _) m (by omega) (by omega) (by omega) (by simp) ?_; intro A' c1 w' hown hu hat hne; have HO := hide hown; have HU := hide hu; have HN := hide hne; clear hown hu hat hne))
    go_ret2
    exact fields_end HM.out HO.out HU.out HN.out

theorem Ro.set (h : Ro w B v L G) {i : Nat} {o : Ob} {g : Nat × Nat} (ho : L[i]? = some o) (hg : G[i]? = some g) {j : Nat} (hj : j < o.2.length) (x : Int) : Ro (w.setCell ⟨g.1, j, none⟩ (.int .i64 x)) B v (L.set i (o.1, o.2.set j x)) G := by
  have hu : Upd (fun q => q = g.1) w (w.setCell ⟨g.1, j, none⟩ (.int .i64 x)) := Upd.set _ _ _ rfl
  refine ⟨?_, by rw [List.length_set]; exact h.len, fun i' o' g' ho' hg' => ?_, h.nodup⟩
  · rw [List.length_set, ocells_set 0 L G i o (o.1, o.2.set j x) ho rfl (by simp)]
    exact hu.own h.row fun k hk e => own_ne_own h.row (h.each i o g ho hg) (by decide) k hk (by rw [e]; rfl)
  · by_cases hii : i' = i
    · subst hii
      obtain rfl : g' = g := by rw [hg] at hg'; exact (Option.some.inj hg').symm
      rw [List.getElem?_set_self (List.getElem?_eq_some_iff.1 ho).1] at ho'
      obtain rfl := Option.some.inj ho'
      have := own_set (h.each i' o g' ho hg) (g := g'.1) rfl j hj (.int .i64 x)
      simpa [List.map_set] using this
    · rw [List.getElem?_set_ne (Ne.symm hii)] at ho'
      refine hu.own (h.each i' o' g' ho' hg') fun k hk e => ?_
      simp [Value.ownBlock] at hk
      subst hk
      have hi' := (List.getElem?_eq_some_iff.1 hg').1
      have hi := (List.getElem?_eq_some_iff.1 hg).1
      apply hii
      exact (List.getElem_inj (h₀ := by simpa using hi') (h₁ := by simpa using hi) h.nodup).1 (by
        simp only [List.getElem_map]
        rw [(List.getElem?_eq_some_iff.1 hg').2, (List.getElem?_eq_some_iff.1 hg).2]
        exact e)

def RSetPost (w : World) (B b : Nat) (lim : Int) (L : List Ob) (F : Nat → Prop) (r : Option (List Ob)) (e : Ending) (w' : World) : Prop :=
  match r with
  | none => e = .returned (.int .i64 1) ∧ w = w'
  | some L' => e = .returned (.int .i64 0) ∧ RH w' B b lim L' F ∧ Upd F w w'

set_option maxHeartbeats 400000 in
theorem rset_no (r : Int) {p i y : Int} {m : Nat} {rt : Bool} (HF : Hid (Calls Try.prog 43 #[.pointer (some ⟨b, 0, none⟩), .int .i64 p] w fun e w' => e = .returned (.int .i64 r) ∧ w = w'))
    (HR : Hid (Calls Try.prog 42 #[.pointer (some ⟨b, 0, none⟩), .int .i64 y] w fun e w' => e = .returned (.bool rt) ∧ w = w')) :
    decide (r < 0) = true → Calls Try.prog 22 #[.pointer (some ⟨b, 0, none⟩), .int .i64 p, .int .i64 i, .int .i64 y] w fun e w' => e = .returned (.int .i64 1) ∧ w = w' := by
  intro hr
  go_enter Try.func22, Try.ntmps22
  go_wp2_with (go_at_call 43; refine HF.out.mono ?_; rintro e w4 ⟨rfl, rfl⟩)
  go_ret
  exact ⟨rfl, rfl⟩

def SetC (w : World) (g j : Nat) (y : Int) (e : Ending) (w' : World) : Prop := e = .returned (.int .i64 0) ∧ w' = w.setCell ⟨g, j, none⟩ (.int .i64 y)

set_option maxHeartbeats 1000000 in
theorem rset_walk {p y : Int} {k n m q c g cg : Nat} (hk : k < n) (hn : n ≤ 4194304) (hm : m ≤ 65535) (HF : Hid (Calls Try.prog 43 #[.pointer (some ⟨b, 0, none⟩), .int .i64 p] w fun e w' => e = .returned (.int .i64 k) ∧ w = w'))
    (hc : w.cell? ⟨b, 1, none⟩ = some (.slice (some ⟨q, 0, none⟩) n c)) (hc2 : w.cell? ⟨q, k * 3 + 2, none⟩ = some (.slice (some ⟨g, 0, none⟩) m cg)) (hcell : ∀ j, j < m → ∃ u, w.cell? ⟨g, j, none⟩ = some (.int .i64 u)) (hfr : ∀ j, w.frozen? ⟨g, j, none⟩ = false) :
    (∀ i : Int, i < 0 → Calls Try.prog 22 #[.pointer (some ⟨b, 0, none⟩), .int .i64 p, .int .i64 i, .int .i64 y] w fun e w' => e = .returned (.int .i64 1) ∧ w = w') ∧
    (∀ i : Int, 0 ≤ i → (m : Int) ≤ i → Calls Try.prog 22 #[.pointer (some ⟨b, 0, none⟩), .int .i64 p, .int .i64 i, .int .i64 y] w fun e w' => e = .returned (.int .i64 1) ∧ w = w') ∧
    (∀ j : Nat, j < m → Calls Try.prog 42 #[.pointer (some ⟨b, 0, none⟩), .int .i64 y] w (fun e w' => e = .returned (.bool false) ∧ w = w') → Calls Try.prog 22 #[.pointer (some ⟨b, 0, none⟩), .int .i64 p, .int .i64 (j : Int), .int .i64 y] w fun e w' => e = .returned (.int .i64 1) ∧ w = w') ∧
    (∀ j : Nat, j < m → Calls Try.prog 42 #[.pointer (some ⟨b, 0, none⟩), .int .i64 y] w (fun e w' => e = .returned (.bool true) ∧ w = w') → Calls Try.prog 22 #[.pointer (some ⟨b, 0, none⟩), .int .i64 p, .int .i64 (j : Int), .int .i64 y] w (SetC w g j y)) := by
  have hk0 : decide ((k : Int) < 0) = false := by simp
  have HC := hide hcell
  have HFR := hide hfr
  clear hcell hfr
  refine ⟨fun i hi => ?_, fun i hi0 hi => ?_, fun j hj hr => ?_, fun j hj hr => ?_⟩
  · have hi' : decide (i < 0) = true := by simpa using hi
    clear hi
    go_enter Try.func22, Try.ntmps22
    go_wp2_with (go_at_call 43; refine HF.out.mono ?_; rintro e w4 ⟨rfl, rfl⟩)
    go_ret
    exact ⟨rfl, rfl⟩
  · have hi' : decide (i < 0) = false := by simpa using hi0
    have hi2 : decide ((m : Int) ≤ i) = true := by simpa using hi
    clear hi0 hi
    go_enter Try.func22, Try.ntmps22
    go_wp2_with (go_at_call 43; refine HF.out.mono ?_; rintro e w4 ⟨rfl, rfl⟩)
    go_ret
    exact ⟨rfl, rfl⟩
  · have hi2 : decide ((m : Int) ≤ (j : Int)) = false := by simp; omega
    have HR := hide hr
    clear hr
    go_enter Try.func22, Try.ntmps22
    go_wp2_with (first | (go_at_call 43; refine HF.out.mono ?_; rintro e w4 ⟨rfl, rfl⟩) | (go_at_call 42; refine HR.out.mono ?_; rintro e w4 ⟨rfl, rfl⟩))
    go_ret
    exact ⟨rfl, rfl⟩
  · have hi2 : decide ((m : Int) ≤ (j : Int)) = false := by simp; omega
    have HR := hide hr
    obtain ⟨u, hu⟩ := HC.out j hj
    have hf := HFR.out j
    clear hr
    go_enter Try.func22, Try.ntmps22
    go_wp2_with (first | (go_at_call 43; refine HF.out.mono ?_; rintro e w4 ⟨rfl, rfl⟩) | (go_at_call 42; refine HR.out.mono ?_; rintro e w4 ⟨rfl, rfl⟩))
    go_ret
    exact ⟨rfl, rfl⟩

theorem rset_any (h : RH w B b lim L F) (p i y : Int) (hy : I64 y) :
    Calls Try.prog 22 #[.pointer (some ⟨b, 0, none⟩), .int .i64 p, .int .i64 i, .int .i64 y] w (RSetPost w B b lim L F (setRes L p i y)) := by
  obtain ⟨v, G, h, hFb, hF⟩ := h
  obtain ⟨r, hr⟩ := findZ_ex L p
  have HF := hide (find_any h hr)
  have HR := hide (rright_any h y)
  unfold setRes
  rcases hr with ⟨ho, rfl⟩ | ⟨k, o, ho, hi, hl, hp', hat, rfl⟩
  · rw [ho]
    exact rset_no (-1) (m := 0) HF HR (by decide)
  · rw [ho]
    obtain ⟨A, c, hv, hc, _, hll⟩ := h.slice
    obtain ⟨q, g, c', hv', _, hg, _, _, hc2, hof⟩ := h.ro.at _ _ hi
    rw [hv] at hv'
    injection hv' with hA
    subst hA
    obtain ⟨_, _, _, _, _, _, _, hAA⟩ := own_form hof
    obtain ⟨_, _, _, hfr, hcc⟩ := hAA g.1 rfl
    have hol : o.2.length ≤ 65535 := (h.wf.each o (List.mem_of_getElem? hi)).len
    obtain ⟨n1, n2, n3, n4⟩ := rset_walk (y := y) hl hll hol HF hc hc2 (fun j hj => ⟨o.2[j], hcc j _ (by simp [hj])⟩) hfr
    show Calls _ _ _ _ (RSetPost w B b lim L F (if _ then _ else _))
    by_cases h0 : i < 0
    · rw [if_neg (by omega)]
      exact n1 i h0
    · by_cases h1 : (o.2.length : Int) ≤ i
      · rw [if_neg (by omega)]
        exact n2 i (by omega) h1
      · obtain ⟨j, rfl⟩ := Int.eq_ofNat_of_zero_le (by omega : 0 ≤ i)
        cases hrt : rightL L y with
        | false =>
          rw [if_neg (by simp)]
          rw [hrt] at HR
          exact n3 j (by omega) HR.out
        | true =>
          rw [if_pos ⟨by omega, by omega, rfl⟩]
          rw [hrt] at HR
          refine (n4 j (by omega) HR.out).mono ?_
          rintro e w' ⟨he, rfl⟩
          have hgF : F g.1 := hF _ (.inr (List.mem_map.2 ⟨g, List.mem_of_getElem? hg, rfl⟩))
          have hu : Upd F w (w.setCell ⟨g.1, j, none⟩ (.int .i64 y)) := Upd.set _ _ _ hgF
          have hgb : g.1 ≠ b := h.ro.blk_ne h.blk (by decide) (by decide) (.inr (List.mem_map.2 ⟨g, List.mem_of_getElem? hg, rfl⟩))
          have hL : setL L (p / 8).toNat (Int.toNat (j : Int)) y = L.set k (o.1, o.2.set j y) := by
            rw [← hat, Int.toNat_natCast, Int.toNat_natCast]
            exact setL_eq hi j y
          refine ⟨he, ⟨v, G, ⟨(Upd.set (S := fun q => q = g.1) w _ _ rfl).blk h.blk (Ne.symm hgb), h.le, ?_, ?_, h.l0, h.l1, ?_⟩, hFb, hF⟩, hu⟩
          · rw [hL]; exact h.ro.set hi hg (by omega) y
          · exact h.wf.set _ _ hy hrt
          · rw [total_setL]; exact h.tot
end
end Go.Proofs.Ytkmfohocicngaaa
