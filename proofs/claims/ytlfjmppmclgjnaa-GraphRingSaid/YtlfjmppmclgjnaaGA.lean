/- Graphs, plain: what is led to. -/
import GoSem.Core.Value
namespace Go.Proofs.Ytlfjmppmclgjnaa

/-- All that things lean on are things. -/
def GOk (g : List (List Int)) : Prop := ∀ l ∈ g, ∀ x ∈ l, 0 ≤ x ∧ x < g.length

def adj (g : List (List Int)) (x : Nat) : List Int := g.getD x []

theorem adj_get {g : List (List Int)} {x : Nat} {l : List Int} (h : g[x]? = some l) : adj g x = l := by simp [adj, h]
theorem adj_mem {g : List (List Int)} {x : Nat} (h : x < g.length) : adj g x ∈ g := by
  unfold adj
  rw [List.getD_eq_getElem?_getD, List.getElem?_eq_getElem h]
  exact List.getElem_mem _
theorem adj_out {g : List (List Int)} {x : Nat} (h : g.length ≤ x) : adj g x = [] := by
  unfold adj
  rw [List.getD_eq_getElem?_getD, List.getElem?_eq_none h]; rfl
theorem adj_ok {g : List (List Int)} (hg : GOk g) {x : Nat} {y : Int} (h : y ∈ adj g x) : 0 ≤ y ∧ y < g.length := by
  rcases Nat.lt_or_ge x g.length with hx | hx
  · exact hg _ (adj_mem hx) y h
  · rw [adj_out hx] at h; simp at h

def Closed (g : List (List Int)) (M : Nat → Prop) : Prop := ∀ x, M x → ∀ y ∈ adj g x, M y.toNat

/-- What some lead to: the least closed set that holds them. -/
def Led (g : List (List Int)) (S : List Int) (y : Nat) : Prop := ∀ M : Nat → Prop, (∀ x ∈ S, M x.toNat) → Closed g M → M y

theorem Led.start {g : List (List Int)} {S : List Int} {x : Int} (h : x ∈ S) : Led g S x.toNat := fun _ h0 _ => h0 x h
theorem Led.step {g : List (List Int)} {S : List Int} {x : Nat} {y : Int} (h : Led g S x) (hy : y ∈ adj g x) : Led g S y.toNat := fun M h0 hc => hc x (h M h0 hc) y hy
theorem Led.ind {g : List (List Int)} {S : List Int} {y : Nat} (h : Led g S y) (M : Nat → Prop) (h0 : ∀ x ∈ S, M x.toNat) (hc : Closed g M) : M y := h M h0 hc

theorem Led.lt {g : List (List Int)} {S : List Int} (hg : GOk g) (hS : ∀ x ∈ S, 0 ≤ x ∧ x < g.length) {y : Nat} (h : Led g S y) : y < g.length :=
  h.ind (fun y => y < g.length) (fun x hx => by have := hS x hx; omega) (fun x _ y hy => by have := adj_ok hg hy; omega)

theorem Led.mono {g : List (List Int)} {S S' : List Int} (hS : ∀ x ∈ S, Led g S' x.toNat) {y : Nat} (h : Led g S y) : Led g S' y :=
  h.ind (Led g S') hS fun _ hx _ hy => hx.step hy

/-- How much of the graph is not met yet. -/
def unmet (g : List (List Int)) (f : Nat → Bool) : Nat → Nat
  | 0 => 0
  | n + 1 => unmet g f n + if f n then 0 else (adj g n).length

theorem unmet_same (g : List (List Int)) {f f' : Nat → Bool} : ∀ n, (∀ x, x < n → f x = f' x) → unmet g f n = unmet g f' n
  | 0, _ => rfl
  | n + 1, h => by
    unfold unmet
    rw [unmet_same g n (fun x hx => h x (by omega)), h n (by omega)]

theorem unmet_met (g : List (List Int)) (f : Nat → Bool) (x : Nat) (hf : f x = false) : ∀ n, x < n → unmet g (fun y => f y || y == x) n + (adj g x).length = unmet g f n
  | 0, h => by omega
  | n + 1, h => by
    unfold unmet
    by_cases hx : x = n
    · subst hx
      rw [unmet_same g x (f := fun y => f y || y == x) (f' := f) (fun y hy => by simp; intro e; omega), hf]
      simp
    · have := unmet_met g f x hf n (by omega)
      have hn : (n == x) = false := by simp; omega
      simp only [hn, Bool.or_false]
      omega

/-- How much there is to lean on. -/
def edges (g : List (List Int)) : Nat := unmet g (fun _ => false) g.length

theorem unmet_le (g : List (List Int)) (f : Nat → Bool) (c : Nat) (hc : ∀ x, (adj g x).length ≤ c) : ∀ n, unmet g f n ≤ n * c
  | 0 => by simp [unmet]
  | n + 1 => by
    have := unmet_le g f c hc n
    have := hc n
    unfold unmet
    rw [Nat.succ_mul]
    split <;> omega

theorem edges_le {g : List (List Int)} {c : Nat} (hc : ∀ l ∈ g, l.length ≤ c) : edges g ≤ g.length * c :=
  unmet_le g _ c (fun x => by
    rcases Nat.lt_or_ge x g.length with h | h
    · exact hc _ (adj_mem h)
    · rw [adj_out h]; simp) _

/-- Where the search stands: some are met, some are to be looked at. -/
structure Srch (g : List (List Int)) (S : List Int) (f : Nat → Bool) (todo : List Int) : Prop where
  from_ : ∀ x ∈ S, f x.toNat = true ∨ x ∈ todo
  next : ∀ x, f x = true → ∀ y ∈ adj g x, f y.toNat = true ∨ y ∈ todo
  met : ∀ x, f x = true → Led g S x
  led : ∀ x ∈ todo, Led g S x.toNat
  rng : ∀ x ∈ todo, 0 ≤ x ∧ x < g.length
  lt : ∀ x, f x = true → x < g.length
  small : todo.length + unmet g f g.length ≤ S.length + edges g

theorem Srch.start (g : List (List Int)) (S : List Int) (hS : ∀ x ∈ S, 0 ≤ x ∧ x < g.length) : Srch g S (fun _ => false) S :=
  ⟨fun x hx => .inr hx, fun x h => by simp at h, fun x h => by simp at h, fun x hx => Led.start hx, hS, fun x h => by simp at h, Nat.le_refl _⟩

theorem Srch.old {g : List (List Int)} {S : List Int} {f : Nat → Bool} {todo : List Int} {x : Int} (h : Srch g S f (todo ++ [x])) (hx : f x.toNat = true) : Srch g S f todo := by
  have hx0 := h.rng x (by simp)
  have key : ∀ y : Int, y ∈ todo ++ [x] → f y.toNat = true ∨ y ∈ todo := fun y hy => by
    rcases List.mem_append.1 hy with hy | hy
    · exact .inr hy
    · obtain rfl := List.mem_singleton.1 hy; exact .inl hx
  exact ⟨fun y hy => (h.from_ y hy).elim .inl (key y), fun z hz y hy => (h.next z hz y hy).elim .inl (key y), h.met, fun y hy => h.led y (by simp [hy]), fun y hy => h.rng y (by simp [hy]), h.lt, by have := h.small; simp at this; omega⟩

theorem Srch.new {g : List (List Int)} {S : List Int} {f : Nat → Bool} {todo : List Int} {x : Int} (hg : GOk g) (h : Srch g S f (todo ++ [x])) (hx : f x.toNat = false) : Srch g S (fun y => f y || y == x.toNat) (todo ++ adj g x.toNat) := by
  have hx0 := h.rng x (by simp)
  have hl := h.led x (by simp)
  have key : ∀ y : Int, y ∈ todo ++ [x] → (f y.toNat || y.toNat == x.toNat) = true ∨ y ∈ todo ++ adj g x.toNat := fun y hy => by
    rcases List.mem_append.1 hy with hy | hy
    · exact .inr (by simp [hy])
    · obtain rfl := List.mem_singleton.1 hy; exact .inl (by simp)
  refine ⟨fun y hy => (h.from_ y hy).elim (fun e => .inl (by simp [e])) (key y), fun z hz y hy => ?_, fun z hz => ?_, fun y hy => ?_, fun y hy => ?_, fun z hz => ?_, ?_⟩
  · by_cases hfz : f z = true
    · exact (h.next z hfz y hy).elim (fun e => .inl (by simp [e])) (key y)
    · simp [hfz] at hz
      subst hz
      exact .inr (by simp [hy])
  · by_cases hfz : f z = true
    · exact h.met z hfz
    · simp [hfz] at hz
      subst hz
      exact hl
  · rcases List.mem_append.1 hy with hy | hy
    · exact h.led y (by simp [hy])
    · exact hl.step hy
  · rcases List.mem_append.1 hy with hy | hy
    · exact h.rng y (by simp [hy])
    · exact adj_ok hg hy
  · by_cases hfz : f z = true
    · exact h.lt z hfz
    · simp [hfz] at hz; omega
  · have h1 := h.small
    have h2 := unmet_met g f x.toNat hx g.length (by omega)
    simp at h1 ⊢
    omega

theorem Srch.done {g : List (List Int)} {S : List Int} {f : Nat → Bool} (h : Srch g S f []) (y : Nat) : f y = true ↔ Led g S y := by
  refine ⟨h.met y, fun hl => hl.ind (fun y => f y = true) (fun x hx => ?_) (fun x hx y hy => ?_)⟩
  · exact (h.from_ x hx).elim id fun h => by simp at h
  · exact (h.next x hx y hy).elim id fun h => by simp at h

/-- The same as a Bool. -/
noncomputable def ledB (g : List (List Int)) (S : List Int) (y : Nat) : Bool := @decide (Led g S y) (Classical.propDecidable _)

theorem ledB_iff {g : List (List Int)} {S : List Int} {y : Nat} : ledB g S y = true ↔ Led g S y := by
  unfold ledB
  exact @decide_eq_true_iff _ (Classical.propDecidable _)

theorem Srch.all {g : List (List Int)} {S : List Int} {f : Nat → Bool} (h : Srch g S f []) : f = ledB g S := by
  funext y
  rw [Bool.eq_iff_iff, h.done, ledB_iff]

end Go.Proofs.Ytlfjmppmclgjnaa
