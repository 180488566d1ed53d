/- Own work: a list of versions as a map; Turn, Drop, Of, Note, Fresh in its words. -/
import Derived.Test.YtfhfinnjlihghaaDepM
import Derived.Test.YtfhfinnjlihghaaTabbool
namespace Go.Proofs.YtfhfinnjlihghaaSep
open Go.RowKit Go.Lib Go.Proofs

/-- A list of versions by its map: at most n names. -/
structure VerP (m : List UInt8 → Int) (n : Nat) (K : List (List UInt8)) (V : List Value) : Prop where
  srt : sortedK K
  len : K.length ≤ n
  eq : V.length = K.length
  ints : ∀ u ∈ V, ∃ i : Int, u = .int .i64 i
  ofm : ∀ y, ofV K V y = .int .i64 (m y)
def VerM (g : Nat) (m : List UInt8 → Int) (last : Int) (n : Nat) : HP := fun h => ∃ K V, VerP m n K V ∧ TabH g 29 [.int .i64 last] 3 K V h
/-- A record by what it was told. -/
def RecM (g : Nat) (S : List (List UInt8)) (m : List UInt8 → Int) : HP := TabH g 65 [] 3 S (S.map fun x => .int .i64 (m x))
/-- Two maps alike at these names. -/
def SameOn (S : List (List UInt8)) (m m2 : List UInt8 → Int) : Prop := ∀ x ∈ S, m x = m2 x
def putM (m : List UInt8 → Int) (x : List UInt8) (i : Int) : List UInt8 → Int := fun y => if y = x then i else m y
theorem zip_map {α β : Type} (f : α → β) : ∀ l : List α, l.zip (l.map f) = l.map fun x => (x, f x)
  | [] => rfl
  | a :: l => by rw [List.map_cons, List.zip_cons_cons, zip_map f l, List.map_cons]
section
variable {W0 w : World} {R : HP} {g gr : Nat} {m : List UInt8 → Int} {last : Int} {n : Nat}
theorem Own.ver (H : Own W0 w (R * VerM g m last n)) : ∃ K V, VerP m n K V ∧ Own W0 w (R * TabH g 29 [.int .i64 last] 3 K V) := by
  obtain ⟨q1, q2, q3, h, ⟨a, b, hd, rfl, ha, ⟨K, V, hp, hb⟩⟩, hs⟩ := H
  exact ⟨K, V, hp, q1, q2, q3, _, ⟨a, b, hd, rfl, ha, hb⟩, hs⟩
theorem Own.toVer {K : List (List UInt8)} {V : List Value} (hp : VerP m n K V) (H : Own W0 w (R * TabH g 29 [.int .i64 last] 3 K V)) : Own W0 w (R * VerM g m last n) :=
  H.mono fun _ ⟨a, b, hd, he, ha, hb⟩ => ⟨a, b, hd, he, ha, ⟨K, V, hp, hb⟩⟩
theorem VerP.one {K : List (List UInt8)} {V : List Value} (h : VerP m n K V) : ∀ u ∈ V, u.oneCell' = true := by
  intro u hu
  obtain ⟨i, rfl⟩ := h.ints u hu
  rfl
theorem VerP.put {K : List (List UInt8)} {V : List Value} (h : VerP m n K V) (x : List UInt8) (i : Int) : VerP (putM m x i) (n + 1) (putK K x) (putV K V x (.int .i64 i)) where
  srt := putK_sorted K x h.srt
  len := by
    have := h.len
    have := posF_le x K
    rw [putK]
    split
    · omega
    · simp only [List.length_append, List.length_cons, List.length_take, List.length_drop]; omega
  eq := putV_len K V x _ h.eq
  ints := by
    intro u hu
    rw [putV] at hu
    split at hu
    · rcases List.mem_or_eq_of_mem_set hu with h1 | h1
      · exact h.ints u h1
      · exact ⟨i, h1⟩
    · rcases List.mem_append.1 hu with h1 | h1
      · exact h.ints u (List.mem_of_mem_take h1)
      · rcases List.mem_cons.1 h1 with h1 | h1
        · exact ⟨i, h1⟩
        · exact h.ints u (List.mem_of_mem_drop h1)
  ofm := by
    intro y
    rw [ofV_put h.srt h.eq, putM]
    split
    · rfl
    · exact h.ofm y
theorem VerP.drop {K : List (List UInt8)} {V : List Value} (h : VerP m n K V) (x : List UInt8) : VerP (putM m x 0) n (dropK K x) (dropV K V x) where
  srt := dropK_sorted K x h.srt
  len := by
    have := h.len
    rw [dropK]
    split
    · simp only [List.length_append, List.length_take, List.length_drop]; omega
    · exact this
  eq := by
    have := h.eq
    rw [dropV, dropK]
    split
    · simp only [List.length_append, List.length_take, List.length_drop]; omega
    · exact this
  ints := by
    intro u hu
    rw [dropV] at hu
    split at hu
    · rcases List.mem_append.1 hu with h1 | h1
      · exact h.ints u (List.mem_of_mem_take h1)
      · exact h.ints u (List.mem_of_mem_drop h1)
    · exact h.ints u hu
  ofm := by
    intro y
    rw [ofV_drop h.srt h.eq, putM]
    split
    · rfl
    · exact h.ofm y
theorem VerP.nil : VerP (fun _ => 0) 0 [] [] := ⟨List.Pairwise.nil, Nat.le_refl _, rfl, (fun _ hu => absurd hu (List.not_mem_nil)), fun _ => rfl⟩
theorem ver_Turn {last : Nat} (H : Own W0 w (R * VerM g m last n)) (x : List UInt8) (hn : n ≤ 1000000) (hl : last ≤ 1000000) :
    Calls Try.prog 8 #[.pointer (some ⟨g, 0, none⟩), .string (str x)] w fun e w' => e = .returned (.tuple #[]) ∧ Own W0 w' (R * VerM g (putM m x ((last : Int) + 1)) ((last : Int) + 1) (n + 1)) := by
  obtain ⟨K, V, hp, H⟩ := H.ver
  exact (dep_Turn H.tab x hp.srt (Nat.le_trans hp.len hn) hp.eq hp.one hl).mono fun e w' ⟨he, h⟩ => ⟨he, h.own.toVer (hp.put x _)⟩
theorem ver_Drop (H : Own W0 w (R * VerM g m last n)) (x : List UInt8) (hn : n ≤ 1000000) :
    Calls Try.prog 12 #[.pointer (some ⟨g, 0, none⟩), .string (str x)] w fun e w' => e = .returned (.tuple #[]) ∧ Own W0 w' (R * VerM g (putM m x 0) last n) := by
  obtain ⟨K, V, hp, H⟩ := H.ver
  exact (dep_Drop H.tab x hp.srt (Nat.le_trans hp.len hn) hp.one).mono fun e w' ⟨he, h⟩ => ⟨he, h.own.toVer (hp.drop x)⟩
theorem ver_Of (H : Own W0 w (R * VerM g m last n)) (x : List UInt8) (hn : n ≤ 1000000) :
    Calls Try.prog 13 #[.pointer (some ⟨g, 0, none⟩), .string (str x)] w fun e w' => e = .returned (.int .i64 (m x)) ∧ w' = w := by
  obtain ⟨K, V, hp, H⟩ := H.ver
  have := dep_Of H.tab x hp.srt (Nat.le_trans hp.len hn) hp.eq
  rwa [hp.ofm x] at this
theorem ver_Note {S : List (List UInt8)} {V2 : List Value} (H : Own W0 w (R * VerM g m last n * TabH gr 34 [] 4 S V2)) (hn : n ≤ 1000000) (hK2 : sortedK S) (hb2 : S.length ≤ 1000000) (hV2 : V2.length = S.length) :
    Calls Try.prog 10 #[.pointer (some ⟨g, 0, none⟩), .pointer (some ⟨gr, 0, none⟩)] w fun e w' => ∃ go, e = .returned (.pointer (some ⟨go, 0, none⟩)) ∧
      Own W0 w' (R * VerM g m last n * TabH gr 34 [] 4 S V2 * RecM go S m) := by
  obtain ⟨K, V, hp, H⟩ := H.rot.ver
  refine (dep_Note H.rot hp.srt (Nat.le_trans hp.len hn) hp.eq hp.ints hK2 hb2 hV2).mono ?_
  rintro e w' ⟨go, rfl, h⟩
  refine ⟨go, rfl, ?_⟩
  have h2 := (h.eq (by rw [star_assoc (R * _), star_right_comm R])).toVer hp
  have h3 : noteV K V S = S.map fun x => .int .i64 (m x) := List.map_congr_left fun x _ => hp.ofm x
  rw [h3] at h2
  refine h2.eq ?_
  unfold RecM
  rw [star_right_comm R, ← star_assoc (R * _)]
theorem ver_Fresh {m2 : List UInt8 → Int} {S : List (List UInt8)} (H : Own W0 w (R * VerM g m last n * RecM gr S m2)) (hn : n ≤ 1000000) (hb2 : S.length ≤ 1000000) :
    Calls Try.prog 11 #[.pointer (some ⟨g, 0, none⟩), .pointer (some ⟨gr, 0, none⟩)] w fun e w' => ∃ r, e = .returned (.bool r) ∧ (r = true ↔ SameOn S m m2) ∧
      Own W0 w' (R * VerM g m last n * RecM gr S m2) := by
  obtain ⟨K, V, hp, H⟩ := H.rot.ver
  have H2 := H.rot
  unfold RecM at H2
  refine (dep_Fresh H2 hp.srt (Nat.le_trans hp.len hn) hp.eq hp.ints hb2 (List.length_map ..) ?_).mono ?_
  · intro u hu
    obtain ⟨x, _, rfl⟩ := List.mem_map.1 hu
    exact ⟨_, rfl⟩
  · rintro e w' ⟨r, rfl, hr, h⟩
    refine ⟨r, rfl, hr.trans ?_, (h.rot.toVer hp).rot⟩
    have hz : S.zip (S.map fun x => Value.int .i64 (m2 x)) = S.map fun x => (x, Value.int .i64 (m2 x)) := zip_map _ S
    rw [hz]
    constructor
    · intro h x hx
      have := h _ (List.mem_map.2 ⟨x, hx, rfl⟩)
      rw [hp.ofm x] at this
      injection this
    · rintro h z hz
      obtain ⟨x, hx, rfl⟩ := List.mem_map.1 hz
      rw [hp.ofm x, h x hx]
end
end Go.Proofs.YtfhfinnjlihghaaSep
