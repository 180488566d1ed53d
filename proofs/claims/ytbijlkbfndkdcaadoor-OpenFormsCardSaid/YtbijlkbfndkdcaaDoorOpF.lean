/- Own work: what bounds a usual look; the laws' head, by walks. -/
import Derived.Test.YtbijlkbfndkdcaaDoorOpE
namespace Go.Proofs.YtbijlkbfndkdcaaDoorSep
open Go.RowKit Go.Lib Go.Proofs
def usualT : List (List UInt8) := [[97, 112, 112, 108, 101, 116], [99, 97, 112, 116, 105, 111, 110], [104, 116, 109, 108], [116, 97, 98, 108, 101], [116, 100], [116, 104], [109, 97, 114, 113, 117, 101, 101], [111, 98, 106, 101, 99, 116], [116, 101, 109, 112, 108, 97, 116, 101]]
/-- The names of what bounds a usual look, as the program has them. -/
def Usual (W0 : World) (R : HP) (u : Value) : Prop := ∀ w, Own W0 w R → w.cell? ⟨1, 0, none⟩ = some u ∧ Sl w u 1 9 (SV usualT)
theorem Usual.more {W0 : World} {R Y : HP} {u : Value} (h : Usual W0 R u) : Usual W0 (R * Y) u := fun w H => h w H.drop
theorem Own.docR {W0 w : World} {R : HP} {d c : Nat} {A : Option Addr} {L : List NodeM} (H : Own W0 w (R * Row 65 10 (.slice A L.length c) L.length (nodesC L) * Blk d (docO (.slice A L.length c)))) (hL : 0 < L.length) : DocR w d L := by
  obtain ⟨g, cap, cur, hv, h1, h2, h3, h4, HB⟩ := H.drop.openN hL
  injection hv with e1 e2 e3
  subst e1 e3
  refine ⟨g, c, cell_blk H.blk rfl, fun j u hj => cell_blk HB.blk ?_⟩
  have hlt := (List.getElem?_eq_some_iff.1 hj).1
  rw [nodesC_len] at hlt
  exact take_cell h4 hlt hj
theorem held_blk {W0 : World} {R : HP} {B m sz : Nat} {cs : Array Value} {e : Nat} (hm : m ≤ maxLen) (hc : cs.size = m * sz) (hsz : 0 < sz) : Held W0 (R * Blk B (.cells cs e)) (.slice (some ⟨B, 0, none⟩) m m) sz m cs.toList := fun w H => by
  have h := H.made (sz := sz) m (Nat.le_refl _) hm hc
  rw [List.take_of_length_le (by rw [Array.length_toList, hc]; exact Nat.le_refl _)] at h
  exact h.sl hsz
theorem bounds_usual {w : World} {d : Nat} {L : List NodeM} (h : DocR w d L) (hL : L.length ≤ 100000) (k : Nat) (x : NodeM) (hx : L[k]? = some x) (hk : x.k = 2) (hs : x.sp = 0) (hu : hasB usualT x.name = true) {u : Value} (hc : w.cell? ⟨1, 0, none⟩ = some u) (HN : Sl w u 1 9 (SV usualT)) :
    Calls Tryd.prog 37 #[.pointer (some ⟨d, 0, none⟩), .int .i64 k, .int .i64 0] w fun e w' => e = .returned (.bool true) ∧ w' = w := by
  have HI := dom_Is h hL k x hx hk usualT (by decide) HN
  rw [decide_eq_true hs, hu] at HI
  replace HI := Kp.mk HI
  clear h hx hk hs hu HN hL
  go_enter Tryd.func37, Tryd.ntmps37
  go_wp2_with fail
  refine HI.out.mono ?_
  rintro e w1 ⟨rfl, rfl⟩
  go_wp2
  go_ret
  exact ⟨rfl, rfl⟩
def nHtml : List UInt8 := [104, 116, 109, 108]
def nP : List UInt8 := [112]
def nTable : List UInt8 := [116, 97, 98, 108, 101]
def headL : List (List UInt8 × Int) := [(nHtml, 0), (nP, 0), (nTable, 0)]
theorem headL_made : madeF headL = ([pageN, ⟨2, 0, nHtml, -1⟩, ⟨2, 0, nP, -1⟩, ⟨2, 0, nTable, -1⟩], [1, 2, 3]) := by
  have h0 : spF 0 = 0 := by decide +kernel
  have e1 : ∀ L : List NodeM, addF L 0 nHtml = L ++ [⟨2, 0, nHtml, -1⟩] := fun L => by rw [addF, if_neg (by decide)]
  have e2 : ∀ L : List NodeM, addF L 0 nP = L ++ [⟨2, 0, nP, -1⟩] := fun L => by rw [addF, if_neg (by decide)]
  have e3 : ∀ L : List NodeM, addF L 0 nTable = L ++ [⟨2, 0, nTable, -1⟩] := fun L => by rw [addF, if_neg (by decide)]
  simp [madeF, headL, h0, e1, e2, e3]
theorem scope_head {w : World} {s d g c : Nat} {L : List NodeM} (h : DocR w d L) (hL : L = (madeF headL).1) (k0 : w.cell? ⟨s, 0, none⟩ = some (.pointer (some ⟨d, 0, none⟩))) (k1 : w.cell? ⟨s, 1, none⟩ = some (.slice (some ⟨g, 0, none⟩) 3 c)) (k3 : w.cell? ⟨g, 2, none⟩ = some (.int .i64 3))
    {u v : Value} (hc : w.cell? ⟨1, 0, none⟩ = some u) (HN : Sl w u 1 9 (SV usualT)) (HP : Sl w v 1 1 (SV [nP])) :
    Calls Tryd.prog 27 #[.pointer (some ⟨s, 0, none⟩), .int .i64 0, v] w fun e w' => e = .returned (.bool false) ∧ w' = w := by
  rw [headL_made] at hL
  have hx : L[3]? = some ⟨2, 0, nTable, -1⟩ := by rw [hL]; rfl
  have hl : L.length ≤ 100000 := by rw [hL]; decide
  have HI := dom_Is h hl 3 _ hx rfl [nP] (by decide) HP
  rw [show (decide ((NodeM.mk 2 0 nTable (-1)).sp = 0) && hasB [nP] (NodeM.mk 2 0 nTable (-1)).name) = false by decide] at HI
  have HB := bounds_usual h hl 3 _ hx rfl rfl (by decide) hc HN
  have HI2 : Calls Tryd.prog 29 #[.pointer (some ⟨d, 0, none⟩), .int .i64 3, v] w fun e w' => e = .returned (.bool false) ∧ w' = w := HI
  have HB2 : Calls Tryd.prog 37 #[.pointer (some ⟨d, 0, none⟩), .int .i64 3, .int .i64 0] w fun e w' => e = .returned (.bool true) ∧ w' = w := HB
  replace HI2 := Kp.mk HI2
  replace HB2 := Kp.mk HB2
  clear HI HB h hL hx hl hc HN HP
  go_enter Tryd.func27, Tryd.ntmps27
  go_wp2
  go_loopg [7] 1 (fun gk v wr => v = .int .i64 2 ∧ wr = w)
  case atStart => exact ⟨rfl, rfl⟩
  case round =>
    obtain ⟨rfl, rfl⟩ := hrel
    go_wp2_with fail
    refine HI2.out.mono ?_
    rintro e w1 ⟨rfl, rfl⟩
    go_wp2_with fail
    refine HB2.out.mono ?_
    rintro e w1 ⟨rfl, rfl⟩
    go_wp2
    go_ret
    exact ⟨rfl, rfl⟩
end Go.Proofs.YtbijlkbfndkdcaaDoorSep
