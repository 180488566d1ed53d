/- Own work: lists of bytes as values; a number's bytes. No program in it. -/
import Derived.Test.YtfpiaeodblbfjaaLaw
namespace Go.Proofs.YtfpiaeodblbfjaaSep
open Go.RowKit Go.Lib

/-- Bytes as values. -/
def U (l : List UInt8) : List Value := l.map fun b => .int .u8 b.toNat
theorem U_nil : U [] = [] := rfl
theorem U_append (a b : List UInt8) : U (a ++ b) = U a ++ U b := by simp [U]
theorem U_length (a : List UInt8) : (U a).length = a.length := by simp [U]
theorem U_one (a : List UInt8) : ∀ u ∈ U a, u.oneCell' = true := by
  intro u hu
  simp only [U, List.mem_map] at hu
  obtain ⟨b, _, rfl⟩ := hu
  rfl
theorem U_str (s : ByteArray) : strCells s = U s.data.toList := rfl
theorem data_length (s : ByteArray) : s.data.toList.length = s.size := Array.length_toList
theorem U_inj {a b : List UInt8} (h : U a = U b) : a = b := by
  induction a generalizing b with
  | nil => cases b with
    | nil => rfl
    | cons y b => cases h
  | cons x a ih => cases b with
    | nil => cases h
    | cons y b =>
      simp only [U, List.map_cons, List.cons.injEq] at h
      have h1 : x.toNat = y.toNat := by
        have := h.1
        injection this with _ h2
        exact_mod_cast h2
      rw [UInt8.toNat_inj.1 h1, ih (b := b) h.2]
def str (l : List UInt8) : ByteArray := ⟨l.toArray⟩
theorem str_inj {a b : List UInt8} : str a = str b ↔ a = b := by
  constructor
  · intro h
    have : (str a).data.toList = (str b).data.toList := by rw [h]
    simpa [str] using this
  · intro h; rw [h]
theorem str_toList (a : List UInt8) : (str a).toList = a := by
  unfold str; simp
theorem str_data (a : List UInt8) : (str a).data.toList = a := by simp [str]
theorem str_size (a : List UInt8) : (str a).size = a.length := by simp [str, ByteArray.size]

/-- A byte behind which more follow; the last one. -/
def more8 (x : Nat) : UInt8 := UInt8.ofNat (x % 128 + 128)
def last8 (x : Nat) : UInt8 := UInt8.ofNat x
theorem num_u8_or (x : Nat) : bits .or .u8 ((x : Int) % 256) 128 = ((more8 x).toNat : Int) := by
  unfold more8
  have h : ((x : Int) % 256) = ((x % 256 : Nat) : Int) := by omega
  rw [h, show (128 : Int) = ((128 : Nat) : Int) from rfl, u8_or_nat _ _ (by omega) (by omega)]
  have h3 : ∀ y : Fin 256, y.val ||| 128 = (y.val % 128 + 128) := by decide +kernel
  have h4 := h3 ⟨x % 256, by omega⟩
  simp only at h4
  rw [h4, UInt8.toNat_ofNat']
  omega
/-- A number's bytes: seven bits a byte, the lowest first. -/
def putN (n : Nat) : List UInt8 := if h : n < 128 then [last8 n] else more8 n :: putN (n / 128)
termination_by n
theorem putN_small {n : Nat} (h : n < 128) : putN n = [last8 n] := by rw [putN, dif_pos h]
theorem putN_big {n : Nat} (h : ¬ n < 128) : putN n = more8 n :: putN (n / 128) := by rw [putN, dif_neg h]
theorem putN_length (d : Nat) : ∀ n, n < 128 ^ (d + 1) → (putN n).length ≤ d + 1 := by
  induction d with
  | zero => intro n h; rw [putN_small (by simpa using h)]; simp
  | succ d ih =>
    intro n h
    by_cases hn : n < 128
    · rw [putN_small hn]; simp
    · rw [putN_big hn]
      have := ih (n / 128) (by rw [Nat.pow_succ] at h; omega)
      simp only [List.length_cons]
      omega
theorem putN_len64 {n : Nat} (h : n < 18446744073709551616) : (putN n).length ≤ 10 := putN_length 9 n (by omega)
/-- 'string(b)'. -/
theorem run_str {P : Program} {w : World} {src dst e n : Nat} {v : Value} {l : List UInt8} (hs : P.underlying src = some (.slice e)) (he : P.underlying e = some (.int .u8)) (hd : P.underlying dst = some .string)
    (h : Sl w v 1 n (U l)) : (convert src dst v).run P w = .ok (.string (str l)) w := by
  obtain ⟨hl, A, c, rfl, h1, h2, h4, hc⟩ := h
  have hn : l.length = n := by simpa [U] using hl
  rcases A with _ | ad
  · have h0 : n = 0 := by
      rcases Nat.eq_zero_or_pos n with h0 | h0
      · exact h0
      · obtain ⟨ad, h', _⟩ := hc h0
        cases h'
    subst h0
    obtain rfl : l = [] := List.eq_nil_of_length_eq_zero hn
    exact run_convert_bytes_nil w src e hs he 0 c dst hd
  · have hld : (loadCells ad n).run P w = .ok ((l.map fun b => (b.toNat : Int)).map (Value.int .u8)).toArray w := by
      have := run_loadCells_list (P := P) w ad ((l.map fun b => (b.toNat : Int)).map (Value.int .u8)) (fun j v hj => by
        have hjl : j < l.length := by
          rcases Nat.lt_or_ge j l.length with h' | h'
          · exact h'
          · rw [List.getElem?_eq_none (by rw [List.length_map, List.length_map]; exact h')] at hj
            cases hj
        obtain ⟨ad', he', hc⟩ := hc (by omega)
        injection he' with he'
        subst he'
        refine hc j v ?_
        rw [← hj, U, List.map_map]
        rfl)
      simpa [hn] using this
    rw [run_convert_bytes_string w src dst e _ n c hs he hd, run_bytesToString w ad n c _ hld, foldl_push_bytes]
    have e2 : (l.map fun b => (b.toNat : Int)).map (fun n => UInt8.ofNat n.toNat) = l := by
      rw [List.map_map]
      conv => rhs; rw [← List.map_id l]
      refine List.map_congr_left fun b _ => ?_
      simp
    rw [e2]
    simp [str, ByteArray.empty, ByteArray.emptyWithCapacity]
    rfl
theorem Own.run_str {P : Program} {W0 w : World} {R : HP} {src dst e n : Nat} {v : Value} {l : List UInt8} (hs : P.underlying src = some (.slice e)) (he : P.underlying e = some (.int .u8)) (hd : P.underlying dst = some .string)
    (H : Own W0 w (R * Row e 1 v n (U l))) : (convert src dst v).run P w = .ok (.string (str l)) w := YtfpiaeodblbfjaaSep.run_str hs he hd (H.sl (by decide))
end Go.Proofs.YtfpiaeodblbfjaaSep
