import Derived.Test.YtmkcphelmgkipaaT46
import Derived.Test.YtmkcphelmgkipaaT47
import Derived.Lib.ConvBytes
set_option linter.unusedVariables false
set_option linter.unusedSimpArgs false
namespace Go.Proofs.Ytmkcphelmgkipaa
open Go.RowKit

/-! Plain facts for ManiBack, and words for the walks. -/

/-- The law answered true, and what was there is there. (As in T41, which is not imported here.) -/
def Yes (w : World) (e : Ending) (w' : World) : Prop := e = .returned (.bool true) ∧ Below w.heap.size w w'

theorem dman_code (l : List UInt8) : (dman l).2 = 0 ∨ (dman l).2 = 10 ∨ (dman l).2 = 13 ∨ (dman l).2 = 14 ∨ (dman l).2 = 12 := by
  have ho : (opened l).2 = 0 ∨ (opened l).2 = 10 ∨ (opened l).2 = 13 := by
    unfold opened
    split
    · exact .inr (.inl rfl)
    · split
      · exact .inl rfl
      · exact .inr (.inr rfl)
  unfold dman
  split
  · simp only; omega
  · split
    · simp
    · split
      · simp
      · simp

theorem rd_fixed_lt (t : List UInt8) (st : Option Nat) : (rd 0 (rfixed 8) t st).1 < 18446744073709551616 := by
  cases st with
  | none => simp [rd]
  | some a =>
    cases hr : rfixed 8 (t.drop a) with
    | none => rw [rd_none hr]; simp
    | some vn =>
      obtain ⟨v, n⟩ := vn
      rw [rd_some hr]
      unfold rfixed at hr
      split at hr
      · cases hr
      · cases hr
        have hl : ((t.drop a).take 8).length = 8 := by rw [List.length_take]; omega
        have := beFrom_lt ((t.drop a).take 8)
        rw [hl] at this
        simpa using this

theorem zero_fits : Fits Man.zero := ⟨by decide, by decide, by decide, fun x hx => by cases hx⟩

theorem dman_fits (l : List UInt8) (h : l.length ≤ 140737488351232) : Fits (dman l).1 := by
  unfold dman
  split
  · exact zero_fits
  · split
    · exact zero_fits
    · split
      · exact pman_fits _ (by have := opened_le l; rw [List.length_drop]; omega)
      · exact zero_fits

theorem dman_key (l : List UInt8) : 0 ≤ (dman l).1.key ∧ (dman l).1.key < 18446744073709551616 := by
  unfold dman
  split
  · simp [Man.zero]
  · split
    · simp [Man.zero]
    · split
      · show 0 ≤ ((p2 _).1 : Int) ∧ ((p2 _).1 : Int) < 18446744073709551616
        have := rd_fixed_lt (List.drop 4 (opened l).1) (p1 (List.drop 4 (opened l).1)).2
        unfold p2
        omega
      · simp [Man.zero]

theorem dman_sum {l : List UInt8} (h : opened l = ([], 13)) : dman l = (Man.zero, 13) := by
  unfold dman
  rw [h]
  rfl

theorem fits_in {m : Man} (h : ManIn m) (hf : FewM m) : Fits m := by
  refine ⟨by have := hf.vol; omega, by have := hf.bvol; omega, by have := hf.len; omega, fun x hx => ?_⟩
  obtain ⟨i, hi, rfl⟩ := List.mem_iff_getElem.mp hx
  have := hf.names i hi
  rw [List.getD_eq_getElem?_getD, List.getElem?_eq_getElem hi] at this
  simp only [Option.getD_some] at this
  omega

/-- One byte of what was encoded turned: no manifest. -/
theorem dman_turned (m : Man) (i : Nat) (hi : i < (enc m).length) (d : UInt8) (hd : d ≠ (enc m)[i]) : dman ((enc m).set i d) = (Man.zero, 13) :=
  dman_sum (opened_turned _ i hi d hd)

theorem enc_len {m : Man} (h : Good m) : (enc m).length ≤ 20000 := by
  have h1 := snapsBytes_le h m.snaps.length (Nat.le_refl _)
  rw [List.take_length] at h1
  have h2 := front_le h
  have h3 := h.many
  have hl : (enc m).length = (front m ++ snapsBytes m.snaps).length + 4 := by unfold enc sealed; rw [List.length_append]; rfl
  rw [hl, List.length_append]
  omega

/-! A byte turned. -/
def BytesAt (w : World) (g : Nat) (l : List UInt8) : Prop := ∀ j, j < l.length → w.cell? ⟨g, j, none⟩ = some (.int .u8 ((l.getD j 0).toNat : Int))

theorem below_bytes (w : World) (e : TypeId) (s : ByteArray) : Below w.heap.size w (Lib.bytesWorld w e s) :=
  ⟨rfl, rfl, rfl, by rw [Lib.bytesWorld_size]; omega, fun k hk => Lib.bytesWorld_at_old w e s k hk⟩

theorem bytes_of (t : ByteArray) (w : World) : ∃ cap W, Sem.run Try.prog (convert 9 52 (.string t)) w = .ok (.slice (some ⟨w.heap.size, 0, none⟩) t.size cap) W ∧ Below w.heap.size w W ∧ W.heap.size = w.heap.size + 1 ∧
    BytesAt W w.heap.size t.data.toList ∧ (∀ j, j < t.size → W.frozen? ⟨w.heap.size, j, none⟩ = false) := by
  refine ⟨_, _, Lib.run_convert_string_bytes w 9 52 5 t Try.underlying9 Try.underlying52 Try.underlying5, below_bytes w 5 t, Lib.bytesWorld_size w 5 t, fun j hj => Lib.bytesWorld_cell w 5 t j (by simpa using hj), fun j hj => ?_⟩
  have hle : t.size ≤ (Lib.bytesCells w 5 t).size := by simp [Lib.bytesCells]
  unfold World.frozen?
  rw [Lib.bytesWorld_at_new]
  simp only [Bool.and_eq_false_iff, decide_eq_false_iff_not]
  left
  omega

theorem xor_u8_nat (a b : Nat) (ha : a < 256) (hb : b < 256) : bits .xor .u8 (a : Int) (b : Int) = ((a ^^^ b : Nat) : Int) := by
  exact u8_xor_nat a b ha hb

theorem u8_wrap (n : Int) : IntKind.u8.wrap n = n % 256 := by simp [IntKind.wrap, IntKind.bits, IntKind.signed]

theorem turn_u8 (x : UInt8) (n : Int) : bits .xor .u8 (x.toNat : Int) (IntKind.u8.wrap n) = ((x ^^^ UInt8.ofNat (n % 256).toNat).toNat : Int) := by
  rw [u8_wrap]
  have h := xor_u8_nat x.toNat (n % 256).toNat (UInt8.toNat_lt x) (by omega)
  have e : (((n % 256).toNat : Nat) : Int) = n % 256 := by omega
  rw [e] at h
  rw [h, UInt8.toNat_xor, UInt8.toNat_ofNat', Nat.mod_eq_of_lt (by omega)]

theorem turn_ne (x y : UInt8) (h : y ≠ 0) : x ^^^ y ≠ x := by
  intro e
  apply h
  have := congrArg (fun z => x ^^^ z) e
  simpa [← UInt8.xor_assoc] using this

theorem turn_nz {n : Int} (h : n.tmod 256 ≠ 0) : UInt8.ofNat (n % 256).toNat ≠ 0 := by
  intro e
  have := congrArg UInt8.toNat e
  rw [UInt8.toNat_ofNat', Nat.mod_eq_of_lt (by omega)] at this
  have h0 : n % 256 = 0 := by
    have : (n % 256).toNat = 0 := this
    omega
  exact h (Int.tmod_eq_zero_of_dvd (Int.dvd_of_emod_eq_zero h0))

theorem turned_no (m : Man) (t : ByteArray) (ht : t = str (enc m)) (n : Nat) (hn : n < t.size) (y : UInt8) (hy : y ≠ 0) :
    dman (t.data.toList.set n (t.data.toList.getD n 0 ^^^ y)) = (Man.zero, 13) := by
  subst ht
  rw [str_size] at hn
  rw [str_data]
  refine dman_turned m n hn _ ?_
  rw [List.getD_eq_getElem?_getD, List.getElem?_eq_getElem hn]
  exact turn_ne _ _ hy

theorem back_of (W : World) (g cap n : Nat) (t : ByteArray) (d : UInt8) (hB : BytesAt W g t.data.toList) (hn : n < t.size) :
    Sem.run Try.prog (convert 52 9 (.slice (some ⟨g, 0, none⟩) t.size cap)) (W.setCell ⟨g, n, none⟩ (.int .u8 (d.toNat : Int))) = .ok (.string (str (t.data.toList.set n d))) (W.setCell ⟨g, n, none⟩ (.int .u8 (d.toNat : Int))) := by
  have hl : (t.data.toList.set n d).length = t.size := by simp
  have h := run_convert_bytes_back (P := Try.prog) (W.setCell ⟨g, n, none⟩ (.int .u8 (d.toNat : Int))) 52 9 5 ⟨g, 0, none⟩ cap (t.data.toList.set n d) Try.underlying52 Try.underlying5 Try.underlying9 (fun j hj => by
    rw [List.length_set] at hj
    rw [WideShapes.add_plain, Nat.zero_add]
    have hj' : j < t.data.toList.length := hj
    have hold := hB j hj'
    by_cases e : j = n
    · subst e
      rw [List.getElem_set_self]
      exact World.cell?_setCell_same _ _ _ hold
    · rw [List.getElem_set_ne (by omega), World.cell?_setCell_other _ _ _ _ (fun h' => e (by injection h' with _ h2; exact h2.symm)), hold, List.getD_eq_getElem?_getD, List.getElem?_eq_getElem hj']
      rfl)
  rw [hl] at h
  exact h
end Go.Proofs.Ytmkcphelmgkipaa
