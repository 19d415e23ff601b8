import Derived.Test.YtmkcphelmgkipaaT7
set_option linter.unusedVariables false
set_option linter.unusedSimpArgs false
namespace Go.Proofs.Ytmkcphelmgkipaa
open Go.RowKit

theorem strCells_bvals (s : ByteArray) : Lib.strCells s = bvals s.data.toList := rfl

set_option maxHeartbeats 400000 in
set_option maxRecDepth 100000 in
theorem raw_one (o b : Nat) (s : ByteArray) (v : Value) (l : List UInt8) (w : World) (hO : OutAt w o v l) (hl : l.length + s.size ≤ 70368744177664)
    (hc : w.cell? ⟨b, 0, none⟩ = some (.string s)) :
    Calls Try.prog 40 #[.pointer (some ⟨o, 0, none⟩), .slice (some ⟨b, 0, none⟩) 1 1] w fun e w' => e = .returned (.tuple #[]) ∧
      ∃ v', OutAt w' o v' (l ++ s.data.toList) ∧ OutTo w w' o v := by
  obtain ⟨i0, hi, hz0, hz1, hz2⟩ := info_parts Try.info5
  go_enter Try.func40, Try.ntmps40
  go_wp2
  go_loopw [10] (fun i wr => (i = .int .i64 0 ∧ wr = w) ∨ (i = .int .i64 1 ∧ ∃ v', OutAt wr o v' (l ++ s.data.toList) ∧ OutTo w wr o v))
    (fun i _ => 1 - (intOf i).toNat)
  case atStart => exact .inl ⟨rfl, rfl⟩
  case round =>
    rcases hrel with ⟨rfl, rfl⟩ | ⟨rfl, v', h1, h2⟩
    · have hc0 := hO.cell
      go_wp2_with (at_builtin; refine Lib.wpList_append_own_string _ rfl _ _ 52 9 rfl (o + 1) 5 i0 Try.underlying52 Try.underlying9 hi hz0 hz1 hz2 _ _ _ rfl hO.2 s rfl ?c1 ?c2 ?c3 ?_)
      case c1 => unfold maxLen; omega
      case c2 => omega
      case c3 => have := hO.lt; omega
      intro u' w1 hown' hgrow _
      obtain ⟨ua, uc, rfl⟩ := owns_slice hown'
      have hO' := out_append (m := s.data.toList) hO (Below.refl wr.heap.size wr) (n := l.length + s.size) (by simp) (by rw [bvals_append]; exact hown') hgrow
      have hc1 := hO'.1
      have hf1 := hO'.2.1
      have HO := Lib.hid hO'.2.2
      clear hO' hown' hgrow
      go_wp2
      go_roundw
      case rel => exact .inr ⟨rfl, _, HO.out⟩
      case measure => simp [intOf]
    · go_wp2
      go_end0
      exact ⟨rfl, v', h1, h2⟩

theorem OutAt.alloc {w : World} {o : Nat} {v : Value} {l : List UInt8} (h : OutAt w o v l) (x : Obj) : OutAt (w.alloc x) o v l :=
  ⟨by rw [Below.heap_alloc _ _ _ h.lt]; exact h.1, h.2.alloc x⟩
theorem OutTo.alloc (w : World) (o : Nat) (v : Value) (x : Obj) : OutTo w (w.alloc x) o v :=
  ⟨rfl, rfl, rfl, by simp, fun k hk _ _ => Below.heap_alloc _ _ _ hk⟩

theorem Stays.alloc {w : World} {v v' : Value} {x : Obj} (h : Stays (w.alloc x) v v') : Stays w v v' := by
  rcases h with e | ⟨g, e, hg⟩
  · exact .inl e
  · exact .inr ⟨g, e, by simp at hg; omega⟩

/-- One number, handed over in a new list. -/
theorem var_one (o b : Nat) (x : Int) (v : Value) (l : List UInt8) (w : World) (h0 : 0 ≤ x) (h1 : x < 18446744073709551616) (hO : OutAt w o v l) (hl : l.length + 9 ≤ 70368744177664) (hb : b = w.heap.size) :
    Calls Try.prog 43 #[.pointer (some ⟨o, 0, none⟩), .slice (some ⟨b, 0, none⟩) 1 1] (w.alloc (.cells #[.int .u64 x] 24)) fun e w' => e = .returned (.tuple #[]) ∧
      ∃ v', OutAt w' o v' (l ++ vr x.toNat) ∧ OutTo w w' o v ∧ Stays w v v' := by
  subst hb
  have ho := hO.lt
  have H := var_any o w.heap.size 0 1 [x.toNat] v l (w.alloc (.cells #[.int .u64 x] 24)) (hO.alloc _) (by simp; omega) (by simp) (by omega) (fun e => by have := hO.own_lt _ e; omega)
    (by intro k hk; simp at hk; subst hk; rw [World.cell?_alloc_at (hn := rfl)]; simp; omega) (by intro k hk; simp at hk; subst hk; simp; omega)
  refine H.mono ?_
  rintro e w' ⟨h1, v', h2, h3, h4⟩
  exact ⟨h1, v', by simpa [vrs] using h2, (OutTo.alloc w o v _).trans h3 (Stays.refl _ _), h4.alloc⟩

/-- Two numbers, handed over in a new list. -/
theorem var_two (o b : Nat) (x y : Int) (v : Value) (l : List UInt8) (w : World) (h0 : 0 ≤ x) (h1 : x < 18446744073709551616) (hy0 : 0 ≤ y) (hy1 : y < 18446744073709551616) (hO : OutAt w o v l) (hl : l.length + 18 ≤ 70368744177664) (hb : b = w.heap.size) :
    Calls Try.prog 43 #[.pointer (some ⟨o, 0, none⟩), .slice (some ⟨b, 0, none⟩) 2 2] (w.alloc (.cells #[.int .u64 x, .int .u64 y] 24)) fun e w' => e = .returned (.tuple #[]) ∧
      ∃ v', OutAt w' o v' (l ++ (vr x.toNat ++ vr y.toNat)) ∧ OutTo w w' o v ∧ Stays w v v' := by
  subst hb
  have ho := hO.lt
  have H := var_any o w.heap.size 0 2 [x.toNat, y.toNat] v l (w.alloc (.cells #[.int .u64 x, .int .u64 y] 24)) (hO.alloc _) (by simp; omega) (by simp) (by omega) (fun e => by have := hO.own_lt _ e; omega)
    (by
      intro k hk
      rw [World.cell?_alloc_at (hn := rfl)]
      match k, hk with
      | 0, _ => simp; omega
      | 1, _ => simp; omega) (by
      intro k hk
      match k, hk with
      | 0, _ => simp; omega
      | 1, _ => simp; omega)
  refine H.mono ?_
  rintro e w' ⟨h1, v', h2, h3, h4⟩
  exact ⟨h1, v', by simpa [vrs] using h2, (OutTo.alloc w o v _).trans h3 (Stays.refl _ _), h4.alloc⟩

/-- One text, handed over in a new list. -/
theorem raw_new (o b : Nat) (s : ByteArray) (v : Value) (l : List UInt8) (w : World) (hO : OutAt w o v l) (hl : l.length + s.size ≤ 70368744177664) (hb : b = w.heap.size) :
    Calls Try.prog 40 #[.pointer (some ⟨o, 0, none⟩), .slice (some ⟨b, 0, none⟩) 1 1] (w.alloc (.cells #[.string s] 9)) fun e w' => e = .returned (.tuple #[]) ∧
      ∃ v', OutAt w' o v' (l ++ s.data.toList) ∧ OutTo w w' o v := by
  subst hb
  refine (raw_one o w.heap.size s v l _ (hO.alloc _) hl (by rw [World.cell?_alloc_at (hn := rfl)]; rfl)).mono ?_
  rintro e w' ⟨h1, v', h2, h3⟩
  exact ⟨h1, v', h2, (OutTo.alloc w o v _).trans h3 (Stays.refl _ _)⟩

set_option maxHeartbeats 400000 in
set_option maxRecDepth 100000 in
theorem text_one (o b : Nat) (s : ByteArray) (v : Value) (l : List UInt8) (w : World) (hO : OutAt w o v l) (hl : l.length + s.size ≤ 70368744177600)
    (hc : w.cell? ⟨b, 0, none⟩ = some (.string s)) :
    Calls Try.prog 41 #[.pointer (some ⟨o, 0, none⟩), .slice (some ⟨b, 0, none⟩) 1 1] w fun e w' => e = .returned (.tuple #[]) ∧
      ∃ v', OutAt w' o v' (l ++ txt s.data.toList) ∧ OutTo w w' o v := by
  go_enter Try.func41, Try.ntmps41
  go_wp2
  go_loopw [8] (fun i wr => (i = .int .i64 0 ∧ wr = w) ∨ (i = .int .i64 1 ∧ ∃ v', OutAt wr o v' (l ++ txt s.data.toList) ∧ OutTo w wr o v))
    (fun i _ => 1 - (intOf i).toNat)
  case atStart => exact .inl ⟨rfl, rfl⟩
  case round =>
    rcases hrel with ⟨rfl, rfl⟩ | ⟨rfl, v', h1, h2⟩
    · have hv9 := vr_le s.size
      have HT : Hid (txt s.data.toList = vr s.size ++ s.data.toList) := rfl
      go_wp2_with fail
      refine (var_one o _ s.size v l wr (by omega) (by omega) hO (by omega) rfl).mono ?_
      rintro e w1 ⟨rfl, v1, ho1, ht1, hs1⟩
      rw [Int.toNat_natCast] at ho1
      go_wp2_with fail
      refine (raw_new o _ s v1 _ w1 ho1 (by simp; omega) rfl).mono ?_
      rintro e w2 ⟨rfl, v2, ho2, ht2⟩
      have HO := Lib.hid ho2
      clear ho2
      go_wp2
      go_roundw
      case rel =>
        refine .inr ⟨rfl, v2, ?_, ?_⟩
        · rw [HT.out, ← List.append_assoc]; exact HO.out
        · exact ht1.trans ht2 hs1
      case measure => simp [intOf]
    · go_wp2
      go_end0
      exact ⟨rfl, v', h1, h2⟩

/-- One text with its length, handed over in a new list. -/
theorem text_new (o b : Nat) (s : ByteArray) (v : Value) (l : List UInt8) (w : World) (hO : OutAt w o v l) (hl : l.length + s.size ≤ 70368744177600) (hb : b = w.heap.size) :
    Calls Try.prog 41 #[.pointer (some ⟨o, 0, none⟩), .slice (some ⟨b, 0, none⟩) 1 1] (w.alloc (.cells #[.string s] 9)) fun e w' => e = .returned (.tuple #[]) ∧
      ∃ v', OutAt w' o v' (l ++ txt s.data.toList) ∧ OutTo w w' o v := by
  subst hb
  refine (text_one o w.heap.size s v l _ (hO.alloc _) hl (by rw [World.cell?_alloc_at (hn := rfl)]; rfl)).mono ?_
  rintro e w' ⟨h1, v', h2, h3⟩
  exact ⟨h1, v', h2, (OutTo.alloc w o v _).trans h3 (Stays.refl _ _)⟩

set_option maxHeartbeats 400000 in
set_option maxRecDepth 100000 in
theorem string_any (o : Nat) (v : Value) (l : List UInt8) (w : World) (hO : OutAt w o v l) :
    Calls Try.prog 45 #[.pointer (some ⟨o, 0, none⟩)] w fun e w' => e = .returned (.string (str l)) ∧ w = w' := by
  have hc := hO.cell
  have hcv := own_str hO.2
  go_enter Try.func45, Try.ntmps45
  go_wp2
  go_ret
  exact ⟨rfl, rfl⟩
end Go.Proofs.Ytmkcphelmgkipaa
