/-
  Plain laws: a number's text and back.
-/
import Derived.Test.YtmebolbjidjajaaDoorCmdNumber
namespace Go.Proofs.YtmebolbjidjajaaDoor
open Go
/-! Digits -/
def isDig (c : UInt8) : Prop := 48 ≤ c.toNat ∧ c.toNat ≤ 57
theorem digs_iff (c : UInt8) : digs.contains c = true ↔ isDig c := by
  have : ∀ k : Fin 256, digs.contains (UInt8.ofNat k.val) = true ↔ isDig (UInt8.ofNat k.val) := by
    unfold isDig; decide +kernel
  have h := this ⟨c.toNat, c.toNat_lt⟩
  simpa using h
theorem dropWhile_nil {α : Type} (p : α → Bool) : ∀ l : List α, l.dropWhile p = [] ↔ ∀ x ∈ l, p x = true
  | [] => by simp
  | a :: l => by
    have ih := dropWhile_nil p l
    by_cases h : p a = true
    · rw [List.dropWhile_cons, if_pos h, ih]; simp [h]
    · rw [List.dropWhile_cons, if_neg h]
      simp [h]
theorem takeWhile_all {α : Type} (p : α → Bool) : ∀ (l : List α), ∀ x ∈ l.takeWhile p, p x = true
  | [], x, h => by simp at h
  | a :: l, x, h => by
    by_cases ha : p a = true
    · rw [List.takeWhile_cons, if_pos ha] at h
      rcases List.mem_cons.1 h with rfl | h
      · exact ha
      · exact takeWhile_all p l x h
    · rw [List.takeWhile_cons, if_neg ha] at h; simp at h
theorem trimS_nil (l cs : List UInt8) : Lib.trimS l cs = [] ↔ ∀ x ∈ l, cs.contains x = true := by
  unfold Lib.trimS Lib.trimLeftS Lib.trimRightS
  rw [dropWhile_nil]
  constructor
  · intro h x hx
    have hx' : x ∈ l.reverse := List.mem_reverse.2 hx
    rw [← List.takeWhile_append_dropWhile (p := (cs.contains ·)) (l := l.reverse)] at hx'
    rcases List.mem_append.1 hx' with h1 | h1
    · exact takeWhile_all _ _ x h1
    · exact h x (List.mem_reverse.2 h1)
  · intro h x hx
    exact h x (List.mem_reverse.1 ((List.dropWhile_sublist _).subset (List.mem_reverse.1 hx)))
/-! Digits and numbers -/
theorem dig_byte {d : Nat} (h : d < 10) : (UInt8.ofNat (48 + d)).toNat = 48 + d := by
  rw [UInt8.toNat_ofNat']
  omega
theorem parse_snoc : ∀ (l : List UInt8) (acc : Nat) (c : UInt8), Lib.parseUint10 acc (l ++ [c]) = match Lib.parseUint10 acc l with
    | .ok a => Lib.parseUint10 a [c]
    | e => e
  | [], acc, c => by simp [Lib.parseUint10]
  | b :: l, acc, c => by
    have ih := parse_snoc l
    simp only [List.cons_append, Lib.parseUint10]
    split
    · split
      · rfl
      · split
        · rfl
        · exact ih _ _
    · rfl
theorem parse_one (a : Nat) (c : UInt8) (u : Nat) : Lib.parseUint10 a [c] = .ok u ↔ isDig c ∧ a < 1844674407370955162 ∧ a * 10 + (c.toNat - 48) < 18446744073709551616 ∧ u = a * 10 + (c.toNat - 48) := by
  simp only [Lib.parseUint10, isDig]
  split
  · rename_i h
    split
    · simp; omega
    · split
      · simp; omega
      · simp; omega
  · rename_i h
    constructor
    · intro h2; cases h2
    · intro h2; exact absurd h2.1 h
theorem decDigits_big {u : Nat} (h : ¬ u < 10) : Lib.decDigits u = Lib.decDigits (u / 10) ++ [UInt8.ofNat (48 + u % 10)] := by rw [Lib.decDigits, dif_neg h]
theorem decDigits_ne (u : Nat) : Lib.decDigits u ≠ [] := by
  by_cases h : u < 10
  · rw [Lib.decDigits_one h]; simp
  · rw [decDigits_big h]; simp
theorem decDigits_dig : ∀ (n u : Nat), u ≤ n → ∀ c ∈ Lib.decDigits u, isDig c
  | n, u, hn, c, hc => by
    by_cases h : u < 10
    · rw [Lib.decDigits_one h, List.mem_singleton] at hc
      subst hc
      unfold isDig; rw [dig_byte h]; omega
    · rw [decDigits_big h] at hc
      rcases List.mem_append.1 hc with hc | hc
      · cases n with
        | zero => omega
        | succ n => exact decDigits_dig n (u / 10) (by omega) c hc
      · rw [List.mem_singleton] at hc
        subst hc
        unfold isDig; rw [dig_byte (Nat.mod_lt _ (by omega))]; omega
theorem parse_decDigits : ∀ (n u : Nat), u ≤ n → u < 18446744073709551616 → Lib.parseUint10 0 (Lib.decDigits u) = .ok u
  | n, u, hn, hu => by
    by_cases h : u < 10
    · rw [Lib.decDigits_one h, parse_one, isDig, dig_byte h]; omega
    · rw [decDigits_big h, parse_snoc]
      cases n with
      | zero => omega
      | succ n =>
        rw [parse_decDigits n (u / 10) (by omega) (by omega)]
        dsimp only
        rw [parse_one, isDig, dig_byte (Nat.mod_lt _ (by omega))]; omega
theorem head_app {α : Type} {a b : List α} (h : a ≠ []) : (a ++ b).head? = a.head? := by
  cases a with
  | nil => exact absurd rfl h
  | cons x a => rfl
theorem decDigits_head : ∀ (n u : Nat), u ≤ n → u ≠ 0 → (Lib.decDigits u).head? ≠ some 48
  | n, u, hn, hu => by
    by_cases h : u < 10
    · rw [Lib.decDigits_one h]
      intro e
      simp only [List.head?_cons, Option.some.injEq] at e
      have := congrArg UInt8.toNat e
      rw [dig_byte h] at this
      have h2 : (48 : UInt8).toNat = 48 := rfl
      omega
    · rw [decDigits_big h, head_app (decDigits_ne _)]
      cases n with
      | zero => omega
      | succ n => exact decDigits_head n (u / 10) (by omega) (by omega)
theorem decDigits_zero : Lib.decDigits 0 = [48] := by rw [Lib.decDigits_one (by omega)]; rfl
theorem decDigits_len (k : Nat) : ∀ u, u < 10 ^ (k + 1) → (Lib.decDigits u).length ≤ k + 1 := dec_len k
/-- A numeral without an idle 0 is its number's. -/
theorem decDigits_back : ∀ (n : Nat) (l : List UInt8) (u : Nat), l.length ≤ n → l ≠ [] → (l.head? ≠ some 48 ∨ l = [48]) → Lib.parseUint10 0 l = .ok u → Lib.decDigits u = l
  | 0, l, u, hn, hne, _, _ => absurd (List.eq_nil_of_length_eq_zero (by omega)) hne
  | n + 1, l, u, hn, hne, hh, hp => by
    obtain ⟨r, c, rfl⟩ : ∃ r c, l = r ++ [c] := ⟨l.dropLast, l.getLast hne, (List.dropLast_concat_getLast hne).symm⟩
    have byteBack : ∀ d, isDig c → d = c.toNat - 48 → UInt8.ofNat (48 + d) = c := fun d hd e => by
      apply UInt8.toNat_inj.1
      rw [dig_byte (by have := hd.2; omega)]
      have := hd.1; omega
    rw [parse_snoc] at hp
    by_cases hr : r = []
    · subst hr
      simp only [Lib.parseUint10] at hp
      have h2 := (parse_one 0 c u).1 (by simpa [Lib.parseUint10] using hp)
      have : u < 10 := by have := h2.1.2; omega
      rw [Lib.decDigits_one this, byteBack u h2.1 (by omega)]; rfl
    · have hh' : r.head? ≠ some 48 := by
        rcases hh with hh | hh
        · rwa [head_app hr] at hh
        · exfalso
          have := congrArg List.length hh
          simp at this
          exact hr this
      rcases ha : Lib.parseUint10 0 r with a | _ | _
      rotate_left
      · rw [ha] at hp; cases hp
      · rw [ha] at hp; cases hp
      · rw [ha] at hp
        have h2 := (parse_one a c u).1 hp
        have ih := decDigits_back n r a (by simp at hn; omega) hr (.inl hh') ha
        have ha0 : a ≠ 0 := by
          rintro rfl
          rw [decDigits_zero] at ih
          rw [← ih] at hh'; exact hh' rfl
        have hc := h2.1
        have : c.toNat - 48 < 10 := by have := hc.2; omega
        rw [decDigits_big (by omega), show u / 10 = a by omega, ih, byteBack (u % 10) hc (by omega)]
/-! cmd.number -/
theorem trimP_minus (r : List UInt8) : Lib.trimPrefix (45 :: r) [45] = r := by simp [Lib.trimPrefix, Lib.hasPrefix, List.isPrefixOf]
theorem trimP_other (c : UInt8) (r : List UInt8) (h : c ≠ 45) : Lib.trimPrefix (c :: r) [45] = c :: r := by
  have : ((45 : UInt8) == c) = false := by simpa using fun e => h e.symm
  simp [Lib.trimPrefix, Lib.hasPrefix, List.isPrefixOf, this]
theorem badNum_false (d l : List UInt8) : badNum d l = false ↔ d ≠ [] ∧ d.length ≤ 19 ∧ (∀ c ∈ d, isDig c) ∧ (d.head? = some 48 → l = [48]) := by
  have h3 : (Lib.trimS d digs).isEmpty = true ↔ ∀ c ∈ d, isDig c := by
    rw [List.isEmpty_iff, trimS_nil]
    exact ⟨fun h c hc => (digs_iff c).1 (h c hc), fun h c hc => (digs_iff c).2 (h c hc)⟩
  unfold badNum
  rw [← h3]
  cases h1 : d.isEmpty <;> cases h2 : (Lib.trimS d digs).isEmpty <;> simp_all
theorem num_itoa (n : Int) (h0 : -9223372036854775808 ≤ n) (h1 : n ≤ 9223372036854775807) : numR (Lib.itoa n) = (n, 0) := by
  by_cases hn : n < 0
  · obtain ⟨u, rfl⟩ : ∃ u : Nat, n = -(u : Int) := ⟨n.natAbs, by omega⟩
    have e : Lib.itoa (-(u : Int)) = 45 :: Lib.decDigits u := Lib.itoa_neg u (by omega)
    rw [e, numR, trimP_minus]
    have hb : badNum (Lib.decDigits u) (45 :: Lib.decDigits u) = false := (badNum_false _ _).2
      ⟨decDigits_ne u, decDigits_len 18 u (by omega), decDigits_dig u u (Nat.le_refl _), fun h => absurd h (decDigits_head u u (Nat.le_refl _) (by omega))⟩
    rw [hb]
    have hp : Lib.parseMag (Lib.decDigits u) = .ok u := by rw [Lib.parseMag, if_neg (decDigits_ne u)]; exact parse_decDigits u u (Nat.le_refl _) (by omega)
    have ha : Lib.atoiAll (45 :: Lib.decDigits u) = .ok (-(u : Int)) := by
      unfold Lib.atoiAll
      have h45 : (45 : UInt8).toNat = 45 := rfl
      have hu : ¬ 9223372036854775808 < u := by omega
      simp [h45, hp, hu]
    rw [ha]
    rfl
  · obtain ⟨u, rfl⟩ : ∃ u : Nat, n = (u : Int) := ⟨n.natAbs, by omega⟩
    have e : Lib.itoa (u : Int) = Lib.decDigits u := Lib.itoa_nonneg u
    rw [e, numR]
    have hdg := decDigits_dig u u (Nat.le_refl _)
    have hpu := parse_decDigits u u (Nat.le_refl _) (by omega)
    obtain ⟨c, r, hd⟩ : ∃ c r, Lib.decDigits u = c :: r := by
      cases h : Lib.decDigits u with
      | nil => exact absurd h (decDigits_ne u)
      | cons c r => exact ⟨c, r, rfl⟩
    have hc : isDig c := hdg c (by rw [hd]; simp)
    have hc45 : c ≠ 45 := by rintro rfl; exact absurd hc.1 (by decide)
    have hb : badNum (c :: r) (c :: r) = false := (badNum_false _ _).2 ⟨by simp, by rw [← hd]; exact decDigits_len 18 u (by omega), by rw [← hd]; exact hdg, fun h => by
      by_cases hu : u = 0
      · rw [← hd, hu, decDigits_zero]
      · exact absurd (by rw [hd]; exact h) (decDigits_head u u (Nat.le_refl _) hu)⟩
    rw [hd, trimP_other c r hc45, hb]
    have ha : Lib.atoiAll (c :: r) = .ok (u : Int) := by
      have k1 : ¬ c.toNat = 43 := by have := hc.1; omega
      have k2 : ¬ c.toNat = 45 := by have := hc.1; omega
      have hp : Lib.parseMag (c :: r) = .ok u := by rw [Lib.parseMag, if_neg (by simp), ← hd]; exact hpu
      unfold Lib.atoiAll
      simp only [k1, k2, or_self, if_false, hp]
      rw [if_neg (by omega), if_neg (by omega)]
    rw [ha]
    rfl
theorem itoa_num (l : List UInt8) (v : Int) (h : numR l = (v, 0)) : Lib.itoa v = l ∧ -9223372036854775808 ≤ v ∧ v ≤ 9223372036854775807 := by
  unfold numR at h
  cases hb : badNum (Lib.trimPrefix l [45]) l with
  | true => rw [hb] at h; simp at h
  | false =>
    rw [hb] at h
    simp only [Bool.false_eq_true, if_false, Prod.mk.injEq] at h
    obtain ⟨hd1, hd2, hd3, hd4⟩ := (badNum_false _ _).1 hb
    cases l with
    | nil => exact absurd rfl hd1
    | cons c r =>
      by_cases hc : c = 45
      · subst hc
        rw [trimP_minus] at hd1 hd3 hd4
        have h45 : (45 : UInt8).toNat = 45 := rfl
        rcases hp : Lib.parseMag r with u | _ | _
        rotate_left
        · simp [Lib.atoiAll, h45, hp, numE] at h
        · simp [Lib.atoiAll, h45, hp, numE] at h
        · by_cases hu : 9223372036854775808 < u
          · simp [Lib.atoiAll, h45, hp, numE, hu] at h
          · have ha : Lib.atoiAll (45 :: r) = .ok (-(u : Int)) := by
              unfold Lib.atoiAll
              simp [h45, hp, hu]
            rw [ha] at h
            have hv : v = -(u : Int) := h.1.symm
            have hpp : Lib.parseUint10 0 r = .ok u := by rw [Lib.parseMag, if_neg hd1] at hp; exact hp
            have hdd := decDigits_back r.length r u (Nat.le_refl _) hd1 (.inl (fun e => by have := hd4 e; simp at this)) hpp
            have hu0 : u ≠ 0 := by
              rintro rfl
              rw [decDigits_zero] at hdd
              have := hd4 (by rw [← hdd]; rfl)
              simp at this
            rw [hv, Lib.itoa_neg u (by omega), hdd]
            exact ⟨rfl, by omega, by omega⟩
      · rw [trimP_other c r hc] at hd1 hd3 hd4
        have hcd := hd3 c (by simp)
        have k1 : ¬ c.toNat = 43 := by have := hcd.1; omega
        have k2 : ¬ c.toNat = 45 := by have := hcd.1; omega
        rcases hp : Lib.parseMag (c :: r) with u | _ | _
        rotate_left
        · simp [Lib.atoiAll, k1, k2, hp, numE] at h
        · simp [Lib.atoiAll, k1, k2, hp, numE] at h
        · by_cases hu : 9223372036854775808 ≤ u
          · simp [Lib.atoiAll, k1, k2, hp, numE, hu] at h
          · have ha : Lib.atoiAll (c :: r) = .ok (u : Int) := by
              unfold Lib.atoiAll
              simp only [k1, k2, or_self, if_false, hp]
              rw [if_neg (by omega), if_neg (by omega)]
            rw [ha] at h
            have hv : v = (u : Int) := h.1.symm
            have hpp : Lib.parseUint10 0 (c :: r) = .ok u := by rw [Lib.parseMag, if_neg hd1] at hp; exact hp
            have hdd := decDigits_back (c :: r).length (c :: r) u (Nat.le_refl _) hd1 (by
              by_cases e : (c :: r).head? = some 48
              · exact .inr (hd4 e)
              · exact .inl e) hpp
            rw [hv, Lib.itoa_nonneg, hdd]
            exact ⟨rfl, by omega, by omega⟩
end Go.Proofs.YtmebolbjidjajaaDoor
