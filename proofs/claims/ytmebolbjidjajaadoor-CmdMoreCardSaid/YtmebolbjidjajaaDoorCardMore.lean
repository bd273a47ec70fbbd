/-
  The card of CmdMore.
-/
import Derived.Test.YtmebolbjidjajaaDoorCard
import Derived.Test.YtmebolbjidjajaaDoorLawMore
set_option maxRecDepth 100000
namespace Go.Proofs.YtmebolbjidjajaaDoor.cmdMore
open Go.ChangeShapes Go.WideShapes Go.ChangeAt Go.RowKit Go.Proofs.YtmebolbjidjajaaDoorW.PrintWords
open Go.ChangeMaps (open_string shut_string)
theorem okWide_array {P : Program} {w : World} {r : Reach} {base : Nat} {t e : TypeId} {n : Nat} {v : Value} (ht : P.underlying t = some (.array n e)) (h : Value.okWide P w r base t v) : ∃ cs, v = .agg cs := by
  simp only [Value.okWide, ht] at h
  obtain ⟨cs, h1, _⟩ := h
  exact ⟨cs, h1⟩
theorem cellsRow : Tryd.prog.cellsOf 22 = 1 := by kernel_rfl
theorem cellsTwo : Tryd.prog.cellsOf 38 = 2 := by kernel_rfl
theorem cellsTexts : Tryd.prog.cellsOf 39 = 2 := by kernel_rfl
theorem open_one {H : Type} {enc : TypeId × Value → H} {W : World} {fuel : Nat} {v : Value} {x : DataW H × List MemPlace}
    (h : DataW.trod enc Tryd.prog W 0 (fun _ => true) true fuel 22 [v] = some x) : ∃ (A : Option Addr) (c : Nat) (xs : List CV), v = .slice A xs.length c ∧ xs.length ≤ c ∧ Kd.C kCV W A xs.length xs ∧ (A = none → c = 0) ∧ Ints xs := by
  have h0 := h
  rcases Go.Deep.open_slice Tryd.underlying22 h with ⟨hcs, _⟩ | ⟨a, l, c, m, n, D, Pl, hcs, _, hl, hm, hmm, _, hx⟩
  · simp only [List.cons.injEq, and_true] at hcs
    subst hcs
    obtain ⟨xs, hxl, hc, hC, hi⟩ := open_cmds h0
    rw [← hxl] at hC
    exact ⟨none, 0, xs, by rw [hxl], by omega, hC, fun _ => rfl, hi⟩
  · simp only [List.cons.injEq, and_true] at hcs
    subst hcs
    obtain ⟨xs, hxl, hc, hC, hi⟩ := open_cmds h0
    subst hxl
    exact ⟨some a, c, xs, rfl, hc, hC, (fun e => by cases e), hi⟩
theorem open_two {H : Type} {enc : TypeId × Value → H} {W : World} {fuel : Nat} {cs : Array Value} {x : DataW H × List MemPlace}
    (h : DataW.trod enc Tryd.prog W 0 (fun _ => true) true fuel 38 (Value.agg cs).cells.toList = some x) :
    ∃ (A B : Option Addr) (c d : Nat) (xs ys : List CV), cs = #[.slice A xs.length c, .slice B ys.length d] ∧ xs.length ≤ c ∧ ys.length ≤ d ∧ Kd.C kCV W A xs.length xs ∧ Kd.C kCV W B ys.length ys ∧ (A = none → c = 0) ∧ (B = none → d = 0) ∧ Ints xs ∧ Ints ys := by
  obtain ⟨zs, m, rfl, _, hl, hzl, hall⟩ := DataW.trod_array Tryd.underlying38 h
  rw [cellsTwo] at hl
  rw [cellsRow] at hall
  obtain ⟨cl⟩ := cs
  simp only [Value.cells] at hl hall
  match cl, hl with
  | [v0, v1], _ =>
    match zs, hzl with
    | [y0, y1], _ =>
      have g0 := hall 0 (by decide)
      have g1 := hall 1 (by decide)
      simp at g0 g1
      obtain ⟨A, c, xs, rfl, h1, h2, h3, h4⟩ := open_one g0
      obtain ⟨B, d, ys, rfl, k1, k2, k3, k4⟩ := open_one g1
      exact ⟨A, B, c, d, xs, ys, rfl, h1, k1, h2, k2, h3, k3, h4, k4⟩
theorem open_texts {H : Type} {enc : TypeId × Value → H} {W : World} {fuel : Nat} {cs : Array Value} {x : DataW H × List MemPlace}
    (h : DataW.trod enc Tryd.prog W 0 (fun _ => true) true fuel 39 (Value.agg cs).cells.toList = some x) : ∃ s t : ByteArray, cs = #[.string s, .string t] := by
  obtain ⟨zs, m, rfl, _, hl, hzl, hall⟩ := DataW.trod_array Tryd.underlying39 h
  rw [cellsTexts] at hl
  rw [cellsStr] at hall
  obtain ⟨cl⟩ := cs
  simp only [Value.cells] at hl hall
  match cl, hl with
  | [v0, v1], _ =>
    match zs, hzl with
    | [y0, y1], _ =>
      have g0 := hall 0 (by decide)
      have g1 := hall 1 (by decide)
      simp at g0 g1
      obtain ⟨s, e0, _, _⟩ := DataW.trod_string Tryd.underlying9 g0
      obtain ⟨t, e1, _, _⟩ := DataW.trod_string Tryd.underlying9 g1
      simp only [List.cons.injEq, and_true] at e0 e1
      subst e0 e1
      exact ⟨s, t, rfl⟩
/-- WHAT THE WALK GIVES, FOR EVERY ARGUMENT. -/
theorem contract (H : Type) (enc : TypeId × Value → H) (W : World) (base : Nat) (args : Array Value) (ds gs : List (DataW H)) (before : List MemPlace)
    (hval : ∀ (j : Nat) t v, Tryd.f5.params[j]? = some t → args[j]? = some v → Value.okWide Tryd.prog W .any base t v)
    (hW : DataW.Whole enc Tryd.prog Tryd.f5.params.toList Rows.cmdMoreSpec.vars false W args.toList ds gs before) (hL : laidMetH Tryd.prog laidList W) (hsh : W.ShapedOpen Tryd.prog) :
    Calls Tryd.prog 5 args W fun e W' => ∃ v, e = .returned v ∧ Rows.cmdMoreSpec.post enc Tryd.prog Tryd.f5 false true false false W args v W' := by
  have hW' := hW
  obtain ⟨p, q, hA0, hV, rfl, hfz, hnd⟩ := hW
  have hA : DataW.TrodAll enc Tryd.prog W 0 (fun _ => true) true Tryd.f5.params.toList args.toList ds p := hA0
  rw [Tryd.params5] at hA hval
  obtain ⟨v0, vs0, d0, ds0, p0, q0, hargs, rfl, rfl, h0, r0⟩ := trodAll_cons hA
  obtain ⟨v1, vs1, d1, ds1, p1, q1, rfl, rfl, rfl, h1, r1⟩ := trodAll_cons r0
  obtain ⟨rfl, rfl, rfl⟩ := trodAll_nil r1
  obtain rfl : args = #[v0, v1] := by cases args; simp_all
  obtain ⟨rfl, rfl⟩ := trodVars_none hV
  obtain ⟨cs0, rfl⟩ := okWide_array Tryd.underlying38 (hval 0 38 v0 rfl rfl)
  obtain ⟨cs1, rfl⟩ := okWide_array Tryd.underlying39 (hval 1 39 v1 rfl rfl)
  have k0 := h0
  have k1 := h1
  have lt0 : ∀ x ∈ p0, x.block < W.heap.size := by obtain ⟨m, hm⟩ := k0; exact DataW.trod_lt m _ _ _ hm
  have lt1 : ∀ x ∈ p1, x.block < W.heap.size := by obtain ⟨m, hm⟩ := k1; exact DataW.trod_lt m _ _ _ hm
  obtain ⟨fuel, hf⟩ := h0
  obtain ⟨fuel1, hf1⟩ := h1
  obtain ⟨A, B, c, d, xs, ys, rfl, hc, hd, hC, hD, hA', hB', hix, hiy⟩ := open_two hf
  obtain ⟨s, t, rfl⟩ := open_texts hf1
  clear hA0
  simp only [List.append_nil] at hW'
  refine (more_any A B c d xs ys s t W hC hc hD hd (env_laid hL hsh) hA' hB' hix hiy).mono fun e W' ⟨he, hO⟩ => ?_
  subst he
  have bel := hO.below
  exact ⟨_, rfl, _, _, _, [], _, [], hW', trodAll_mk1 (shut_bool Tryd.underlying4 _),
    trodAll_cons_mk (Below.trod laidOut (by kernel_rfl) (of_decide_eq_true (by kernel_rfl)) k0 bel lt0) (trodAll_cons_mk (Below.trod laidOut (by kernel_rfl) (of_decide_eq_true (by kernel_rfl)) k1 bel lt1) trodAll_mk0), rfl, bel.frame _, fun h => by cases h⟩
theorem reads (os : Os) {H : Type} (enc : TypeId × Value → H) : ∃ places, DataW.whole enc Tryd.prog ((cardWorld os).forCall (fun _ _ => 0) ⟨#[], #[.agg #[.slice none 0 0, .slice none 0 0], .agg #[.string ByteArray.empty, .string ByteArray.empty]], []⟩).memory Tryd.f5.params.toList Rows.cmdMoreSpec.vars false #[Value.agg #[.slice none 0 0, .slice none 0 0], Value.agg #[.string ByteArray.empty, .string ByteArray.empty]].toList 8 = some ([.agg [.nil, .nil], .agg [.lit (.string []), .lit (.string [])]], [], places) :=
  ⟨[], by kernel_rfl⟩
theorem lifted (os : Os) (started : os.Started) (H : Type) (enc : TypeId × Value → H) (F : Stop.Interp) :
    ReturnsInHanded {} Tryd.checked os 5 .any ((OpenSpec.ofChange Rows.cmdMoreSpec).preRow enc Tryd.prog Tryd.f5 Rows.cmdMoreRow.domain false Rows.cmdMoreRow.laid) (((OpenSpec.ofChange Rows.cmdMoreSpec).at F).post enc Tryd.prog Tryd.f5 false true false false) := by
  obtain ⟨places, hx⟩ := reads os enc
  refine returnsInHanded_of_row (C := Tryd.checked) (s := OpenSpec.ofChange Rows.cmdMoreSpec) own started (by kernel_rfl) Tryd.func5
    (witness_row_atRef (enc := enc) (C := Tryd.checked) false (cardWorld os) #[.agg #[.slice none 0 0, .slice none 0 0], .agg #[.string ByteArray.empty, .string ByteArray.empty]] rfl (by kernel_rfl) (by kernel_rfl) (by kernel_rfl)
      (OpenSpec.preRow_of_cond 8 hx (by kernel_rfl) (fun k hk => by cases hk) (by kernel_rfl) (door_met os _))) ?_
  intro W base args ds gs before hval hW _ _ _ hL hsh _
  exact contract H enc W base args ds gs before hval hW hL hsh
theorem said : Rows.CmdMoreSaid :=
  OpenClaim.holds_of_cond 5 Tryd.f5 rfl rfl rfl rfl rfl rfl rfl ⟨rfl, rfl, rfl, rfl, rfl⟩ rfl rfl rfl rfl rfl (by kernel_rfl) Tryd.func5 (by kernel_rfl)
    (of_decide_eq_true (by kernel_rfl)) (by unfold Func.isWrapper; first | (rw [if_pos (by decide +kernel)]; kernel_rfl) | (rw [if_neg (by decide +kernel)]; exact ⟨rfl, rfl⟩))
    (fun os started H enc _ F => by rw [OpenClaim.pre_eq_preRow]; exact lifted os started H enc F)
theorem plain (f : FuncId) (fn : Func) (hf : Tryd.pinned.checked.prog.funcNamed "punnet/punnetlaw23.CmdMore" = some f) (hfn : Tryd.pinned.checked.prog.funcs[f]? = some fn) :
    true = Tryd.pinned.checked.prog.looks [] ∧ ∀ (j : Nat) t, fn.params[j]? = some t → Tryd.pinned.checked.prog.wantsStandIn t = false := by
  obtain rfl : f = 5 := Option.some.inj ((show Tryd.prog.funcNamed "punnet/punnetlaw23.CmdMore" = some 5 by kernel_rfl).symm.trans hf) |>.symm
  obtain rfl : fn = Tryd.f5 := (Option.some.inj (Tryd.func5.symm.trans hfn)).symm
  refine ⟨by kernel_rfl, fun j t ht => ?_⟩
  rw [Tryd.params5] at ht
  have hm := Array.mem_of_getElem? ht
  simp only [List.mem_toArray, List.mem_cons, List.not_mem_nil, or_false] at hm
  rcases hm with rfl | rfl
  · exact (show Tryd.prog.wantsStandIn 38 = false by kernel_rfl)
  · exact (show Tryd.prog.wantsStandIn 39 = false by kernel_rfl)
theorem card : Rows.CmdMoreCardSaid :=
  Claim7.holds_tied_plain_at .later [] _ _ _ _ said (fun _ h => by cases h) (by kernel_rfl) (fun _ h => by cases h) cmdMore_row_tie rfl ⟨rfl, rfl⟩ (by kernel_rfl) rfl plain (by kernel_rfl)
end Go.Proofs.YtmebolbjidjajaaDoor.cmdMore
