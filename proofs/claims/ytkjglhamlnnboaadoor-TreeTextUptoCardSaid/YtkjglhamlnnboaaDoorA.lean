/-
  Contracts: the Builder's writing, a line.
-/
import Derived.Test.YtkjglhamlnnboaaDoorRaw
set_option linter.unusedVariables false
set_option linter.unusedSimpArgs false
namespace Go.Proofs.YtkjglhamlnnboaaDoor.Am
open Go Go.Proofs
attribute [local semireducible] kcell khdr

noncomputable abbrev P04 : Program := Proofs.Tryd.prog
abbrev vi (i : Int) : AV := .p (.v (.int .i64 i))
abbrev vu (i : Int) : AV := .p (.v (.int .u64 i))
abbrev vb (b : Bool) : AV := .p (.v (.bool b))
abbrev vs (s : ByteArray) : AV := .p (.v (.string s))
theorem mixed04 : P04.follows .mixedOrders = true := by kernel_rfl

theorem ws_sem {a : AV} (ha : Adr a) (l : List UInt8) (s : ByteArray) (hr : l.length + s.size ≤ 140737488355328) :
    SemCall P04 20 [.ptr 0 0 0, vs s] [⟨bldT, [a, .own 5 1 (bRows l) false]⟩] ⟨.tup [vi (zn s.size), .p (.v .nilIface)], [[some (.ptr 0 0 0), some (.own 5 1 (bRows (l ++ s.data.toList)) false)]], []⟩ := by
  have hl := bRows_len l
  have key : bRows l ++ byteRows s = bRows (l ++ s.data.toList) := by rw [byteRows_eq, bRows_append]
  generalize hx : bRows l = xs at *
  generalize hx2 : bRows (l ++ s.data.toList) = ys at *
  generalize hsz : zn s.size = n at *
  refine semCall_of_prop (fn := Tryd.f20) (T := tab) tabOk mixed04 (by rfl) (by rfl) (by cases ha <;> kernel_rfl) ?_
  intro Q O F hQ hO hF
  have flen := lofLen hF
  have ftake := lofTake hF
  have fdrop := lofDrop hF
  have fapp := lofApp hF
  have fset := lofSet hF
  have fbytes := lofBytes hF
  have frep := lofRep hF
  have hbs : (F.bytes s).length = s.size := by rw [fbytes]; simp [byteRows]
  unfold Tryd.f20
  cases ha
  · cbv
    repeat' (first
      | (with_reducible refine o_call hO hQ (cc_sem .no _) ?_); try cbv
      | ((with_reducible refine k_eql_t hO ?_ ?_); (focus (first | assumption | (simp only [zn_eq, flen] at *; omega) | omega)); try cbv)
      | ((with_reducible refine k_eql_f hO ?_ ?_); (focus (first | assumption | (simp only [zn_eq, flen] at *; omega) | omega)); try cbv)
      | ((with_reducible refine k_eql hO (fun h => ?_) (fun h => ?_)) <;> try cbv)
      | ((with_reducible refine k_neq_t hO ?_ ?_); (focus (first | assumption | (simp only [zn_eq, flen] at *; omega) | omega)); try cbv)
      | ((with_reducible refine k_neq_f hO ?_ ?_); (focus (first | assumption | (simp only [zn_eq, flen] at *; omega) | omega)); try cbv)
      | ((with_reducible refine k_neq hO (fun h => ?_) (fun h => ?_)) <;> try cbv)
      | ((with_reducible refine k_lss_t hO ?_ ?_); (focus (first | assumption | (simp only [zn_eq, flen] at *; omega) | omega)); try cbv)
      | ((with_reducible refine k_lss_f hO ?_ ?_); (focus (first | assumption | (simp only [zn_eq, flen] at *; omega) | omega)); try cbv)
      | ((with_reducible refine k_lss hO (fun h => ?_) (fun h => ?_)) <;> try cbv)
      | ((with_reducible refine k_leq_t hO ?_ ?_); (focus (first | assumption | (simp only [zn_eq, flen] at *; omega) | omega)); try cbv)
      | ((with_reducible refine k_leq_f hO ?_ ?_); (focus (first | assumption | (simp only [zn_eq, flen] at *; omega) | omega)); try cbv)
      | ((with_reducible refine k_leq hO (fun h => ?_) (fun h => ?_)) <;> try cbv)
      | ((with_reducible refine k_gtr_t hO ?_ ?_); (focus (first | assumption | (simp only [zn_eq, flen] at *; omega) | omega)); try cbv)
      | ((with_reducible refine k_gtr_f hO ?_ ?_); (focus (first | assumption | (simp only [zn_eq, flen] at *; omega) | omega)); try cbv)
      | ((with_reducible refine k_gtr hO (fun h => ?_) (fun h => ?_)) <;> try cbv)
      | ((with_reducible refine k_geq_t hO ?_ ?_); (focus (first | assumption | (simp only [zn_eq, flen] at *; omega) | omega)); try cbv)
      | ((with_reducible refine k_geq_f hO ?_ ?_); (focus (first | assumption | (simp only [zn_eq, flen] at *; omega) | omega)); try cbv)
      | ((with_reducible refine k_geq hO (fun h => ?_) (fun h => ?_)) <;> try cbv)
      | ((with_reducible refine k_add_l hO ?_ ?_); (focus decide); try cbv)
      | ((with_reducible refine k_add_in hO ?_ (fun n hn => ?_)); (focus (simp only [inK, zn_eq, flen] at *; omega)); try cbv)
      | ((with_reducible refine k_add hO (fun n hn => ?_)); try cbv)
      | ((with_reducible refine k_sub_l hO ?_ ?_); (focus decide); try cbv)
      | ((with_reducible refine k_sub_in hO ?_ (fun n hn => ?_)); (focus (simp only [inK, zn_eq, flen] at *; omega)); try cbv)
      | ((with_reducible refine k_sub hO (fun n hn => ?_)); try cbv)
      | ((with_reducible refine k_mul_l hO ?_ ?_); (focus decide); try cbv)
      | ((with_reducible refine k_mul_in hO ?_ (fun n hn => ?_)); (focus (simp only [inK, zn_eq, flen] at *; omega)); try cbv)
      | ((with_reducible refine k_mul hO (fun n hn => ?_)); try cbv)
      | ((with_reducible refine k_seql_t hO ?_ ?_); (focus (first | assumption | rfl | (simp; done))); try cbv)
      | ((with_reducible refine k_seql_f hO ?_ ?_); (focus (first | assumption | decide | (simp; done))); try cbv)
      | ((with_reducible refine k_seql hO (fun h => ?_) (fun h => ?_)) <;> try cbv)
      | ((with_reducible refine k_sneq_t hO ?_ ?_); (focus (first | assumption | rfl | (simp; done))); try cbv)
      | ((with_reducible refine k_sneq_f hO ?_ ?_); (focus (first | assumption | decide | (simp; done))); try cbv)
      | ((with_reducible refine k_sneq hO (fun h => ?_) (fun h => ?_)) <;> try cbv)
      | ((with_reducible refine k_slen hO ?_ (fun n hn => ?_)); (focus (exact undOk hQ rfl)); try cbv)
      | ((with_reducible refine k_sadd hO ?_ (fun s hs hz => ?_)); (focus (first | omega | assumption | (simp only [size_lit, List.length_cons, List.length_nil] at *; omega) | (simp_all; done) | (simp_all; omega))); (try simp only [size_lit, List.length_cons, List.length_nil, Nat.reduceAdd] at hz); (try cbv))
      | ((with_reducible apply k_conv_in hO); (focus (exact undOk hQ rfl)); (focus (exact undOk hQ rfl)); (focus (simp only [inK, zn_eq, flen] at *; omega)); try cbv)
      | ((with_reducible apply k_rune hO); (focus (exact undOk hQ rfl)); (focus (exact undOk hQ rfl)); intro s hs; try cbv)
      | ((with_reducible apply k_sidx hO); (focus (exact undOk hQ rfl)); (focus assumption); (focus assumption); intro n hn; try cbv)
      | ((with_reducible refine k_min hO (fun n hn1 hn2 hn3 => ?_)); try cbv)
      | ((with_reducible refine k_max hO (fun n hn1 hn2 hn3 => ?_)); try cbv)
      | ((with_reducible refine k_rem_pos hO ?_ ?_ (fun n hn => ?_)); (focus (first | (simp only [zn_eq, flen] at *; omega) | omega)); (focus (first | (simp only [zn_eq, flen] at *; omega) | omega)); try cbv)
      | ((with_reducible refine k_rem hO ?_ (fun n hn => ?_)); (focus (first | (simp only [zn_eq, flen] at *; omega) | omega)); try cbv)
      | ((with_reducible refine k_quo_in hO ?_ ?_ ?_ (fun n hn => ?_)); (focus (first | (simp only [zn_eq, flen] at *; omega) | omega)); (focus (first | (simp only [zn_eq, flen] at *; omega) | omega)); (focus (simp only [inK, zn_eq, flen] at *; omega)); try cbv)
      | ((with_reducible refine k_quo_pos hO ?_ ?_ (fun n hn => ?_)); (focus (first | (simp only [zn_eq, flen] at *; omega) | omega)); (focus (first | (simp only [zn_eq, flen] at *; omega) | omega)); try simp (disch := omega) only [wrap_i64, wrap_u8, wrap_u64, wrap_i32, wrap_u16, wrap_u32] at hn; try cbv)
      | ((with_reducible refine k_not hO ?_); try cbv)
      | ((with_reducible refine o_ble hO ?_ ?_); (focus (first | assumption | exact Nat.le_refl _ | exact Nat.zero_le _ | (simp only [zn_eq, flen] at *; omega) | omega | decide | (simp; done) | (simp; omega) | (simp_all; done) | (simp_all [zn_eq]; omega))); try cbv)
      | ((with_reducible refine o_cut hO ?_ ?_ ?_); (focus (first | assumption | exact Nat.le_refl _ | exact Nat.zero_le _ | (simp only [zn_eq, flen] at *; omega) | omega | decide | (simp; done) | (simp; omega) | (simp_all; done) | (simp_all [zn_eq]; omega))); (focus (first | assumption | exact Nat.le_refl _ | exact Nat.zero_le _ | (simp only [zn_eq, flen] at *; omega) | omega | decide | (simp; done) | (simp; omega) | (simp_all; done) | (simp_all [zn_eq]; omega))); try cbv)
      | ((with_reducible refine o_room hO ?_ ?_ ?_); (focus (first | exact Or.inl rfl | (simp; done))); (focus (first | assumption | exact Nat.le_refl _ | exact Nat.zero_le _ | (simp only [zn_eq, flen] at *; omega) | omega | decide | (simp; done) | (simp; omega) | (simp_all; done) | (simp_all [zn_eq]; omega))); try cbv)
      | ((with_reducible refine o_nat_l hO ?_); try cbv)
      | ((with_reducible refine o_nat hO ?_ (fun j hj => ?_)); (focus (first | (simp only [zn_eq, flen] at *; omega) | omega)); try cbv)
      | ((with_reducible refine o_at_l hO ?_ ?_); (focus (first | assumption | exact Nat.le_refl _ | exact Nat.zero_le _ | (simp only [zn_eq, flen] at *; omega) | omega | decide | (simp; done) | (simp; omega) | (simp_all; done) | (simp_all [zn_eq]; omega))); try cbv)
      | ((with_reducible refine o_at hO ?_ ?_ (fun j hj => ?_)); (focus (first | (simp only [zn_eq, flen] at *; omega) | omega)); (focus (first | assumption | exact Nat.le_refl _ | exact Nat.zero_le _ | (simp only [zn_eq, flen] at *; omega) | omega | decide | (simp; done) | (simp; omega) | (simp_all; done) | (simp_all [zn_eq]; omega))); try cbv)
      | ((with_reducible apply o_len_l hO); (focus decide); try cbv)
      | ((with_reducible refine o_len hO (fun n hn => ?_)); try cbv)
      | ((with_reducible refine o_mk hO ?_ ?_ ?_ ?_ (fun j hj => ?_)); (focus (first | assumption | exact Nat.le_refl _ | exact Nat.zero_le _ | (simp only [zn_eq, flen] at *; omega) | omega | decide | (simp; done) | (simp; omega) | (simp_all; done) | (simp_all [zn_eq]; omega))); (focus (first | (simp only [zn_eq, flen] at *; omega) | omega)); (focus (first | (simp only [zn_eq, flen] at *; omega) | omega)); (focus (first | assumption | exact Nat.le_refl _ | exact Nat.zero_le _ | (simp only [zn_eq, flen] at *; omega) | omega | decide | (simp; done) | (simp; omega) | (simp_all; done) | (simp_all [zn_eq]; omega))); try cbv)
      | ((with_reducible refine o_empty hO ?_ ?_); (focus (first | rfl | assumption)); try cbv)
      | ((with_reducible apply o_elem_l hO); (focus (first | assumption | rfl | (simp; done))); try cbv)
      | ((with_reducible apply o_elem hO); (focus assumption); (focus assumption); try cbv)
      | ((with_reducible apply o_get hO); (focus (first | assumption | rfl | (simp; done))); try cbv)
      | ((with_reducible refine o_guard hO ?_ ?_); (focus (first | decide +kernel | (simp; done))); try cbv))
    subst hF
    exact ⟨by rename_i hn; rw [hn, ← hsz], ⟨congrArg (fun q => AV.own 5 1 q false) key, trivial⟩, trivial⟩
  · cbv
    repeat' (first
      | (with_reducible refine o_call hO hQ (cc_sem .me _) ?_); try cbv
      | ((with_reducible refine k_eql_t hO ?_ ?_); (focus (first | assumption | (simp only [zn_eq, flen] at *; omega) | omega)); try cbv)
      | ((with_reducible refine k_eql_f hO ?_ ?_); (focus (first | assumption | (simp only [zn_eq, flen] at *; omega) | omega)); try cbv)
      | ((with_reducible refine k_eql hO (fun h => ?_) (fun h => ?_)) <;> try cbv)
      | ((with_reducible refine k_neq_t hO ?_ ?_); (focus (first | assumption | (simp only [zn_eq, flen] at *; omega) | omega)); try cbv)
      | ((with_reducible refine k_neq_f hO ?_ ?_); (focus (first | assumption | (simp only [zn_eq, flen] at *; omega) | omega)); try cbv)
      | ((with_reducible refine k_neq hO (fun h => ?_) (fun h => ?_)) <;> try cbv)
      | ((with_reducible refine k_lss_t hO ?_ ?_); (focus (first | assumption | (simp only [zn_eq, flen] at *; omega) | omega)); try cbv)
      | ((with_reducible refine k_lss_f hO ?_ ?_); (focus (first | assumption | (simp only [zn_eq, flen] at *; omega) | omega)); try cbv)
      | ((with_reducible refine k_lss hO (fun h => ?_) (fun h => ?_)) <;> try cbv)
      | ((with_reducible refine k_leq_t hO ?_ ?_); (focus (first | assumption | (simp only [zn_eq, flen] at *; omega) | omega)); try cbv)
      | ((with_reducible refine k_leq_f hO ?_ ?_); (focus (first | assumption | (simp only [zn_eq, flen] at *; omega) | omega)); try cbv)
      | ((with_reducible refine k_leq hO (fun h => ?_) (fun h => ?_)) <;> try cbv)
      | ((with_reducible refine k_gtr_t hO ?_ ?_); (focus (first | assumption | (simp only [zn_eq, flen] at *; omega) | omega)); try cbv)
      | ((with_reducible refine k_gtr_f hO ?_ ?_); (focus (first | assumption | (simp only [zn_eq, flen] at *; omega) | omega)); try cbv)
      | ((with_reducible refine k_gtr hO (fun h => ?_) (fun h => ?_)) <;> try cbv)
      | ((with_reducible refine k_geq_t hO ?_ ?_); (focus (first | assumption | (simp only [zn_eq, flen] at *; omega) | omega)); try cbv)
      | ((with_reducible refine k_geq_f hO ?_ ?_); (focus (first | assumption | (simp only [zn_eq, flen] at *; omega) | omega)); try cbv)
      | ((with_reducible refine k_geq hO (fun h => ?_) (fun h => ?_)) <;> try cbv)
      | ((with_reducible refine k_add_l hO ?_ ?_); (focus decide); try cbv)
      | ((with_reducible refine k_add_in hO ?_ (fun n hn => ?_)); (focus (simp only [inK, zn_eq, flen] at *; omega)); try cbv)
      | ((with_reducible refine k_add hO (fun n hn => ?_)); try cbv)
      | ((with_reducible refine k_sub_l hO ?_ ?_); (focus decide); try cbv)
      | ((with_reducible refine k_sub_in hO ?_ (fun n hn => ?_)); (focus (simp only [inK, zn_eq, flen] at *; omega)); try cbv)
      | ((with_reducible refine k_sub hO (fun n hn => ?_)); try cbv)
      | ((with_reducible refine k_mul_l hO ?_ ?_); (focus decide); try cbv)
      | ((with_reducible refine k_mul_in hO ?_ (fun n hn => ?_)); (focus (simp only [inK, zn_eq, flen] at *; omega)); try cbv)
      | ((with_reducible refine k_mul hO (fun n hn => ?_)); try cbv)
      | ((with_reducible refine k_seql_t hO ?_ ?_); (focus (first | assumption | rfl | (simp; done))); try cbv)
      | ((with_reducible refine k_seql_f hO ?_ ?_); (focus (first | assumption | decide | (simp; done))); try cbv)
      | ((with_reducible refine k_seql hO (fun h => ?_) (fun h => ?_)) <;> try cbv)
      | ((with_reducible refine k_sneq_t hO ?_ ?_); (focus (first | assumption | rfl | (simp; done))); try cbv)
      | ((with_reducible refine k_sneq_f hO ?_ ?_); (focus (first | assumption | decide | (simp; done))); try cbv)
      | ((with_reducible refine k_sneq hO (fun h => ?_) (fun h => ?_)) <;> try cbv)
      | ((with_reducible refine k_slen hO ?_ (fun n hn => ?_)); (focus (exact undOk hQ rfl)); try cbv)
      | ((with_reducible refine k_sadd hO ?_ (fun s hs hz => ?_)); (focus (first | omega | assumption | (simp only [size_lit, List.length_cons, List.length_nil] at *; omega) | (simp_all; done) | (simp_all; omega))); (try simp only [size_lit, List.length_cons, List.length_nil, Nat.reduceAdd] at hz); (try cbv))
      | ((with_reducible apply k_conv_in hO); (focus (exact undOk hQ rfl)); (focus (exact undOk hQ rfl)); (focus (simp only [inK, zn_eq, flen] at *; omega)); try cbv)
      | ((with_reducible apply k_rune hO); (focus (exact undOk hQ rfl)); (focus (exact undOk hQ rfl)); intro s hs; try cbv)
      | ((with_reducible apply k_sidx hO); (focus (exact undOk hQ rfl)); (focus assumption); (focus assumption); intro n hn; try cbv)
      | ((with_reducible refine k_min hO (fun n hn1 hn2 hn3 => ?_)); try cbv)
      | ((with_reducible refine k_max hO (fun n hn1 hn2 hn3 => ?_)); try cbv)
      | ((with_reducible refine k_rem_pos hO ?_ ?_ (fun n hn => ?_)); (focus (first | (simp only [zn_eq, flen] at *; omega) | omega)); (focus (first | (simp only [zn_eq, flen] at *; omega) | omega)); try cbv)
      | ((with_reducible refine k_rem hO ?_ (fun n hn => ?_)); (focus (first | (simp only [zn_eq, flen] at *; omega) | omega)); try cbv)
      | ((with_reducible refine k_quo_in hO ?_ ?_ ?_ (fun n hn => ?_)); (focus (first | (simp only [zn_eq, flen] at *; omega) | omega)); (focus (first | (simp only [zn_eq, flen] at *; omega) | omega)); (focus (simp only [inK, zn_eq, flen] at *; omega)); try cbv)
      | ((with_reducible refine k_quo_pos hO ?_ ?_ (fun n hn => ?_)); (focus (first | (simp only [zn_eq, flen] at *; omega) | omega)); (focus (first | (simp only [zn_eq, flen] at *; omega) | omega)); try simp (disch := omega) only [wrap_i64, wrap_u8, wrap_u64, wrap_i32, wrap_u16, wrap_u32] at hn; try cbv)
      | ((with_reducible refine k_not hO ?_); try cbv)
      | ((with_reducible refine o_ble hO ?_ ?_); (focus (first | assumption | exact Nat.le_refl _ | exact Nat.zero_le _ | (simp only [zn_eq, flen] at *; omega) | omega | decide | (simp; done) | (simp; omega) | (simp_all; done) | (simp_all [zn_eq]; omega))); try cbv)
      | ((with_reducible refine o_cut hO ?_ ?_ ?_); (focus (first | assumption | exact Nat.le_refl _ | exact Nat.zero_le _ | (simp only [zn_eq, flen] at *; omega) | omega | decide | (simp; done) | (simp; omega) | (simp_all; done) | (simp_all [zn_eq]; omega))); (focus (first | assumption | exact Nat.le_refl _ | exact Nat.zero_le _ | (simp only [zn_eq, flen] at *; omega) | omega | decide | (simp; done) | (simp; omega) | (simp_all; done) | (simp_all [zn_eq]; omega))); try cbv)
      | ((with_reducible refine o_room hO ?_ ?_ ?_); (focus (first | exact Or.inl rfl | (simp; done))); (focus (first | assumption | exact Nat.le_refl _ | exact Nat.zero_le _ | (simp only [zn_eq, flen] at *; omega) | omega | decide | (simp; done) | (simp; omega) | (simp_all; done) | (simp_all [zn_eq]; omega))); try cbv)
      | ((with_reducible refine o_nat_l hO ?_); try cbv)
      | ((with_reducible refine o_nat hO ?_ (fun j hj => ?_)); (focus (first | (simp only [zn_eq, flen] at *; omega) | omega)); try cbv)
      | ((with_reducible refine o_at_l hO ?_ ?_); (focus (first | assumption | exact Nat.le_refl _ | exact Nat.zero_le _ | (simp only [zn_eq, flen] at *; omega) | omega | decide | (simp; done) | (simp; omega) | (simp_all; done) | (simp_all [zn_eq]; omega))); try cbv)
      | ((with_reducible refine o_at hO ?_ ?_ (fun j hj => ?_)); (focus (first | (simp only [zn_eq, flen] at *; omega) | omega)); (focus (first | assumption | exact Nat.le_refl _ | exact Nat.zero_le _ | (simp only [zn_eq, flen] at *; omega) | omega | decide | (simp; done) | (simp; omega) | (simp_all; done) | (simp_all [zn_eq]; omega))); try cbv)
      | ((with_reducible apply o_len_l hO); (focus decide); try cbv)
      | ((with_reducible refine o_len hO (fun n hn => ?_)); try cbv)
      | ((with_reducible refine o_mk hO ?_ ?_ ?_ ?_ (fun j hj => ?_)); (focus (first | assumption | exact Nat.le_refl _ | exact Nat.zero_le _ | (simp only [zn_eq, flen] at *; omega) | omega | decide | (simp; done) | (simp; omega) | (simp_all; done) | (simp_all [zn_eq]; omega))); (focus (first | (simp only [zn_eq, flen] at *; omega) | omega)); (focus (first | (simp only [zn_eq, flen] at *; omega) | omega)); (focus (first | assumption | exact Nat.le_refl _ | exact Nat.zero_le _ | (simp only [zn_eq, flen] at *; omega) | omega | decide | (simp; done) | (simp; omega) | (simp_all; done) | (simp_all [zn_eq]; omega))); try cbv)
      | ((with_reducible refine o_empty hO ?_ ?_); (focus (first | rfl | assumption)); try cbv)
      | ((with_reducible apply o_elem_l hO); (focus (first | assumption | rfl | (simp; done))); try cbv)
      | ((with_reducible apply o_elem hO); (focus assumption); (focus assumption); try cbv)
      | ((with_reducible apply o_get hO); (focus (first | assumption | rfl | (simp; done))); try cbv)
      | ((with_reducible refine o_guard hO ?_ ?_); (focus (first | decide +kernel | (simp; done))); try cbv))
    subst hF
    exact ⟨by rename_i hn; rw [hn, ← hsz], ⟨congrArg (fun q => AV.own 5 1 q false) key, trivial⟩, trivial⟩

theorem wb_sem {a : AV} (ha : Adr a) (l : List UInt8) (c : UInt8) (hr : l.length + 1 ≤ 140737488355328) :
    SemCall P04 22 [.ptr 0 0 0, .p (.v (.int .u8 c.toNat))] [⟨bldT, [a, .own 5 1 (bRows l) false]⟩] ⟨.p (.v .nilIface), [[some (.ptr 0 0 0), some (.own 5 1 (bRows (l ++ [c])) false)]], []⟩ := by
  have hl := bRows_len l
  have key : bRows l ++ [[.v (.int .u8 c.toNat)]] = bRows (l ++ [c]) := by simp [bRows]
  generalize hx : bRows l = xs at *
  generalize hx2 : bRows (l ++ [c]) = ys at *
  generalize (c.toNat : Int) = q at *
  refine semCall_of_prop (fn := Tryd.f22) (T := tab) tabOk mixed04 (by rfl) (by rfl) (by cases ha <;> kernel_rfl) ?_
  intro Q O F hQ hO hF
  have flen := lofLen hF
  have ftake := lofTake hF
  have fdrop := lofDrop hF
  have fapp := lofApp hF
  have fset := lofSet hF
  have fbytes := lofBytes hF
  have frep := lofRep hF
  unfold Tryd.f22
  cases ha
  · cbv
    repeat' (first
      | (with_reducible refine o_call hO hQ (cc_sem .no _) ?_); try cbv
      | ((with_reducible refine k_eql_t hO ?_ ?_); (focus (first | assumption | (simp only [zn_eq, flen] at *; omega) | omega)); try cbv)
      | ((with_reducible refine k_eql_f hO ?_ ?_); (focus (first | assumption | (simp only [zn_eq, flen] at *; omega) | omega)); try cbv)
      | ((with_reducible refine k_eql hO (fun h => ?_) (fun h => ?_)) <;> try cbv)
      | ((with_reducible refine k_neq_t hO ?_ ?_); (focus (first | assumption | (simp only [zn_eq, flen] at *; omega) | omega)); try cbv)
      | ((with_reducible refine k_neq_f hO ?_ ?_); (focus (first | assumption | (simp only [zn_eq, flen] at *; omega) | omega)); try cbv)
      | ((with_reducible refine k_neq hO (fun h => ?_) (fun h => ?_)) <;> try cbv)
      | ((with_reducible refine k_lss_t hO ?_ ?_); (focus (first | assumption | (simp only [zn_eq, flen] at *; omega) | omega)); try cbv)
      | ((with_reducible refine k_lss_f hO ?_ ?_); (focus (first | assumption | (simp only [zn_eq, flen] at *; omega) | omega)); try cbv)
      | ((with_reducible refine k_lss hO (fun h => ?_) (fun h => ?_)) <;> try cbv)
      | ((with_reducible refine k_leq_t hO ?_ ?_); (focus (first | assumption | (simp only [zn_eq, flen] at *; omega) | omega)); try cbv)
      | ((with_reducible refine k_leq_f hO ?_ ?_); (focus (first | assumption | (simp only [zn_eq, flen] at *; omega) | omega)); try cbv)
      | ((with_reducible refine k_leq hO (fun h => ?_) (fun h => ?_)) <;> try cbv)
      | ((with_reducible refine k_gtr_t hO ?_ ?_); (focus (first | assumption | (simp only [zn_eq, flen] at *; omega) | omega)); try cbv)
      | ((with_reducible refine k_gtr_f hO ?_ ?_); (focus (first | assumption | (simp only [zn_eq, flen] at *; omega) | omega)); try cbv)
      | ((with_reducible refine k_gtr hO (fun h => ?_) (fun h => ?_)) <;> try cbv)
      | ((with_reducible refine k_geq_t hO ?_ ?_); (focus (first | assumption | (simp only [zn_eq, flen] at *; omega) | omega)); try cbv)
      | ((with_reducible refine k_geq_f hO ?_ ?_); (focus (first | assumption | (simp only [zn_eq, flen] at *; omega) | omega)); try cbv)
      | ((with_reducible refine k_geq hO (fun h => ?_) (fun h => ?_)) <;> try cbv)
      | ((with_reducible refine k_add_l hO ?_ ?_); (focus decide); try cbv)
      | ((with_reducible refine k_add_in hO ?_ (fun n hn => ?_)); (focus (simp only [inK, zn_eq, flen] at *; omega)); try cbv)
      | ((with_reducible refine k_add hO (fun n hn => ?_)); try cbv)
      | ((with_reducible refine k_sub_l hO ?_ ?_); (focus decide); try cbv)
      | ((with_reducible refine k_sub_in hO ?_ (fun n hn => ?_)); (focus (simp only [inK, zn_eq, flen] at *; omega)); try cbv)
      | ((with_reducible refine k_sub hO (fun n hn => ?_)); try cbv)
      | ((with_reducible refine k_mul_l hO ?_ ?_); (focus decide); try cbv)
      | ((with_reducible refine k_mul_in hO ?_ (fun n hn => ?_)); (focus (simp only [inK, zn_eq, flen] at *; omega)); try cbv)
      | ((with_reducible refine k_mul hO (fun n hn => ?_)); try cbv)
      | ((with_reducible refine k_seql_t hO ?_ ?_); (focus (first | assumption | rfl | (simp; done))); try cbv)
      | ((with_reducible refine k_seql_f hO ?_ ?_); (focus (first | assumption | decide | (simp; done))); try cbv)
      | ((with_reducible refine k_seql hO (fun h => ?_) (fun h => ?_)) <;> try cbv)
      | ((with_reducible refine k_sneq_t hO ?_ ?_); (focus (first | assumption | rfl | (simp; done))); try cbv)
      | ((with_reducible refine k_sneq_f hO ?_ ?_); (focus (first | assumption | decide | (simp; done))); try cbv)
      | ((with_reducible refine k_sneq hO (fun h => ?_) (fun h => ?_)) <;> try cbv)
      | ((with_reducible refine k_slen hO ?_ (fun n hn => ?_)); (focus (exact undOk hQ rfl)); try cbv)
      | ((with_reducible refine k_sadd hO ?_ (fun s hs hz => ?_)); (focus (first | omega | assumption | (simp only [size_lit, List.length_cons, List.length_nil] at *; omega) | (simp_all; done) | (simp_all; omega))); (try simp only [size_lit, List.length_cons, List.length_nil, Nat.reduceAdd] at hz); (try cbv))
      | ((with_reducible apply k_conv_in hO); (focus (exact undOk hQ rfl)); (focus (exact undOk hQ rfl)); (focus (simp only [inK, zn_eq, flen] at *; omega)); try cbv)
      | ((with_reducible apply k_rune hO); (focus (exact undOk hQ rfl)); (focus (exact undOk hQ rfl)); intro s hs; try cbv)
      | ((with_reducible apply k_sidx hO); (focus (exact undOk hQ rfl)); (focus assumption); (focus assumption); intro n hn; try cbv)
      | ((with_reducible refine k_min hO (fun n hn1 hn2 hn3 => ?_)); try cbv)
      | ((with_reducible refine k_max hO (fun n hn1 hn2 hn3 => ?_)); try cbv)
      | ((with_reducible refine k_rem_pos hO ?_ ?_ (fun n hn => ?_)); (focus (first | (simp only [zn_eq, flen] at *; omega) | omega)); (focus (first | (simp only [zn_eq, flen] at *; omega) | omega)); try cbv)
      | ((with_reducible refine k_rem hO ?_ (fun n hn => ?_)); (focus (first | (simp only [zn_eq, flen] at *; omega) | omega)); try cbv)
      | ((with_reducible refine k_quo_in hO ?_ ?_ ?_ (fun n hn => ?_)); (focus (first | (simp only [zn_eq, flen] at *; omega) | omega)); (focus (first | (simp only [zn_eq, flen] at *; omega) | omega)); (focus (simp only [inK, zn_eq, flen] at *; omega)); try cbv)
      | ((with_reducible refine k_quo_pos hO ?_ ?_ (fun n hn => ?_)); (focus (first | (simp only [zn_eq, flen] at *; omega) | omega)); (focus (first | (simp only [zn_eq, flen] at *; omega) | omega)); try simp (disch := omega) only [wrap_i64, wrap_u8, wrap_u64, wrap_i32, wrap_u16, wrap_u32] at hn; try cbv)
      | ((with_reducible refine k_not hO ?_); try cbv)
      | ((with_reducible refine o_ble hO ?_ ?_); (focus (first | assumption | exact Nat.le_refl _ | exact Nat.zero_le _ | (simp only [zn_eq, flen] at *; omega) | omega | decide | (simp; done) | (simp; omega) | (simp_all; done) | (simp_all [zn_eq]; omega))); try cbv)
      | ((with_reducible refine o_cut hO ?_ ?_ ?_); (focus (first | assumption | exact Nat.le_refl _ | exact Nat.zero_le _ | (simp only [zn_eq, flen] at *; omega) | omega | decide | (simp; done) | (simp; omega) | (simp_all; done) | (simp_all [zn_eq]; omega))); (focus (first | assumption | exact Nat.le_refl _ | exact Nat.zero_le _ | (simp only [zn_eq, flen] at *; omega) | omega | decide | (simp; done) | (simp; omega) | (simp_all; done) | (simp_all [zn_eq]; omega))); try cbv)
      | ((with_reducible refine o_room hO ?_ ?_ ?_); (focus (first | exact Or.inl rfl | (simp; done))); (focus (first | assumption | exact Nat.le_refl _ | exact Nat.zero_le _ | (simp only [zn_eq, flen] at *; omega) | omega | decide | (simp; done) | (simp; omega) | (simp_all; done) | (simp_all [zn_eq]; omega))); try cbv)
      | ((with_reducible refine o_nat_l hO ?_); try cbv)
      | ((with_reducible refine o_nat hO ?_ (fun j hj => ?_)); (focus (first | (simp only [zn_eq, flen] at *; omega) | omega)); try cbv)
      | ((with_reducible refine o_at_l hO ?_ ?_); (focus (first | assumption | exact Nat.le_refl _ | exact Nat.zero_le _ | (simp only [zn_eq, flen] at *; omega) | omega | decide | (simp; done) | (simp; omega) | (simp_all; done) | (simp_all [zn_eq]; omega))); try cbv)
      | ((with_reducible refine o_at hO ?_ ?_ (fun j hj => ?_)); (focus (first | (simp only [zn_eq, flen] at *; omega) | omega)); (focus (first | assumption | exact Nat.le_refl _ | exact Nat.zero_le _ | (simp only [zn_eq, flen] at *; omega) | omega | decide | (simp; done) | (simp; omega) | (simp_all; done) | (simp_all [zn_eq]; omega))); try cbv)
      | ((with_reducible apply o_len_l hO); (focus decide); try cbv)
      | ((with_reducible refine o_len hO (fun n hn => ?_)); try cbv)
      | ((with_reducible refine o_mk hO ?_ ?_ ?_ ?_ (fun j hj => ?_)); (focus (first | assumption | exact Nat.le_refl _ | exact Nat.zero_le _ | (simp only [zn_eq, flen] at *; omega) | omega | decide | (simp; done) | (simp; omega) | (simp_all; done) | (simp_all [zn_eq]; omega))); (focus (first | (simp only [zn_eq, flen] at *; omega) | omega)); (focus (first | (simp only [zn_eq, flen] at *; omega) | omega)); (focus (first | assumption | exact Nat.le_refl _ | exact Nat.zero_le _ | (simp only [zn_eq, flen] at *; omega) | omega | decide | (simp; done) | (simp; omega) | (simp_all; done) | (simp_all [zn_eq]; omega))); try cbv)
      | ((with_reducible refine o_empty hO ?_ ?_); (focus (first | rfl | assumption)); try cbv)
      | ((with_reducible apply o_elem_l hO); (focus (first | assumption | rfl | (simp; done))); try cbv)
      | ((with_reducible apply o_elem hO); (focus assumption); (focus assumption); try cbv)
      | ((with_reducible apply o_get hO); (focus (first | assumption | rfl | (simp; done))); try cbv)
      | ((with_reducible refine o_guard hO ?_ ?_); (focus (first | decide +kernel | (simp; done))); try cbv))
    subst hF
    exact ⟨⟨congrArg (fun q => AV.own 5 1 q false) key, trivial⟩, trivial⟩
  · cbv
    repeat' (first
      | (with_reducible refine o_call hO hQ (cc_sem .me _) ?_); try cbv
      | ((with_reducible refine k_eql_t hO ?_ ?_); (focus (first | assumption | (simp only [zn_eq, flen] at *; omega) | omega)); try cbv)
      | ((with_reducible refine k_eql_f hO ?_ ?_); (focus (first | assumption | (simp only [zn_eq, flen] at *; omega) | omega)); try cbv)
      | ((with_reducible refine k_eql hO (fun h => ?_) (fun h => ?_)) <;> try cbv)
      | ((with_reducible refine k_neq_t hO ?_ ?_); (focus (first | assumption | (simp only [zn_eq, flen] at *; omega) | omega)); try cbv)
      | ((with_reducible refine k_neq_f hO ?_ ?_); (focus (first | assumption | (simp only [zn_eq, flen] at *; omega) | omega)); try cbv)
      | ((with_reducible refine k_neq hO (fun h => ?_) (fun h => ?_)) <;> try cbv)
      | ((with_reducible refine k_lss_t hO ?_ ?_); (focus (first | assumption | (simp only [zn_eq, flen] at *; omega) | omega)); try cbv)
      | ((with_reducible refine k_lss_f hO ?_ ?_); (focus (first | assumption | (simp only [zn_eq, flen] at *; omega) | omega)); try cbv)
      | ((with_reducible refine k_lss hO (fun h => ?_) (fun h => ?_)) <;> try cbv)
      | ((with_reducible refine k_leq_t hO ?_ ?_); (focus (first | assumption | (simp only [zn_eq, flen] at *; omega) | omega)); try cbv)
      | ((with_reducible refine k_leq_f hO ?_ ?_); (focus (first | assumption | (simp only [zn_eq, flen] at *; omega) | omega)); try cbv)
      | ((with_reducible refine k_leq hO (fun h => ?_) (fun h => ?_)) <;> try cbv)
      | ((with_reducible refine k_gtr_t hO ?_ ?_); (focus (first | assumption | (simp only [zn_eq, flen] at *; omega) | omega)); try cbv)
      | ((with_reducible refine k_gtr_f hO ?_ ?_); (focus (first | assumption | (simp only [zn_eq, flen] at *; omega) | omega)); try cbv)
      | ((with_reducible refine k_gtr hO (fun h => ?_) (fun h => ?_)) <;> try cbv)
      | ((with_reducible refine k_geq_t hO ?_ ?_); (focus (first | assumption | (simp only [zn_eq, flen] at *; omega) | omega)); try cbv)
      | ((with_reducible refine k_geq_f hO ?_ ?_); (focus (first | assumption | (simp only [zn_eq, flen] at *; omega) | omega)); try cbv)
      | ((with_reducible refine k_geq hO (fun h => ?_) (fun h => ?_)) <;> try cbv)
      | ((with_reducible refine k_add_l hO ?_ ?_); (focus decide); try cbv)
      | ((with_reducible refine k_add_in hO ?_ (fun n hn => ?_)); (focus (simp only [inK, zn_eq, flen] at *; omega)); try cbv)
      | ((with_reducible refine k_add hO (fun n hn => ?_)); try cbv)
      | ((with_reducible refine k_sub_l hO ?_ ?_); (focus decide); try cbv)
      | ((with_reducible refine k_sub_in hO ?_ (fun n hn => ?_)); (focus (simp only [inK, zn_eq, flen] at *; omega)); try cbv)
      | ((with_reducible refine k_sub hO (fun n hn => ?_)); try cbv)
      | ((with_reducible refine k_mul_l hO ?_ ?_); (focus decide); try cbv)
      | ((with_reducible refine k_mul_in hO ?_ (fun n hn => ?_)); (focus (simp only [inK, zn_eq, flen] at *; omega)); try cbv)
      | ((with_reducible refine k_mul hO (fun n hn => ?_)); try cbv)
      | ((with_reducible refine k_seql_t hO ?_ ?_); (focus (first | assumption | rfl | (simp; done))); try cbv)
      | ((with_reducible refine k_seql_f hO ?_ ?_); (focus (first | assumption | decide | (simp; done))); try cbv)
      | ((with_reducible refine k_seql hO (fun h => ?_) (fun h => ?_)) <;> try cbv)
      | ((with_reducible refine k_sneq_t hO ?_ ?_); (focus (first | assumption | rfl | (simp; done))); try cbv)
      | ((with_reducible refine k_sneq_f hO ?_ ?_); (focus (first | assumption | decide | (simp; done))); try cbv)
      | ((with_reducible refine k_sneq hO (fun h => ?_) (fun h => ?_)) <;> try cbv)
      | ((with_reducible refine k_slen hO ?_ (fun n hn => ?_)); (focus (exact undOk hQ rfl)); try cbv)
      | ((with_reducible refine k_sadd hO ?_ (fun s hs hz => ?_)); (focus (first | omega | assumption | (simp only [size_lit, List.length_cons, List.length_nil] at *; omega) | (simp_all; done) | (simp_all; omega))); (try simp only [size_lit, List.length_cons, List.length_nil, Nat.reduceAdd] at hz); (try cbv))
      | ((with_reducible apply k_conv_in hO); (focus (exact undOk hQ rfl)); (focus (exact undOk hQ rfl)); (focus (simp only [inK, zn_eq, flen] at *; omega)); try cbv)
      | ((with_reducible apply k_rune hO); (focus (exact undOk hQ rfl)); (focus (exact undOk hQ rfl)); intro s hs; try cbv)
      | ((with_reducible apply k_sidx hO); (focus (exact undOk hQ rfl)); (focus assumption); (focus assumption); intro n hn; try cbv)
      | ((with_reducible refine k_min hO (fun n hn1 hn2 hn3 => ?_)); try cbv)
      | ((with_reducible refine k_max hO (fun n hn1 hn2 hn3 => ?_)); try cbv)
      | ((with_reducible refine k_rem_pos hO ?_ ?_ (fun n hn => ?_)); (focus (first | (simp only [zn_eq, flen] at *; omega) | omega)); (focus (first | (simp only [zn_eq, flen] at *; omega) | omega)); try cbv)
      | ((with_reducible refine k_rem hO ?_ (fun n hn => ?_)); (focus (first | (simp only [zn_eq, flen] at *; omega) | omega)); try cbv)
      | ((with_reducible refine k_quo_in hO ?_ ?_ ?_ (fun n hn => ?_)); (focus (first | (simp only [zn_eq, flen] at *; omega) | omega)); (focus (first | (simp only [zn_eq, flen] at *; omega) | omega)); (focus (simp only [inK, zn_eq, flen] at *; omega)); try cbv)
      | ((with_reducible refine k_quo_pos hO ?_ ?_ (fun n hn => ?_)); (focus (first | (simp only [zn_eq, flen] at *; omega) | omega)); (focus (first | (simp only [zn_eq, flen] at *; omega) | omega)); try simp (disch := omega) only [wrap_i64, wrap_u8, wrap_u64, wrap_i32, wrap_u16, wrap_u32] at hn; try cbv)
      | ((with_reducible refine k_not hO ?_); try cbv)
      | ((with_reducible refine o_ble hO ?_ ?_); (focus (first | assumption | exact Nat.le_refl _ | exact Nat.zero_le _ | (simp only [zn_eq, flen] at *; omega) | omega | decide | (simp; done) | (simp; omega) | (simp_all; done) | (simp_all [zn_eq]; omega))); try cbv)
      | ((with_reducible refine o_cut hO ?_ ?_ ?_); (focus (first | assumption | exact Nat.le_refl _ | exact Nat.zero_le _ | (simp only [zn_eq, flen] at *; omega) | omega | decide | (simp; done) | (simp; omega) | (simp_all; done) | (simp_all [zn_eq]; omega))); (focus (first | assumption | exact Nat.le_refl _ | exact Nat.zero_le _ | (simp only [zn_eq, flen] at *; omega) | omega | decide | (simp; done) | (simp; omega) | (simp_all; done) | (simp_all [zn_eq]; omega))); try cbv)
      | ((with_reducible refine o_room hO ?_ ?_ ?_); (focus (first | exact Or.inl rfl | (simp; done))); (focus (first | assumption | exact Nat.le_refl _ | exact Nat.zero_le _ | (simp only [zn_eq, flen] at *; omega) | omega | decide | (simp; done) | (simp; omega) | (simp_all; done) | (simp_all [zn_eq]; omega))); try cbv)
      | ((with_reducible refine o_nat_l hO ?_); try cbv)
      | ((with_reducible refine o_nat hO ?_ (fun j hj => ?_)); (focus (first | (simp only [zn_eq, flen] at *; omega) | omega)); try cbv)
      | ((with_reducible refine o_at_l hO ?_ ?_); (focus (first | assumption | exact Nat.le_refl _ | exact Nat.zero_le _ | (simp only [zn_eq, flen] at *; omega) | omega | decide | (simp; done) | (simp; omega) | (simp_all; done) | (simp_all [zn_eq]; omega))); try cbv)
      | ((with_reducible refine o_at hO ?_ ?_ (fun j hj => ?_)); (focus (first | (simp only [zn_eq, flen] at *; omega) | omega)); (focus (first | assumption | exact Nat.le_refl _ | exact Nat.zero_le _ | (simp only [zn_eq, flen] at *; omega) | omega | decide | (simp; done) | (simp; omega) | (simp_all; done) | (simp_all [zn_eq]; omega))); try cbv)
      | ((with_reducible apply o_len_l hO); (focus decide); try cbv)
      | ((with_reducible refine o_len hO (fun n hn => ?_)); try cbv)
      | ((with_reducible refine o_mk hO ?_ ?_ ?_ ?_ (fun j hj => ?_)); (focus (first | assumption | exact Nat.le_refl _ | exact Nat.zero_le _ | (simp only [zn_eq, flen] at *; omega) | omega | decide | (simp; done) | (simp; omega) | (simp_all; done) | (simp_all [zn_eq]; omega))); (focus (first | (simp only [zn_eq, flen] at *; omega) | omega)); (focus (first | (simp only [zn_eq, flen] at *; omega) | omega)); (focus (first | assumption | exact Nat.le_refl _ | exact Nat.zero_le _ | (simp only [zn_eq, flen] at *; omega) | omega | decide | (simp; done) | (simp; omega) | (simp_all; done) | (simp_all [zn_eq]; omega))); try cbv)
      | ((with_reducible refine o_empty hO ?_ ?_); (focus (first | rfl | assumption)); try cbv)
      | ((with_reducible apply o_elem_l hO); (focus (first | assumption | rfl | (simp; done))); try cbv)
      | ((with_reducible apply o_elem hO); (focus assumption); (focus assumption); try cbv)
      | ((with_reducible apply o_get hO); (focus (first | assumption | rfl | (simp; done))); try cbv)
      | ((with_reducible refine o_guard hO ?_ ?_); (focus (first | decide +kernel | (simp; done))); try cbv))
    subst hF
    exact ⟨⟨congrArg (fun q => AV.own 5 1 q false) key, trivial⟩, trivial⟩
end Go.Proofs.YtkjglhamlnnboaaDoor.Am
