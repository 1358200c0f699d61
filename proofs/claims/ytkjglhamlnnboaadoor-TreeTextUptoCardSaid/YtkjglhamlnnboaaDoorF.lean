/-
  Contracts: statements' texts.
-/
import Derived.Test.YtkjglhamlnnboaaDoorE
set_option linter.unusedVariables false
set_option linter.unusedSimpArgs false
namespace Go.Proofs.YtkjglhamlnnboaaDoor.Am
open Go Go.Proofs Go.RowKit
attribute [local semireducible] kcell khdr

abbrev smC' (k : Int) (nm : ByteArray) (es : List (List PV)) (cnt : Int) (bd el : List (List PV)) (a : Int) : List PV := [.v (.int .i64 k), .v (.string nm), .sl 6 es, .v (.int .i64 cnt), .sl 7 bd, .sl 7 el, .v (.int .i64 a)]

theorem val_none (k : Int) (nm : ByteArray) (es : List (List PV)) (cnt : Int) (bd el : List (List PV)) (a i : Int) (h : zn es.length ≤ i) :
    SemCall P04 33 [.p (.agg (smC' k nm es cnt bd el a)), vi i] [] (one (.v (.string (sb [63])))) := by
  refine semCall_of_prop (fn := Tryd.f33) (T := tab) tabOk mixed04 (by rfl) (by rfl) (by kernel_rfl) ?_
  intro Q O F hQ hO hF
  have flen := lofLen hF
  have ftake := lofTake hF
  have fdrop := lofDrop hF
  have fapp := lofApp hF
  have fset := lofSet hF
  have fbytes := lofBytes hF
  have frep := lofRep hF
  unfold Tryd.f33
  cbv
  repeat' (first
    | ((with_reducible refine k_eql_t hO ?_ ?_); (focus (first | assumption | (simp only [zn_eq, flen] at *; omega) | omega)); try cbv)
    | ((with_reducible refine k_eql_f hO ?_ ?_); (focus (first | assumption | (simp only [zn_eq, flen] at *; omega) | omega)); try cbv)
    | ((with_reducible refine k_eql hO (fun h => ?_) (fun h => ?_)) <;> try cbv)
    | ((with_reducible refine k_neq_t hO ?_ ?_); (focus (first | assumption | (simp only [zn_eq, flen] at *; omega) | omega)); try cbv)
    | ((with_reducible refine k_neq_f hO ?_ ?_); (focus (first | assumption | (simp only [zn_eq, flen] at *; omega) | omega)); try cbv)
    | ((with_reducible refine k_neq hO (fun h => ?_) (fun h => ?_)) <;> try cbv)
    | ((with_reducible refine k_lss_t hO ?_ ?_); (focus (first | assumption | (simp only [zn_eq, flen] at *; omega) | omega)); try cbv)
    | ((with_reducible refine k_lss_f hO ?_ ?_); (focus (first | assumption | (simp only [zn_eq, flen] at *; omega) | omega)); try cbv)
    | ((with_reducible refine k_lss hO (fun h => ?_) (fun h => ?_)) <;> try cbv)
    | ((with_reducible refine k_leq_t hO ?_ ?_); (focus (first | assumption | (simp only [zn_eq, flen] at *; omega) | omega)); try cbv)
    | ((with_reducible refine k_leq_f hO ?_ ?_); (focus (first | assumption | (simp only [zn_eq, flen] at *; omega) | omega)); try cbv)
    | ((with_reducible refine k_leq hO (fun h => ?_) (fun h => ?_)) <;> try cbv)
    | ((with_reducible refine k_gtr_t hO ?_ ?_); (focus (first | assumption | (simp only [zn_eq, flen] at *; omega) | omega)); try cbv)
    | ((with_reducible refine k_gtr_f hO ?_ ?_); (focus (first | assumption | (simp only [zn_eq, flen] at *; omega) | omega)); try cbv)
    | ((with_reducible refine k_gtr hO (fun h => ?_) (fun h => ?_)) <;> try cbv)
    | ((with_reducible refine k_geq_t hO ?_ ?_); (focus (first | assumption | (simp only [zn_eq, flen] at *; omega) | omega)); try cbv)
    | ((with_reducible refine k_geq_f hO ?_ ?_); (focus (first | assumption | (simp only [zn_eq, flen] at *; omega) | omega)); try cbv)
    | ((with_reducible refine k_geq hO (fun h => ?_) (fun h => ?_)) <;> try cbv)
    | ((with_reducible refine k_add_l hO ?_ ?_); (focus decide); try cbv)
    | ((with_reducible refine k_add_in hO ?_ (fun n hn => ?_)); (focus (simp only [inK, zn_eq, flen] at *; omega)); try cbv)
    | ((with_reducible refine k_add hO (fun n hn => ?_)); try cbv)
    | ((with_reducible refine k_sub_l hO ?_ ?_); (focus decide); try cbv)
    | ((with_reducible refine k_sub_in hO ?_ (fun n hn => ?_)); (focus (simp only [inK, zn_eq, flen] at *; omega)); try cbv)
    | ((with_reducible refine k_sub hO (fun n hn => ?_)); try cbv)
    | ((with_reducible refine k_mul_l hO ?_ ?_); (focus decide); try cbv)
    | ((with_reducible refine k_mul_in hO ?_ (fun n hn => ?_)); (focus (simp only [inK, zn_eq, flen] at *; omega)); try cbv)
    | ((with_reducible refine k_mul hO (fun n hn => ?_)); try cbv)
    | ((with_reducible refine k_seql_t hO ?_ ?_); (focus (first | assumption | rfl | (simp; done))); try cbv)
    | ((with_reducible refine k_seql_f hO ?_ ?_); (focus (first | assumption | decide | (simp; done))); try cbv)
    | ((with_reducible refine k_seql hO (fun h => ?_) (fun h => ?_)) <;> try cbv)
    | ((with_reducible refine k_sneq_t hO ?_ ?_); (focus (first | assumption | rfl | (simp; done))); try cbv)
    | ((with_reducible refine k_sneq_f hO ?_ ?_); (focus (first | assumption | decide | (simp; done))); try cbv)
    | ((with_reducible refine k_sneq hO (fun h => ?_) (fun h => ?_)) <;> try cbv)
    | ((with_reducible refine k_slen hO ?_ (fun n hn => ?_)); (focus (exact undOk hQ rfl)); try cbv)
    | ((with_reducible refine k_sadd hO ?_ (fun s hs hz => ?_)); (focus (first | omega | assumption | (simp only [size_lit, List.length_cons, List.length_nil] at *; omega) | (simp_all; done) | (simp_all; omega))); (try simp only [size_lit, List.length_cons, List.length_nil, Nat.reduceAdd] at hz); (try cbv))
    | ((with_reducible apply k_conv_in hO); (focus (exact undOk hQ rfl)); (focus (exact undOk hQ rfl)); (focus (simp only [inK, zn_eq, flen] at *; omega)); try cbv)
    | ((with_reducible apply k_rune hO); (focus (exact undOk hQ rfl)); (focus (exact undOk hQ rfl)); intro s hs; try cbv)
    | ((with_reducible apply k_sidx hO); (focus (exact undOk hQ rfl)); (focus assumption); (focus assumption); intro n hn; try cbv)
    | ((with_reducible refine k_min hO (fun n hn1 hn2 hn3 => ?_)); try cbv)
    | ((with_reducible refine k_max hO (fun n hn1 hn2 hn3 => ?_)); try cbv)
    | ((with_reducible refine k_rem_pos hO ?_ ?_ (fun n hn => ?_)); (focus (first | (simp only [zn_eq, flen] at *; omega) | omega)); (focus (first | (simp only [zn_eq, flen] at *; omega) | omega)); try cbv)
    | ((with_reducible refine k_rem hO ?_ (fun n hn => ?_)); (focus (first | (simp only [zn_eq, flen] at *; omega) | omega)); try cbv)
    | ((with_reducible refine k_quo_in hO ?_ ?_ ?_ (fun n hn => ?_)); (focus (first | (simp only [zn_eq, flen] at *; omega) | omega)); (focus (first | (simp only [zn_eq, flen] at *; omega) | omega)); (focus (simp only [inK, zn_eq, flen] at *; omega)); try cbv)
    | ((with_reducible refine k_quo_pos hO ?_ ?_ (fun n hn => ?_)); (focus (first | (simp only [zn_eq, flen] at *; omega) | omega)); (focus (first | (simp only [zn_eq, flen] at *; omega) | omega)); try simp (disch := omega) only [wrap_i64, wrap_u8, wrap_u64, wrap_i32, wrap_u16, wrap_u32] at hn; try cbv)
    | ((with_reducible refine k_not hO ?_); try cbv)
    | ((with_reducible refine o_ble hO ?_ ?_); (focus (first | assumption | exact Nat.le_refl _ | exact Nat.zero_le _ | (simp only [zn_eq, flen] at *; omega) | omega | decide | (simp; done) | (simp; omega) | (simp_all; done) | (simp_all [zn_eq]; omega))); try cbv)
    | ((with_reducible refine o_cut hO ?_ ?_ ?_); (focus (first | assumption | exact Nat.le_refl _ | exact Nat.zero_le _ | (simp only [zn_eq, flen] at *; omega) | omega | decide | (simp; done) | (simp; omega) | (simp_all; done) | (simp_all [zn_eq]; omega))); (focus (first | assumption | exact Nat.le_refl _ | exact Nat.zero_le _ | (simp only [zn_eq, flen] at *; omega) | omega | decide | (simp; done) | (simp; omega) | (simp_all; done) | (simp_all [zn_eq]; omega))); try cbv)
    | ((with_reducible refine o_room hO ?_ ?_ ?_); (focus (first | exact Or.inl rfl | (simp; done))); (focus (first | assumption | exact Nat.le_refl _ | exact Nat.zero_le _ | (simp only [zn_eq, flen] at *; omega) | omega | decide | (simp; done) | (simp; omega) | (simp_all; done) | (simp_all [zn_eq]; omega))); try cbv)
    | ((with_reducible refine o_nat_l hO ?_); try cbv)
    | ((with_reducible refine o_nat hO ?_ (fun j hj => ?_)); (focus (first | (simp only [zn_eq, flen] at *; omega) | omega)); try cbv)
    | ((with_reducible refine o_at_l hO ?_ ?_); (focus (first | assumption | exact Nat.le_refl _ | exact Nat.zero_le _ | (simp only [zn_eq, flen] at *; omega) | omega | decide | (simp; done) | (simp; omega) | (simp_all; done) | (simp_all [zn_eq]; omega))); try cbv)
    | ((with_reducible refine o_at hO ?_ ?_ (fun j hj => ?_)); (focus (first | (simp only [zn_eq, flen] at *; omega) | omega)); (focus (first | assumption | exact Nat.le_refl _ | exact Nat.zero_le _ | (simp only [zn_eq, flen] at *; omega) | omega | decide | (simp; done) | (simp; omega) | (simp_all; done) | (simp_all [zn_eq]; omega))); try cbv)
    | ((with_reducible apply o_len_l hO); (focus decide); try cbv)
    | ((with_reducible refine o_len hO (fun n hn => ?_)); try cbv)
    | ((with_reducible refine o_mk hO ?_ ?_ ?_ ?_ (fun j hj => ?_)); (focus (first | assumption | exact Nat.le_refl _ | exact Nat.zero_le _ | (simp only [zn_eq, flen] at *; omega) | omega | decide | (simp; done) | (simp; omega) | (simp_all; done) | (simp_all [zn_eq]; omega))); (focus (first | (simp only [zn_eq, flen] at *; omega) | omega)); (focus (first | (simp only [zn_eq, flen] at *; omega) | omega)); (focus (first | assumption | exact Nat.le_refl _ | exact Nat.zero_le _ | (simp only [zn_eq, flen] at *; omega) | omega | decide | (simp; done) | (simp; omega) | (simp_all; done) | (simp_all [zn_eq]; omega))); try cbv)
    | ((with_reducible refine o_empty hO ?_ ?_); (focus (first | rfl | assumption)); try cbv)
    | ((with_reducible apply o_elem_l hO); (focus (first | assumption | rfl | (simp; done))); try cbv)
    | ((with_reducible apply o_elem hO); (focus assumption); (focus assumption); try cbv)
    | ((with_reducible apply o_get hO); (focus (first | assumption | rfl | (simp; done))); try cbv)
    | ((with_reducible refine o_guard hO ?_ ?_); (focus (first | decide +kernel | (simp; done))); try cbv))
  all_goals (first | exact ⟨rfl, trivial⟩ | (exfalso; simp only [zn_eq, flen] at *; omega) | trace_state)

theorem val_some (k : Int) (nm : ByteArray) (es : List (List PV)) (cnt : Int) (bd el : List (List PV)) (a i : Int) (j : Nat) (hj : zn j = i) (k1 op1 : Int) (nm1 : ByteArray) (v1 : Int) (ks1 : List (List PV)) (a1 : Int)
    (h : es[j]? = some (exC' k1 op1 nm1 v1 ks1 a1)) (s : ByteArray) (hs : SemCall P04 9 [.p (.agg (exC' k1 op1 nm1 v1 ks1 a1)), vi 0] [] (one (.v (.string s)))) :
    SemCall P04 33 [.p (.agg (smC' k nm es cnt bd el a)), vi i] [] (one (.v (.string s))) := by
  have hl : j < es.length := (List.getElem?_eq_some_iff.1 h).1
  have hl2 : i < zn es.length := by rw [zn_eq] at *; omega
  refine semCall_of_prop (fn := Tryd.f33) (T := tab) tabOk mixed04 (by rfl) (by rfl) (by kernel_rfl) ?_
  intro Q O F hQ hO hF
  have flen := lofLen hF
  have ftake := lofTake hF
  have fdrop := lofDrop hF
  have fapp := lofApp hF
  have fset := lofSet hF
  have fbytes := lofBytes hF
  have frep := lofRep hF
  unfold Tryd.f33
  cbv
  repeat' (first
    | (with_reducible refine o_call hO hQ hs ?_); try cbv
    | (with_reducible refine o_at_g hO hj ?_ ?_); (focus (simp only [flen]; omega)); try cbv
    | (with_reducible refine o_elem hO hj h ?_); try cbv
    | (with_reducible refine o_get hO h ?_); try cbv
    | ((with_reducible refine k_eql_t hO ?_ ?_); (focus (first | assumption | (simp only [zn_eq, flen] at *; omega) | omega)); try cbv)
    | ((with_reducible refine k_eql_f hO ?_ ?_); (focus (first | assumption | (simp only [zn_eq, flen] at *; omega) | omega)); try cbv)
    | ((with_reducible refine k_eql hO (fun h => ?_) (fun h => ?_)) <;> try cbv)
    | ((with_reducible refine k_neq_t hO ?_ ?_); (focus (first | assumption | (simp only [zn_eq, flen] at *; omega) | omega)); try cbv)
    | ((with_reducible refine k_neq_f hO ?_ ?_); (focus (first | assumption | (simp only [zn_eq, flen] at *; omega) | omega)); try cbv)
    | ((with_reducible refine k_neq hO (fun h => ?_) (fun h => ?_)) <;> try cbv)
    | ((with_reducible refine k_lss_t hO ?_ ?_); (focus (first | assumption | (simp only [zn_eq, flen] at *; omega) | omega)); try cbv)
    | ((with_reducible refine k_lss_f hO ?_ ?_); (focus (first | assumption | (simp only [zn_eq, flen] at *; omega) | omega)); try cbv)
    | ((with_reducible refine k_lss hO (fun h => ?_) (fun h => ?_)) <;> try cbv)
    | ((with_reducible refine k_leq_t hO ?_ ?_); (focus (first | assumption | (simp only [zn_eq, flen] at *; omega) | omega)); try cbv)
    | ((with_reducible refine k_leq_f hO ?_ ?_); (focus (first | assumption | (simp only [zn_eq, flen] at *; omega) | omega)); try cbv)
    | ((with_reducible refine k_leq hO (fun h => ?_) (fun h => ?_)) <;> try cbv)
    | ((with_reducible refine k_gtr_t hO ?_ ?_); (focus (first | assumption | (simp only [zn_eq, flen] at *; omega) | omega)); try cbv)
    | ((with_reducible refine k_gtr_f hO ?_ ?_); (focus (first | assumption | (simp only [zn_eq, flen] at *; omega) | omega)); try cbv)
    | ((with_reducible refine k_gtr hO (fun h => ?_) (fun h => ?_)) <;> try cbv)
    | ((with_reducible refine k_geq_t hO ?_ ?_); (focus (first | assumption | (simp only [zn_eq, flen] at *; omega) | omega)); try cbv)
    | ((with_reducible refine k_geq_f hO ?_ ?_); (focus (first | assumption | (simp only [zn_eq, flen] at *; omega) | omega)); try cbv)
    | ((with_reducible refine k_geq hO (fun h => ?_) (fun h => ?_)) <;> try cbv)
    | ((with_reducible refine k_add_l hO ?_ ?_); (focus decide); try cbv)
    | ((with_reducible refine k_add_in hO ?_ (fun n hn => ?_)); (focus (simp only [inK, zn_eq, flen] at *; omega)); try cbv)
    | ((with_reducible refine k_add hO (fun n hn => ?_)); try cbv)
    | ((with_reducible refine k_sub_l hO ?_ ?_); (focus decide); try cbv)
    | ((with_reducible refine k_sub_in hO ?_ (fun n hn => ?_)); (focus (simp only [inK, zn_eq, flen] at *; omega)); try cbv)
    | ((with_reducible refine k_sub hO (fun n hn => ?_)); try cbv)
    | ((with_reducible refine k_mul_l hO ?_ ?_); (focus decide); try cbv)
    | ((with_reducible refine k_mul_in hO ?_ (fun n hn => ?_)); (focus (simp only [inK, zn_eq, flen] at *; omega)); try cbv)
    | ((with_reducible refine k_mul hO (fun n hn => ?_)); try cbv)
    | ((with_reducible refine k_seql_t hO ?_ ?_); (focus (first | assumption | rfl | (simp; done))); try cbv)
    | ((with_reducible refine k_seql_f hO ?_ ?_); (focus (first | assumption | decide | (simp; done))); try cbv)
    | ((with_reducible refine k_seql hO (fun h => ?_) (fun h => ?_)) <;> try cbv)
    | ((with_reducible refine k_sneq_t hO ?_ ?_); (focus (first | assumption | rfl | (simp; done))); try cbv)
    | ((with_reducible refine k_sneq_f hO ?_ ?_); (focus (first | assumption | decide | (simp; done))); try cbv)
    | ((with_reducible refine k_sneq hO (fun h => ?_) (fun h => ?_)) <;> try cbv)
    | ((with_reducible refine k_slen hO ?_ (fun n hn => ?_)); (focus (exact undOk hQ rfl)); try cbv)
    | ((with_reducible refine k_sadd hO ?_ (fun s hs hz => ?_)); (focus (first | omega | assumption | (simp only [size_lit, List.length_cons, List.length_nil] at *; omega) | (simp_all; done) | (simp_all; omega))); (try simp only [size_lit, List.length_cons, List.length_nil, Nat.reduceAdd] at hz); (try cbv))
    | ((with_reducible apply k_conv_in hO); (focus (exact undOk hQ rfl)); (focus (exact undOk hQ rfl)); (focus (simp only [inK, zn_eq, flen] at *; omega)); try cbv)
    | ((with_reducible apply k_rune hO); (focus (exact undOk hQ rfl)); (focus (exact undOk hQ rfl)); intro s hs; try cbv)
    | ((with_reducible apply k_sidx hO); (focus (exact undOk hQ rfl)); (focus assumption); (focus assumption); intro n hn; try cbv)
    | ((with_reducible refine k_min hO (fun n hn1 hn2 hn3 => ?_)); try cbv)
    | ((with_reducible refine k_max hO (fun n hn1 hn2 hn3 => ?_)); try cbv)
    | ((with_reducible refine k_rem_pos hO ?_ ?_ (fun n hn => ?_)); (focus (first | (simp only [zn_eq, flen] at *; omega) | omega)); (focus (first | (simp only [zn_eq, flen] at *; omega) | omega)); try cbv)
    | ((with_reducible refine k_rem hO ?_ (fun n hn => ?_)); (focus (first | (simp only [zn_eq, flen] at *; omega) | omega)); try cbv)
    | ((with_reducible refine k_quo_in hO ?_ ?_ ?_ (fun n hn => ?_)); (focus (first | (simp only [zn_eq, flen] at *; omega) | omega)); (focus (first | (simp only [zn_eq, flen] at *; omega) | omega)); (focus (simp only [inK, zn_eq, flen] at *; omega)); try cbv)
    | ((with_reducible refine k_quo_pos hO ?_ ?_ (fun n hn => ?_)); (focus (first | (simp only [zn_eq, flen] at *; omega) | omega)); (focus (first | (simp only [zn_eq, flen] at *; omega) | omega)); try simp (disch := omega) only [wrap_i64, wrap_u8, wrap_u64, wrap_i32, wrap_u16, wrap_u32] at hn; try cbv)
    | ((with_reducible refine k_not hO ?_); try cbv)
    | ((with_reducible refine o_ble hO ?_ ?_); (focus (first | assumption | exact Nat.le_refl _ | exact Nat.zero_le _ | (simp only [zn_eq, flen] at *; omega) | omega | decide | (simp; done) | (simp; omega) | (simp_all; done) | (simp_all [zn_eq]; omega))); try cbv)
    | ((with_reducible refine o_cut hO ?_ ?_ ?_); (focus (first | assumption | exact Nat.le_refl _ | exact Nat.zero_le _ | (simp only [zn_eq, flen] at *; omega) | omega | decide | (simp; done) | (simp; omega) | (simp_all; done) | (simp_all [zn_eq]; omega))); (focus (first | assumption | exact Nat.le_refl _ | exact Nat.zero_le _ | (simp only [zn_eq, flen] at *; omega) | omega | decide | (simp; done) | (simp; omega) | (simp_all; done) | (simp_all [zn_eq]; omega))); try cbv)
    | ((with_reducible refine o_room hO ?_ ?_ ?_); (focus (first | exact Or.inl rfl | (simp; done))); (focus (first | assumption | exact Nat.le_refl _ | exact Nat.zero_le _ | (simp only [zn_eq, flen] at *; omega) | omega | decide | (simp; done) | (simp; omega) | (simp_all; done) | (simp_all [zn_eq]; omega))); try cbv)
    | ((with_reducible refine o_nat_l hO ?_); try cbv)
    | ((with_reducible refine o_nat hO ?_ (fun j hj => ?_)); (focus (first | (simp only [zn_eq, flen] at *; omega) | omega)); try cbv)
    | ((with_reducible refine o_at_l hO ?_ ?_); (focus (first | assumption | exact Nat.le_refl _ | exact Nat.zero_le _ | (simp only [zn_eq, flen] at *; omega) | omega | decide | (simp; done) | (simp; omega) | (simp_all; done) | (simp_all [zn_eq]; omega))); try cbv)
    | ((with_reducible refine o_at hO ?_ ?_ (fun j hj => ?_)); (focus (first | (simp only [zn_eq, flen] at *; omega) | omega)); (focus (first | assumption | exact Nat.le_refl _ | exact Nat.zero_le _ | (simp only [zn_eq, flen] at *; omega) | omega | decide | (simp; done) | (simp; omega) | (simp_all; done) | (simp_all [zn_eq]; omega))); try cbv)
    | ((with_reducible apply o_len_l hO); (focus decide); try cbv)
    | ((with_reducible refine o_len hO (fun n hn => ?_)); try cbv)
    | ((with_reducible refine o_mk hO ?_ ?_ ?_ ?_ (fun j hj => ?_)); (focus (first | assumption | exact Nat.le_refl _ | exact Nat.zero_le _ | (simp only [zn_eq, flen] at *; omega) | omega | decide | (simp; done) | (simp; omega) | (simp_all; done) | (simp_all [zn_eq]; omega))); (focus (first | (simp only [zn_eq, flen] at *; omega) | omega)); (focus (first | (simp only [zn_eq, flen] at *; omega) | omega)); (focus (first | assumption | exact Nat.le_refl _ | exact Nat.zero_le _ | (simp only [zn_eq, flen] at *; omega) | omega | decide | (simp; done) | (simp; omega) | (simp_all; done) | (simp_all [zn_eq]; omega))); try cbv)
    | ((with_reducible refine o_empty hO ?_ ?_); (focus (first | rfl | assumption)); try cbv)
    | ((with_reducible apply o_elem_l hO); (focus (first | assumption | rfl | (simp; done))); try cbv)
    | ((with_reducible apply o_elem hO); (focus assumption); (focus assumption); try cbv)
    | ((with_reducible apply o_get hO); (focus (first | assumption | rfl | (simp; done))); try cbv)
    | ((with_reducible refine o_guard hO ?_ ?_); (focus (first | decide +kernel | (simp; done))); try cbv))
  all_goals (first | exact ⟨rfl, trivial⟩ | (exfalso; simp only [zn_eq, flen] at *; omega) | trace_state)

abbrev bldO (l : List (List PV)) : List ObjD := [⟨bldT, [.ptr 0 0 0, .own 5 1 l false]⟩]
abbrev bldR (l : List (List PV)) : CRes := ⟨.tup [], [[some (.ptr 0 0 0), some (.own 5 1 l false)]], []⟩
theorem lineB_len (d : Nat) (ps : List ByteArray) : (lineB d ps).length = d + (cat ps).length + 1 := by simp [lineB, tabs]; omega
/-- A line, told apart: by names. -/
theorem line_named (l : List UInt8) (d : Nat) (ps : List ByteArray) (hd : d ≤ 1000) (hps : ps.length ≤ 10) (hr : (l ++ lineB d ps).length ≤ 140737488355328) :
    SemCall P04 10 [.ptr 0 0 0, vi (zn d), .p (.sl 1 (strRows ps))] (bldO (bRows l)) (bldR (bRows (l ++ lineB d ps))) :=
  line_sem .me l d ps hd (by omega) (by rw [List.length_append, lineB_len] at hr; omega)

def stT (d : Nat) (k : Int) (nm cs v0 v1 : ByteArray) (bt et : List UInt8) (he : Bool) : List UInt8 :=
  if k = 0 then lineB d [sb [108, 111, 99, 97, 108, 32], nm, sb [32, 61, 32], v0, sb [59]] else if k = 1 then lineB d [nm, sb [32, 61, 32], v0, sb [59]] else if k = 2 then lineB d [nm, sb [91], v0, sb [93, 32, 61, 32], v1, sb [59]] else if k = 3 then (((lineB d [sb [105, 102, 32, 40], v0, sb [41, 32, 123]] ++ bt) ++ (if he = true then lineB d [sb [125, 32, 101, 108, 115, 101, 32, 123]] ++ et else [])) ++ lineB d [sb [125]]) else if k = 4 then ((lineB d [sb [108, 111, 111, 112, 32], nm, sb [32], cs, sb [32, 123]] ++ bt) ++ lineB d [sb [125]]) else if k = 5 then lineB d [sb [116, 97, 107, 101, 32], nm, sb [59]] else if k = 6 then lineB d [sb [103, 105, 118, 101, 32], nm, sb [59]] else if k = 7 then lineB d [sb [97, 100, 100, 32], nm, sb [32], v0, sb [59]] else if k = 8 then lineB d [sb [102, 101, 110, 99, 101, 59]] else lineB d [sb [111, 117, 116, 112, 117, 116, 32], v0, sb [59]]

set_option maxHeartbeats 2000000 in
theorem stmt0 (k : Int) (nm : ByteArray) (er : List (List PV)) (cnt : Int) (br lr : List (List PV)) (a : Int) (cs v0 v1 : ByteArray) (bt et : List UInt8) (he : Bool) (d : Nat) (l : List UInt8)
    (hd : d ≤ 1000) (hv0 : SemCall P04 33 [.p (.agg (smC' k nm er cnt br lr a)), vi 0] [] (one (.v (.string v0)))) (hv1 : SemCall P04 33 [.p (.agg (smC' k nm er cnt br lr a)), vi 1] [] (one (.v (.string v1))))
    (hc : SemCall P04 23 [vi cnt] [] (one (.v (.string cs))))
    (hb : ∀ n, n = zn d + 1 → ∀ l : List UInt8, (l ++ bt).length ≤ 140737488355328 → SemCall P04 12 [.ptr 0 0 0, .p (.sl 7 br), vi n] (bldO (bRows l)) (bldR (bRows (l ++ bt))))
    (hel : ∀ n, n = zn d + 1 → ∀ l : List UInt8, (l ++ et).length ≤ 140737488355328 → SemCall P04 12 [.ptr 0 0 0, .p (.sl 7 lr), vi n] (bldO (bRows l)) (bldR (bRows (l ++ et))))
    (hhe : he = decide (lr ≠ []))
    (hr : (l ++ stT d k nm cs v0 v1 bt et he).length ≤ 140737488355328) (hk : k = 0) :
    SemCall P04 24 [.ptr 0 0 0, .p (.agg (smC' k nm er cnt br lr a)), vi (zn d)] (bldO (bRows l)) (bldR (bRows (l ++ stT d k nm cs v0 v1 bt et he))) := by
  subst hk
  have e : stT d 0 nm cs v0 v1 bt et he = lineB d [sb [108, 111, 99, 97, 108, 32], nm, sb [32, 61, 32], v0, sb [59]] := rfl
  rw [e] at hr ⊢
  have hl1 := line_named l d _ hd (by simp) hr
  clear hb hel hhe e hr
  generalize bRows (l ++ lineB d [sb [108, 111, 99, 97, 108, 32], nm, sb [32, 61, 32], v0, sb [59]]) = r1 at *
  generalize bRows l = r0 at *
  generalize zn d = dd at *
  simp only [strRows, List.map_cons, List.map_nil, sb] at hl1
  refine semCall_of_prop (fn := Tryd.f24) (T := tab) tabOk mixed04 (by rfl) (by rfl) (by kernel_rfl) ?_
  intro Q O F hQ hO hF
  have flen := lofLen hF
  have ftake := lofTake hF
  have fdrop := lofDrop hF
  have fapp := lofApp hF
  have fset := lofSet hF
  have fbytes := lofBytes hF
  have frep := lofRep hF
  unfold Tryd.f24
  cbv
  repeat' (first
    | (with_reducible refine o_call hO hQ hv0 ?_); try cbv
    | (with_reducible refine o_call hO hQ hv1 ?_); try cbv
    | (with_reducible refine o_call hO hQ hl1 ?_); try cbv
    | ((with_reducible refine k_eql_t hO ?_ ?_); (focus (first | assumption | (simp only [zn_eq, flen] at *; omega) | omega)); try cbv)
    | ((with_reducible refine k_eql_f hO ?_ ?_); (focus (first | assumption | (simp only [zn_eq, flen] at *; omega) | omega)); try cbv)
    | ((with_reducible refine k_eql hO (fun h => ?_) (fun h => ?_)) <;> try cbv)
    | ((with_reducible refine k_neq_t hO ?_ ?_); (focus (first | assumption | (simp only [zn_eq, flen] at *; omega) | omega)); try cbv)
    | ((with_reducible refine k_neq_f hO ?_ ?_); (focus (first | assumption | (simp only [zn_eq, flen] at *; omega) | omega)); try cbv)
    | ((with_reducible refine k_neq hO (fun h => ?_) (fun h => ?_)) <;> try cbv)
    | ((with_reducible refine k_lss_t hO ?_ ?_); (focus (first | assumption | (simp only [zn_eq, flen] at *; omega) | omega)); try cbv)
    | ((with_reducible refine k_lss_f hO ?_ ?_); (focus (first | assumption | (simp only [zn_eq, flen] at *; omega) | omega)); try cbv)
    | ((with_reducible refine k_lss hO (fun h => ?_) (fun h => ?_)) <;> try cbv)
    | ((with_reducible refine k_leq_t hO ?_ ?_); (focus (first | assumption | (simp only [zn_eq, flen] at *; omega) | omega)); try cbv)
    | ((with_reducible refine k_leq_f hO ?_ ?_); (focus (first | assumption | (simp only [zn_eq, flen] at *; omega) | omega)); try cbv)
    | ((with_reducible refine k_leq hO (fun h => ?_) (fun h => ?_)) <;> try cbv)
    | ((with_reducible refine k_gtr_t hO ?_ ?_); (focus (first | assumption | (simp only [zn_eq, flen] at *; omega) | omega)); try cbv)
    | ((with_reducible refine k_gtr_f hO ?_ ?_); (focus (first | assumption | (simp only [zn_eq, flen] at *; omega) | omega)); try cbv)
    | ((with_reducible refine k_gtr hO (fun h => ?_) (fun h => ?_)) <;> try cbv)
    | ((with_reducible refine k_geq_t hO ?_ ?_); (focus (first | assumption | (simp only [zn_eq, flen] at *; omega) | omega)); try cbv)
    | ((with_reducible refine k_geq_f hO ?_ ?_); (focus (first | assumption | (simp only [zn_eq, flen] at *; omega) | omega)); try cbv)
    | ((with_reducible refine k_geq hO (fun h => ?_) (fun h => ?_)) <;> try cbv)
    | ((with_reducible refine k_add_l hO ?_ ?_); (focus decide); try cbv)
    | ((with_reducible refine k_add_in hO ?_ (fun n hn => ?_)); (focus (simp only [inK, zn_eq, flen] at *; omega)); try cbv)
    | ((with_reducible refine k_add hO (fun n hn => ?_)); try cbv)
    | ((with_reducible refine k_sub_l hO ?_ ?_); (focus decide); try cbv)
    | ((with_reducible refine k_sub_in hO ?_ (fun n hn => ?_)); (focus (simp only [inK, zn_eq, flen] at *; omega)); try cbv)
    | ((with_reducible refine k_sub hO (fun n hn => ?_)); try cbv)
    | ((with_reducible refine k_mul_l hO ?_ ?_); (focus decide); try cbv)
    | ((with_reducible refine k_mul_in hO ?_ (fun n hn => ?_)); (focus (simp only [inK, zn_eq, flen] at *; omega)); try cbv)
    | ((with_reducible refine k_mul hO (fun n hn => ?_)); try cbv)
    | ((with_reducible refine k_seql_t hO ?_ ?_); (focus (first | assumption | rfl | (simp; done))); try cbv)
    | ((with_reducible refine k_seql_f hO ?_ ?_); (focus (first | assumption | decide | (simp; done))); try cbv)
    | ((with_reducible refine k_seql hO (fun h => ?_) (fun h => ?_)) <;> try cbv)
    | ((with_reducible refine k_sneq_t hO ?_ ?_); (focus (first | assumption | rfl | (simp; done))); try cbv)
    | ((with_reducible refine k_sneq_f hO ?_ ?_); (focus (first | assumption | decide | (simp; done))); try cbv)
    | ((with_reducible refine k_sneq hO (fun h => ?_) (fun h => ?_)) <;> try cbv)
    | ((with_reducible refine k_slen hO ?_ (fun n hn => ?_)); (focus (exact undOk hQ rfl)); try cbv)
    | ((with_reducible refine k_sadd hO ?_ (fun s hs hz => ?_)); (focus (first | omega | assumption | (simp only [size_lit, List.length_cons, List.length_nil] at *; omega) | (simp_all; done) | (simp_all; omega))); (try simp only [size_lit, List.length_cons, List.length_nil, Nat.reduceAdd] at hz); (try cbv))
    | ((with_reducible apply k_conv_in hO); (focus (exact undOk hQ rfl)); (focus (exact undOk hQ rfl)); (focus (simp only [inK, zn_eq, flen] at *; omega)); try cbv)
    | ((with_reducible apply k_rune hO); (focus (exact undOk hQ rfl)); (focus (exact undOk hQ rfl)); intro s hs; try cbv)
    | ((with_reducible apply k_sidx hO); (focus (exact undOk hQ rfl)); (focus assumption); (focus assumption); intro n hn; try cbv)
    | ((with_reducible refine k_min hO (fun n hn1 hn2 hn3 => ?_)); try cbv)
    | ((with_reducible refine k_max hO (fun n hn1 hn2 hn3 => ?_)); try cbv)
    | ((with_reducible refine k_rem_pos hO ?_ ?_ (fun n hn => ?_)); (focus (first | (simp only [zn_eq, flen] at *; omega) | omega)); (focus (first | (simp only [zn_eq, flen] at *; omega) | omega)); try cbv)
    | ((with_reducible refine k_rem hO ?_ (fun n hn => ?_)); (focus (first | (simp only [zn_eq, flen] at *; omega) | omega)); try cbv)
    | ((with_reducible refine k_quo_in hO ?_ ?_ ?_ (fun n hn => ?_)); (focus (first | (simp only [zn_eq, flen] at *; omega) | omega)); (focus (first | (simp only [zn_eq, flen] at *; omega) | omega)); (focus (simp only [inK, zn_eq, flen] at *; omega)); try cbv)
    | ((with_reducible refine k_quo_pos hO ?_ ?_ (fun n hn => ?_)); (focus (first | (simp only [zn_eq, flen] at *; omega) | omega)); (focus (first | (simp only [zn_eq, flen] at *; omega) | omega)); try simp (disch := omega) only [wrap_i64, wrap_u8, wrap_u64, wrap_i32, wrap_u16, wrap_u32] at hn; try cbv)
    | ((with_reducible refine k_not hO ?_); try cbv)
    | ((with_reducible refine o_ble hO ?_ ?_); (focus (first | assumption | exact Nat.le_refl _ | exact Nat.zero_le _ | (simp only [zn_eq, flen] at *; omega) | omega | decide | (simp; done) | (simp; omega) | (simp_all; done) | (simp_all [zn_eq]; omega))); try cbv)
    | ((with_reducible refine o_cut hO ?_ ?_ ?_); (focus (first | assumption | exact Nat.le_refl _ | exact Nat.zero_le _ | (simp only [zn_eq, flen] at *; omega) | omega | decide | (simp; done) | (simp; omega) | (simp_all; done) | (simp_all [zn_eq]; omega))); (focus (first | assumption | exact Nat.le_refl _ | exact Nat.zero_le _ | (simp only [zn_eq, flen] at *; omega) | omega | decide | (simp; done) | (simp; omega) | (simp_all; done) | (simp_all [zn_eq]; omega))); try cbv)
    | ((with_reducible refine o_room hO ?_ ?_ ?_); (focus (first | exact Or.inl rfl | (simp; done))); (focus (first | assumption | exact Nat.le_refl _ | exact Nat.zero_le _ | (simp only [zn_eq, flen] at *; omega) | omega | decide | (simp; done) | (simp; omega) | (simp_all; done) | (simp_all [zn_eq]; omega))); try cbv)
    | ((with_reducible refine o_nat_l hO ?_); try cbv)
    | ((with_reducible refine o_nat hO ?_ (fun j hj => ?_)); (focus (first | (simp only [zn_eq, flen] at *; omega) | omega)); try cbv)
    | ((with_reducible refine o_at_l hO ?_ ?_); (focus (first | assumption | exact Nat.le_refl _ | exact Nat.zero_le _ | (simp only [zn_eq, flen] at *; omega) | omega | decide | (simp; done) | (simp; omega) | (simp_all; done) | (simp_all [zn_eq]; omega))); try cbv)
    | ((with_reducible refine o_at hO ?_ ?_ (fun j hj => ?_)); (focus (first | (simp only [zn_eq, flen] at *; omega) | omega)); (focus (first | assumption | exact Nat.le_refl _ | exact Nat.zero_le _ | (simp only [zn_eq, flen] at *; omega) | omega | decide | (simp; done) | (simp; omega) | (simp_all; done) | (simp_all [zn_eq]; omega))); try cbv)
    | ((with_reducible apply o_len_l hO); (focus decide); try cbv)
    | ((with_reducible refine o_len hO (fun n hn => ?_)); try cbv)
    | ((with_reducible refine o_mk hO ?_ ?_ ?_ ?_ (fun j hj => ?_)); (focus (first | assumption | exact Nat.le_refl _ | exact Nat.zero_le _ | (simp only [zn_eq, flen] at *; omega) | omega | decide | (simp; done) | (simp; omega) | (simp_all; done) | (simp_all [zn_eq]; omega))); (focus (first | (simp only [zn_eq, flen] at *; omega) | omega)); (focus (first | (simp only [zn_eq, flen] at *; omega) | omega)); (focus (first | assumption | exact Nat.le_refl _ | exact Nat.zero_le _ | (simp only [zn_eq, flen] at *; omega) | omega | decide | (simp; done) | (simp; omega) | (simp_all; done) | (simp_all [zn_eq]; omega))); try cbv)
    | ((with_reducible refine o_empty hO ?_ ?_); (focus (first | rfl | assumption)); try cbv)
    | ((with_reducible apply o_elem_l hO); (focus (first | assumption | rfl | (simp; done))); try cbv)
    | ((with_reducible apply o_elem hO); (focus assumption); (focus assumption); try cbv)
    | ((with_reducible apply o_get hO); (focus (first | assumption | rfl | (simp; done))); try cbv)
    | ((with_reducible refine o_guard hO ?_ ?_); (focus (first | decide +kernel | (simp; done))); try cbv))
  all_goals (first | exact ⟨trivial, trivial⟩ | trace_state)

set_option maxHeartbeats 2000000 in
theorem stmt1 (k : Int) (nm : ByteArray) (er : List (List PV)) (cnt : Int) (br lr : List (List PV)) (a : Int) (cs v0 v1 : ByteArray) (bt et : List UInt8) (he : Bool) (d : Nat) (l : List UInt8)
    (hd : d ≤ 1000) (hv0 : SemCall P04 33 [.p (.agg (smC' k nm er cnt br lr a)), vi 0] [] (one (.v (.string v0)))) (hv1 : SemCall P04 33 [.p (.agg (smC' k nm er cnt br lr a)), vi 1] [] (one (.v (.string v1))))
    (hc : SemCall P04 23 [vi cnt] [] (one (.v (.string cs))))
    (hb : ∀ n, n = zn d + 1 → ∀ l : List UInt8, (l ++ bt).length ≤ 140737488355328 → SemCall P04 12 [.ptr 0 0 0, .p (.sl 7 br), vi n] (bldO (bRows l)) (bldR (bRows (l ++ bt))))
    (hel : ∀ n, n = zn d + 1 → ∀ l : List UInt8, (l ++ et).length ≤ 140737488355328 → SemCall P04 12 [.ptr 0 0 0, .p (.sl 7 lr), vi n] (bldO (bRows l)) (bldR (bRows (l ++ et))))
    (hhe : he = decide (lr ≠ []))
    (hr : (l ++ stT d k nm cs v0 v1 bt et he).length ≤ 140737488355328) (hk : k = 1) :
    SemCall P04 24 [.ptr 0 0 0, .p (.agg (smC' k nm er cnt br lr a)), vi (zn d)] (bldO (bRows l)) (bldR (bRows (l ++ stT d k nm cs v0 v1 bt et he))) := by
  subst hk
  have e : stT d 1 nm cs v0 v1 bt et he = lineB d [nm, sb [32, 61, 32], v0, sb [59]] := rfl
  rw [e] at hr ⊢
  have hl1 := line_named l d _ hd (by simp) hr
  clear hb hel hhe e hr
  generalize bRows (l ++ lineB d [nm, sb [32, 61, 32], v0, sb [59]]) = r1 at *
  generalize bRows l = r0 at *
  generalize zn d = dd at *
  simp only [strRows, List.map_cons, List.map_nil, sb] at hl1
  refine semCall_of_prop (fn := Tryd.f24) (T := tab) tabOk mixed04 (by rfl) (by rfl) (by kernel_rfl) ?_
  intro Q O F hQ hO hF
  have flen := lofLen hF
  have ftake := lofTake hF
  have fdrop := lofDrop hF
  have fapp := lofApp hF
  have fset := lofSet hF
  have fbytes := lofBytes hF
  have frep := lofRep hF
  unfold Tryd.f24
  cbv
  repeat' (first
    | (with_reducible refine o_call hO hQ hv0 ?_); try cbv
    | (with_reducible refine o_call hO hQ hv1 ?_); try cbv
    | (with_reducible refine o_call hO hQ hl1 ?_); try cbv
    | ((with_reducible refine k_eql_t hO ?_ ?_); (focus (first | assumption | (simp only [zn_eq, flen] at *; omega) | omega)); try cbv)
    | ((with_reducible refine k_eql_f hO ?_ ?_); (focus (first | assumption | (simp only [zn_eq, flen] at *; omega) | omega)); try cbv)
    | ((with_reducible refine k_eql hO (fun h => ?_) (fun h => ?_)) <;> try cbv)
    | ((with_reducible refine k_neq_t hO ?_ ?_); (focus (first | assumption | (simp only [zn_eq, flen] at *; omega) | omega)); try cbv)
    | ((with_reducible refine k_neq_f hO ?_ ?_); (focus (first | assumption | (simp only [zn_eq, flen] at *; omega) | omega)); try cbv)
    | ((with_reducible refine k_neq hO (fun h => ?_) (fun h => ?_)) <;> try cbv)
    | ((with_reducible refine k_lss_t hO ?_ ?_); (focus (first | assumption | (simp only [zn_eq, flen] at *; omega) | omega)); try cbv)
    | ((with_reducible refine k_lss_f hO ?_ ?_); (focus (first | assumption | (simp only [zn_eq, flen] at *; omega) | omega)); try cbv)
    | ((with_reducible refine k_lss hO (fun h => ?_) (fun h => ?_)) <;> try cbv)
    | ((with_reducible refine k_leq_t hO ?_ ?_); (focus (first | assumption | (simp only [zn_eq, flen] at *; omega) | omega)); try cbv)
    | ((with_reducible refine k_leq_f hO ?_ ?_); (focus (first | assumption | (simp only [zn_eq, flen] at *; omega) | omega)); try cbv)
    | ((with_reducible refine k_leq hO (fun h => ?_) (fun h => ?_)) <;> try cbv)
    | ((with_reducible refine k_gtr_t hO ?_ ?_); (focus (first | assumption | (simp only [zn_eq, flen] at *; omega) | omega)); try cbv)
    | ((with_reducible refine k_gtr_f hO ?_ ?_); (focus (first | assumption | (simp only [zn_eq, flen] at *; omega) | omega)); try cbv)
    | ((with_reducible refine k_gtr hO (fun h => ?_) (fun h => ?_)) <;> try cbv)
    | ((with_reducible refine k_geq_t hO ?_ ?_); (focus (first | assumption | (simp only [zn_eq, flen] at *; omega) | omega)); try cbv)
    | ((with_reducible refine k_geq_f hO ?_ ?_); (focus (first | assumption | (simp only [zn_eq, flen] at *; omega) | omega)); try cbv)
    | ((with_reducible refine k_geq hO (fun h => ?_) (fun h => ?_)) <;> try cbv)
    | ((with_reducible refine k_add_l hO ?_ ?_); (focus decide); try cbv)
    | ((with_reducible refine k_add_in hO ?_ (fun n hn => ?_)); (focus (simp only [inK, zn_eq, flen] at *; omega)); try cbv)
    | ((with_reducible refine k_add hO (fun n hn => ?_)); try cbv)
    | ((with_reducible refine k_sub_l hO ?_ ?_); (focus decide); try cbv)
    | ((with_reducible refine k_sub_in hO ?_ (fun n hn => ?_)); (focus (simp only [inK, zn_eq, flen] at *; omega)); try cbv)
    | ((with_reducible refine k_sub hO (fun n hn => ?_)); try cbv)
    | ((with_reducible refine k_mul_l hO ?_ ?_); (focus decide); try cbv)
    | ((with_reducible refine k_mul_in hO ?_ (fun n hn => ?_)); (focus (simp only [inK, zn_eq, flen] at *; omega)); try cbv)
    | ((with_reducible refine k_mul hO (fun n hn => ?_)); try cbv)
    | ((with_reducible refine k_seql_t hO ?_ ?_); (focus (first | assumption | rfl | (simp; done))); try cbv)
    | ((with_reducible refine k_seql_f hO ?_ ?_); (focus (first | assumption | decide | (simp; done))); try cbv)
    | ((with_reducible refine k_seql hO (fun h => ?_) (fun h => ?_)) <;> try cbv)
    | ((with_reducible refine k_sneq_t hO ?_ ?_); (focus (first | assumption | rfl | (simp; done))); try cbv)
    | ((with_reducible refine k_sneq_f hO ?_ ?_); (focus (first | assumption | decide | (simp; done))); try cbv)
    | ((with_reducible refine k_sneq hO (fun h => ?_) (fun h => ?_)) <;> try cbv)
    | ((with_reducible refine k_slen hO ?_ (fun n hn => ?_)); (focus (exact undOk hQ rfl)); try cbv)
    | ((with_reducible refine k_sadd hO ?_ (fun s hs hz => ?_)); (focus (first | omega | assumption | (simp only [size_lit, List.length_cons, List.length_nil] at *; omega) | (simp_all; done) | (simp_all; omega))); (try simp only [size_lit, List.length_cons, List.length_nil, Nat.reduceAdd] at hz); (try cbv))
    | ((with_reducible apply k_conv_in hO); (focus (exact undOk hQ rfl)); (focus (exact undOk hQ rfl)); (focus (simp only [inK, zn_eq, flen] at *; omega)); try cbv)
    | ((with_reducible apply k_rune hO); (focus (exact undOk hQ rfl)); (focus (exact undOk hQ rfl)); intro s hs; try cbv)
    | ((with_reducible apply k_sidx hO); (focus (exact undOk hQ rfl)); (focus assumption); (focus assumption); intro n hn; try cbv)
    | ((with_reducible refine k_min hO (fun n hn1 hn2 hn3 => ?_)); try cbv)
    | ((with_reducible refine k_max hO (fun n hn1 hn2 hn3 => ?_)); try cbv)
    | ((with_reducible refine k_rem_pos hO ?_ ?_ (fun n hn => ?_)); (focus (first | (simp only [zn_eq, flen] at *; omega) | omega)); (focus (first | (simp only [zn_eq, flen] at *; omega) | omega)); try cbv)
    | ((with_reducible refine k_rem hO ?_ (fun n hn => ?_)); (focus (first | (simp only [zn_eq, flen] at *; omega) | omega)); try cbv)
    | ((with_reducible refine k_quo_in hO ?_ ?_ ?_ (fun n hn => ?_)); (focus (first | (simp only [zn_eq, flen] at *; omega) | omega)); (focus (first | (simp only [zn_eq, flen] at *; omega) | omega)); (focus (simp only [inK, zn_eq, flen] at *; omega)); try cbv)
    | ((with_reducible refine k_quo_pos hO ?_ ?_ (fun n hn => ?_)); (focus (first | (simp only [zn_eq, flen] at *; omega) | omega)); (focus (first | (simp only [zn_eq, flen] at *; omega) | omega)); try simp (disch := omega) only [wrap_i64, wrap_u8, wrap_u64, wrap_i32, wrap_u16, wrap_u32] at hn; try cbv)
    | ((with_reducible refine k_not hO ?_); try cbv)
    | ((with_reducible refine o_ble hO ?_ ?_); (focus (first | assumption | exact Nat.le_refl _ | exact Nat.zero_le _ | (simp only [zn_eq, flen] at *; omega) | omega | decide | (simp; done) | (simp; omega) | (simp_all; done) | (simp_all [zn_eq]; omega))); try cbv)
    | ((with_reducible refine o_cut hO ?_ ?_ ?_); (focus (first | assumption | exact Nat.le_refl _ | exact Nat.zero_le _ | (simp only [zn_eq, flen] at *; omega) | omega | decide | (simp; done) | (simp; omega) | (simp_all; done) | (simp_all [zn_eq]; omega))); (focus (first | assumption | exact Nat.le_refl _ | exact Nat.zero_le _ | (simp only [zn_eq, flen] at *; omega) | omega | decide | (simp; done) | (simp; omega) | (simp_all; done) | (simp_all [zn_eq]; omega))); try cbv)
    | ((with_reducible refine o_room hO ?_ ?_ ?_); (focus (first | exact Or.inl rfl | (simp; done))); (focus (first | assumption | exact Nat.le_refl _ | exact Nat.zero_le _ | (simp only [zn_eq, flen] at *; omega) | omega | decide | (simp; done) | (simp; omega) | (simp_all; done) | (simp_all [zn_eq]; omega))); try cbv)
    | ((with_reducible refine o_nat_l hO ?_); try cbv)
    | ((with_reducible refine o_nat hO ?_ (fun j hj => ?_)); (focus (first | (simp only [zn_eq, flen] at *; omega) | omega)); try cbv)
    | ((with_reducible refine o_at_l hO ?_ ?_); (focus (first | assumption | exact Nat.le_refl _ | exact Nat.zero_le _ | (simp only [zn_eq, flen] at *; omega) | omega | decide | (simp; done) | (simp; omega) | (simp_all; done) | (simp_all [zn_eq]; omega))); try cbv)
    | ((with_reducible refine o_at hO ?_ ?_ (fun j hj => ?_)); (focus (first | (simp only [zn_eq, flen] at *; omega) | omega)); (focus (first | assumption | exact Nat.le_refl _ | exact Nat.zero_le _ | (simp only [zn_eq, flen] at *; omega) | omega | decide | (simp; done) | (simp; omega) | (simp_all; done) | (simp_all [zn_eq]; omega))); try cbv)
    | ((with_reducible apply o_len_l hO); (focus decide); try cbv)
    | ((with_reducible refine o_len hO (fun n hn => ?_)); try cbv)
    | ((with_reducible refine o_mk hO ?_ ?_ ?_ ?_ (fun j hj => ?_)); (focus (first | assumption | exact Nat.le_refl _ | exact Nat.zero_le _ | (simp only [zn_eq, flen] at *; omega) | omega | decide | (simp; done) | (simp; omega) | (simp_all; done) | (simp_all [zn_eq]; omega))); (focus (first | (simp only [zn_eq, flen] at *; omega) | omega)); (focus (first | (simp only [zn_eq, flen] at *; omega) | omega)); (focus (first | assumption | exact Nat.le_refl _ | exact Nat.zero_le _ | (simp only [zn_eq, flen] at *; omega) | omega | decide | (simp; done) | (simp; omega) | (simp_all; done) | (simp_all [zn_eq]; omega))); try cbv)
    | ((with_reducible refine o_empty hO ?_ ?_); (focus (first | rfl | assumption)); try cbv)
    | ((with_reducible apply o_elem_l hO); (focus (first | assumption | rfl | (simp; done))); try cbv)
    | ((with_reducible apply o_elem hO); (focus assumption); (focus assumption); try cbv)
    | ((with_reducible apply o_get hO); (focus (first | assumption | rfl | (simp; done))); try cbv)
    | ((with_reducible refine o_guard hO ?_ ?_); (focus (first | decide +kernel | (simp; done))); try cbv))
  all_goals (first | exact ⟨trivial, trivial⟩ | trace_state)

set_option maxHeartbeats 2000000 in
theorem stmt2 (k : Int) (nm : ByteArray) (er : List (List PV)) (cnt : Int) (br lr : List (List PV)) (a : Int) (cs v0 v1 : ByteArray) (bt et : List UInt8) (he : Bool) (d : Nat) (l : List UInt8)
    (hd : d ≤ 1000) (hv0 : SemCall P04 33 [.p (.agg (smC' k nm er cnt br lr a)), vi 0] [] (one (.v (.string v0)))) (hv1 : SemCall P04 33 [.p (.agg (smC' k nm er cnt br lr a)), vi 1] [] (one (.v (.string v1))))
    (hc : SemCall P04 23 [vi cnt] [] (one (.v (.string cs))))
    (hb : ∀ n, n = zn d + 1 → ∀ l : List UInt8, (l ++ bt).length ≤ 140737488355328 → SemCall P04 12 [.ptr 0 0 0, .p (.sl 7 br), vi n] (bldO (bRows l)) (bldR (bRows (l ++ bt))))
    (hel : ∀ n, n = zn d + 1 → ∀ l : List UInt8, (l ++ et).length ≤ 140737488355328 → SemCall P04 12 [.ptr 0 0 0, .p (.sl 7 lr), vi n] (bldO (bRows l)) (bldR (bRows (l ++ et))))
    (hhe : he = decide (lr ≠ []))
    (hr : (l ++ stT d k nm cs v0 v1 bt et he).length ≤ 140737488355328) (hk : k = 2) :
    SemCall P04 24 [.ptr 0 0 0, .p (.agg (smC' k nm er cnt br lr a)), vi (zn d)] (bldO (bRows l)) (bldR (bRows (l ++ stT d k nm cs v0 v1 bt et he))) := by
  subst hk
  have e : stT d 2 nm cs v0 v1 bt et he = lineB d [nm, sb [91], v0, sb [93, 32, 61, 32], v1, sb [59]] := rfl
  rw [e] at hr ⊢
  have hl1 := line_named l d _ hd (by simp) hr
  clear hb hel hhe e hr
  generalize bRows (l ++ lineB d [nm, sb [91], v0, sb [93, 32, 61, 32], v1, sb [59]]) = r1 at *
  generalize bRows l = r0 at *
  generalize zn d = dd at *
  simp only [strRows, List.map_cons, List.map_nil, sb] at hl1
  refine semCall_of_prop (fn := Tryd.f24) (T := tab) tabOk mixed04 (by rfl) (by rfl) (by kernel_rfl) ?_
  intro Q O F hQ hO hF
  have flen := lofLen hF
  have ftake := lofTake hF
  have fdrop := lofDrop hF
  have fapp := lofApp hF
  have fset := lofSet hF
  have fbytes := lofBytes hF
  have frep := lofRep hF
  unfold Tryd.f24
  cbv
  repeat' (first
    | (with_reducible refine o_call hO hQ hv0 ?_); try cbv
    | (with_reducible refine o_call hO hQ hv1 ?_); try cbv
    | (with_reducible refine o_call hO hQ hl1 ?_); try cbv
    | ((with_reducible refine k_eql_t hO ?_ ?_); (focus (first | assumption | (simp only [zn_eq, flen] at *; omega) | omega)); try cbv)
    | ((with_reducible refine k_eql_f hO ?_ ?_); (focus (first | assumption | (simp only [zn_eq, flen] at *; omega) | omega)); try cbv)
    | ((with_reducible refine k_eql hO (fun h => ?_) (fun h => ?_)) <;> try cbv)
    | ((with_reducible refine k_neq_t hO ?_ ?_); (focus (first | assumption | (simp only [zn_eq, flen] at *; omega) | omega)); try cbv)
    | ((with_reducible refine k_neq_f hO ?_ ?_); (focus (first | assumption | (simp only [zn_eq, flen] at *; omega) | omega)); try cbv)
    | ((with_reducible refine k_neq hO (fun h => ?_) (fun h => ?_)) <;> try cbv)
    | ((with_reducible refine k_lss_t hO ?_ ?_); (focus (first | assumption | (simp only [zn_eq, flen] at *; omega) | omega)); try cbv)
    | ((with_reducible refine k_lss_f hO ?_ ?_); (focus (first | assumption | (simp only [zn_eq, flen] at *; omega) | omega)); try cbv)
    | ((with_reducible refine k_lss hO (fun h => ?_) (fun h => ?_)) <;> try cbv)
    | ((with_reducible refine k_leq_t hO ?_ ?_); (focus (first | assumption | (simp only [zn_eq, flen] at *; omega) | omega)); try cbv)
    | ((with_reducible refine k_leq_f hO ?_ ?_); (focus (first | assumption | (simp only [zn_eq, flen] at *; omega) | omega)); try cbv)
    | ((with_reducible refine k_leq hO (fun h => ?_) (fun h => ?_)) <;> try cbv)
    | ((with_reducible refine k_gtr_t hO ?_ ?_); (focus (first | assumption | (simp only [zn_eq, flen] at *; omega) | omega)); try cbv)
    | ((with_reducible refine k_gtr_f hO ?_ ?_); (focus (first | assumption | (simp only [zn_eq, flen] at *; omega) | omega)); try cbv)
    | ((with_reducible refine k_gtr hO (fun h => ?_) (fun h => ?_)) <;> try cbv)
    | ((with_reducible refine k_geq_t hO ?_ ?_); (focus (first | assumption | (simp only [zn_eq, flen] at *; omega) | omega)); try cbv)
    | ((with_reducible refine k_geq_f hO ?_ ?_); (focus (first | assumption | (simp only [zn_eq, flen] at *; omega) | omega)); try cbv)
    | ((with_reducible refine k_geq hO (fun h => ?_) (fun h => ?_)) <;> try cbv)
    | ((with_reducible refine k_add_l hO ?_ ?_); (focus decide); try cbv)
    | ((with_reducible refine k_add_in hO ?_ (fun n hn => ?_)); (focus (simp only [inK, zn_eq, flen] at *; omega)); try cbv)
    | ((with_reducible refine k_add hO (fun n hn => ?_)); try cbv)
    | ((with_reducible refine k_sub_l hO ?_ ?_); (focus decide); try cbv)
    | ((with_reducible refine k_sub_in hO ?_ (fun n hn => ?_)); (focus (simp only [inK, zn_eq, flen] at *; omega)); try cbv)
    | ((with_reducible refine k_sub hO (fun n hn => ?_)); try cbv)
    | ((with_reducible refine k_mul_l hO ?_ ?_); (focus decide); try cbv)
    | ((with_reducible refine k_mul_in hO ?_ (fun n hn => ?_)); (focus (simp only [inK, zn_eq, flen] at *; omega)); try cbv)
    | ((with_reducible refine k_mul hO (fun n hn => ?_)); try cbv)
    | ((with_reducible refine k_seql_t hO ?_ ?_); (focus (first | assumption | rfl | (simp; done))); try cbv)
    | ((with_reducible refine k_seql_f hO ?_ ?_); (focus (first | assumption | decide | (simp; done))); try cbv)
    | ((with_reducible refine k_seql hO (fun h => ?_) (fun h => ?_)) <;> try cbv)
    | ((with_reducible refine k_sneq_t hO ?_ ?_); (focus (first | assumption | rfl | (simp; done))); try cbv)
    | ((with_reducible refine k_sneq_f hO ?_ ?_); (focus (first | assumption | decide | (simp; done))); try cbv)
    | ((with_reducible refine k_sneq hO (fun h => ?_) (fun h => ?_)) <;> try cbv)
    | ((with_reducible refine k_slen hO ?_ (fun n hn => ?_)); (focus (exact undOk hQ rfl)); try cbv)
    | ((with_reducible refine k_sadd hO ?_ (fun s hs hz => ?_)); (focus (first | omega | assumption | (simp only [size_lit, List.length_cons, List.length_nil] at *; omega) | (simp_all; done) | (simp_all; omega))); (try simp only [size_lit, List.length_cons, List.length_nil, Nat.reduceAdd] at hz); (try cbv))
    | ((with_reducible apply k_conv_in hO); (focus (exact undOk hQ rfl)); (focus (exact undOk hQ rfl)); (focus (simp only [inK, zn_eq, flen] at *; omega)); try cbv)
    | ((with_reducible apply k_rune hO); (focus (exact undOk hQ rfl)); (focus (exact undOk hQ rfl)); intro s hs; try cbv)
    | ((with_reducible apply k_sidx hO); (focus (exact undOk hQ rfl)); (focus assumption); (focus assumption); intro n hn; try cbv)
    | ((with_reducible refine k_min hO (fun n hn1 hn2 hn3 => ?_)); try cbv)
    | ((with_reducible refine k_max hO (fun n hn1 hn2 hn3 => ?_)); try cbv)
    | ((with_reducible refine k_rem_pos hO ?_ ?_ (fun n hn => ?_)); (focus (first | (simp only [zn_eq, flen] at *; omega) | omega)); (focus (first | (simp only [zn_eq, flen] at *; omega) | omega)); try cbv)
    | ((with_reducible refine k_rem hO ?_ (fun n hn => ?_)); (focus (first | (simp only [zn_eq, flen] at *; omega) | omega)); try cbv)
    | ((with_reducible refine k_quo_in hO ?_ ?_ ?_ (fun n hn => ?_)); (focus (first | (simp only [zn_eq, flen] at *; omega) | omega)); (focus (first | (simp only [zn_eq, flen] at *; omega) | omega)); (focus (simp only [inK, zn_eq, flen] at *; omega)); try cbv)
    | ((with_reducible refine k_quo_pos hO ?_ ?_ (fun n hn => ?_)); (focus (first | (simp only [zn_eq, flen] at *; omega) | omega)); (focus (first | (simp only [zn_eq, flen] at *; omega) | omega)); try simp (disch := omega) only [wrap_i64, wrap_u8, wrap_u64, wrap_i32, wrap_u16, wrap_u32] at hn; try cbv)
    | ((with_reducible refine k_not hO ?_); try cbv)
    | ((with_reducible refine o_ble hO ?_ ?_); (focus (first | assumption | exact Nat.le_refl _ | exact Nat.zero_le _ | (simp only [zn_eq, flen] at *; omega) | omega | decide | (simp; done) | (simp; omega) | (simp_all; done) | (simp_all [zn_eq]; omega))); try cbv)
    | ((with_reducible refine o_cut hO ?_ ?_ ?_); (focus (first | assumption | exact Nat.le_refl _ | exact Nat.zero_le _ | (simp only [zn_eq, flen] at *; omega) | omega | decide | (simp; done) | (simp; omega) | (simp_all; done) | (simp_all [zn_eq]; omega))); (focus (first | assumption | exact Nat.le_refl _ | exact Nat.zero_le _ | (simp only [zn_eq, flen] at *; omega) | omega | decide | (simp; done) | (simp; omega) | (simp_all; done) | (simp_all [zn_eq]; omega))); try cbv)
    | ((with_reducible refine o_room hO ?_ ?_ ?_); (focus (first | exact Or.inl rfl | (simp; done))); (focus (first | assumption | exact Nat.le_refl _ | exact Nat.zero_le _ | (simp only [zn_eq, flen] at *; omega) | omega | decide | (simp; done) | (simp; omega) | (simp_all; done) | (simp_all [zn_eq]; omega))); try cbv)
    | ((with_reducible refine o_nat_l hO ?_); try cbv)
    | ((with_reducible refine o_nat hO ?_ (fun j hj => ?_)); (focus (first | (simp only [zn_eq, flen] at *; omega) | omega)); try cbv)
    | ((with_reducible refine o_at_l hO ?_ ?_); (focus (first | assumption | exact Nat.le_refl _ | exact Nat.zero_le _ | (simp only [zn_eq, flen] at *; omega) | omega | decide | (simp; done) | (simp; omega) | (simp_all; done) | (simp_all [zn_eq]; omega))); try cbv)
    | ((with_reducible refine o_at hO ?_ ?_ (fun j hj => ?_)); (focus (first | (simp only [zn_eq, flen] at *; omega) | omega)); (focus (first | assumption | exact Nat.le_refl _ | exact Nat.zero_le _ | (simp only [zn_eq, flen] at *; omega) | omega | decide | (simp; done) | (simp; omega) | (simp_all; done) | (simp_all [zn_eq]; omega))); try cbv)
    | ((with_reducible apply o_len_l hO); (focus decide); try cbv)
    | ((with_reducible refine o_len hO (fun n hn => ?_)); try cbv)
    | ((with_reducible refine o_mk hO ?_ ?_ ?_ ?_ (fun j hj => ?_)); (focus (first | assumption | exact Nat.le_refl _ | exact Nat.zero_le _ | (simp only [zn_eq, flen] at *; omega) | omega | decide | (simp; done) | (simp; omega) | (simp_all; done) | (simp_all [zn_eq]; omega))); (focus (first | (simp only [zn_eq, flen] at *; omega) | omega)); (focus (first | (simp only [zn_eq, flen] at *; omega) | omega)); (focus (first | assumption | exact Nat.le_refl _ | exact Nat.zero_le _ | (simp only [zn_eq, flen] at *; omega) | omega | decide | (simp; done) | (simp; omega) | (simp_all; done) | (simp_all [zn_eq]; omega))); try cbv)
    | ((with_reducible refine o_empty hO ?_ ?_); (focus (first | rfl | assumption)); try cbv)
    | ((with_reducible apply o_elem_l hO); (focus (first | assumption | rfl | (simp; done))); try cbv)
    | ((with_reducible apply o_elem hO); (focus assumption); (focus assumption); try cbv)
    | ((with_reducible apply o_get hO); (focus (first | assumption | rfl | (simp; done))); try cbv)
    | ((with_reducible refine o_guard hO ?_ ?_); (focus (first | decide +kernel | (simp; done))); try cbv))
  all_goals (first | exact ⟨trivial, trivial⟩ | trace_state)

set_option maxHeartbeats 2000000 in
theorem stmt3 (k : Int) (nm : ByteArray) (er : List (List PV)) (cnt : Int) (br lr : List (List PV)) (a : Int) (cs v0 v1 : ByteArray) (bt et : List UInt8) (he : Bool) (d : Nat) (l : List UInt8)
    (hd : d ≤ 1000) (hv0 : SemCall P04 33 [.p (.agg (smC' k nm er cnt br lr a)), vi 0] [] (one (.v (.string v0)))) (hv1 : SemCall P04 33 [.p (.agg (smC' k nm er cnt br lr a)), vi 1] [] (one (.v (.string v1))))
    (hc : SemCall P04 23 [vi cnt] [] (one (.v (.string cs))))
    (hb : ∀ n, n = zn d + 1 → ∀ l : List UInt8, (l ++ bt).length ≤ 140737488355328 → SemCall P04 12 [.ptr 0 0 0, .p (.sl 7 br), vi n] (bldO (bRows l)) (bldR (bRows (l ++ bt))))
    (hel : ∀ n, n = zn d + 1 → ∀ l : List UInt8, (l ++ et).length ≤ 140737488355328 → SemCall P04 12 [.ptr 0 0 0, .p (.sl 7 lr), vi n] (bldO (bRows l)) (bldR (bRows (l ++ et))))
    (hhe : he = decide (lr ≠ []))
    (hr : (l ++ stT d k nm cs v0 v1 bt et he).length ≤ 140737488355328) (hk : k = 3) :
    SemCall P04 24 [.ptr 0 0 0, .p (.agg (smC' k nm er cnt br lr a)), vi (zn d)] (bldO (bRows l)) (bldR (bRows (l ++ stT d k nm cs v0 v1 bt et he))) := by
  subst hk
  have hdz : 0 ≤ zn d ∧ zn d ≤ 1000 := by rw [zn_eq]; omega
  have e : stT d 3 nm cs v0 v1 bt et he = (((lineB d [sb [105, 102, 32, 40], v0, sb [41, 32, 123]] ++ bt) ++ (if he = true then lineB d [sb [125, 32, 101, 108, 115, 101, 32, 123]] ++ et else [])) ++ lineB d [sb [125]]) := rfl
  rw [e] at hr ⊢
  have hr1 : (l ++ lineB d [sb [105, 102, 32, 40], v0, sb [41, 32, 123]]).length ≤ 140737488355328 := by simp only [List.length_append] at hr ⊢; omega
  have hr2 : ((l ++ lineB d [sb [105, 102, 32, 40], v0, sb [41, 32, 123]]) ++ bt).length ≤ 140737488355328 := by simp only [List.length_append] at hr ⊢; omega
  have hl1 := line_named l d _ hd (by simp) hr1
  have hl2 := fun n hn => hb n hn _ hr2
  cases lr with
  | nil =>
    obtain rfl : he = false := by rw [hhe]; rfl
    have hr3 : (((l ++ lineB d [sb [105, 102, 32, 40], v0, sb [41, 32, 123]]) ++ bt) ++ lineB d [sb [125]]).length ≤ 140737488355328 := by simp only [List.length_append] at hr ⊢; omega
    have hl3 := line_named _ d _ hd (by simp) hr3
    have eq : l ++ ((lineB d [sb [105, 102, 32, 40], v0, sb [41, 32, 123]] ++ bt) ++ (if false = true then lineB d [sb [125, 32, 101, 108, 115, 101, 32, 123]] ++ et else []) ++ lineB d [sb [125]]) = ((l ++ lineB d [sb [105, 102, 32, 40], v0, sb [41, 32, 123]]) ++ bt) ++ lineB d [sb [125]] := by simp only [Bool.false_eq_true, if_false, List.append_nil, List.append_assoc]
    rw [eq]
    simp only [strRows, List.map_cons, List.map_nil, sb] at hl1 hl3
    simp only [sb] at hl2 ⊢
    clear hb hel hhe e hr hr1 hr2 hr3 eq
    generalize zn d = dd at *
    have hdd : 0 ≤ dd ∧ dd ≤ 1000 := hdz
    generalize hq3 : bRows (l ++ lineB d [⟨⟨[105, 102, 32, 40]⟩⟩, v0, ⟨⟨[41, 32, 123]⟩⟩] ++ bt ++ lineB d [⟨⟨[125]⟩⟩]) = q3 at *
    generalize hq2 : bRows (l ++ lineB d [⟨⟨[105, 102, 32, 40]⟩⟩, v0, ⟨⟨[41, 32, 123]⟩⟩] ++ bt) = q2 at *
    generalize hq1 : bRows (l ++ lineB d [⟨⟨[105, 102, 32, 40]⟩⟩, v0, ⟨⟨[41, 32, 123]⟩⟩]) = q1 at *
    generalize bRows l = q0 at *
    clear hq1 hq2 hq3
    refine semCall_of_prop (fn := Tryd.f24) (T := tab) tabOk mixed04 (by rfl) (by rfl) (by kernel_rfl) ?_
    intro Q O F hQ hO hF
    have flen := lofLen hF
    have ftake := lofTake hF
    have fdrop := lofDrop hF
    have fapp := lofApp hF
    have fset := lofSet hF
    have fbytes := lofBytes hF
    have frep := lofRep hF
    unfold Tryd.f24
    cbv
    repeat' (first
      | (with_reducible refine o_call hO hQ hv0 ?_); try cbv
      | (with_reducible refine o_call hO hQ hl1 ?_); try cbv
      | (with_reducible refine o_call hO hQ (hl2 _ (by assumption)) ?_); try cbv
      | (with_reducible refine o_call hO hQ hl3 ?_); try cbv
      | ((with_reducible refine k_eql_t hO ?_ ?_); (focus (first | assumption | (simp only [zn_eq, flen] at *; omega) | omega)); try cbv)
      | ((with_reducible refine k_eql_f hO ?_ ?_); (focus (first | assumption | (simp only [zn_eq, flen] at *; omega) | omega)); try cbv)
      | ((with_reducible refine k_eql hO (fun h => ?_) (fun h => ?_)) <;> try cbv)
      | ((with_reducible refine k_neq_t hO ?_ ?_); (focus (first | assumption | (simp only [zn_eq, flen] at *; omega) | omega)); try cbv)
      | ((with_reducible refine k_neq_f hO ?_ ?_); (focus (first | assumption | (simp only [zn_eq, flen] at *; omega) | omega)); try cbv)
      | ((with_reducible refine k_neq hO (fun h => ?_) (fun h => ?_)) <;> try cbv)
      | ((with_reducible refine k_lss_t hO ?_ ?_); (focus (first | assumption | (simp only [zn_eq, flen] at *; omega) | omega)); try cbv)
      | ((with_reducible refine k_lss_f hO ?_ ?_); (focus (first | assumption | (simp only [zn_eq, flen] at *; omega) | omega)); try cbv)
      | ((with_reducible refine k_lss hO (fun h => ?_) (fun h => ?_)) <;> try cbv)
      | ((with_reducible refine k_leq_t hO ?_ ?_); (focus (first | assumption | (simp only [zn_eq, flen] at *; omega) | omega)); try cbv)
      | ((with_reducible refine k_leq_f hO ?_ ?_); (focus (first | assumption | (simp only [zn_eq, flen] at *; omega) | omega)); try cbv)
      | ((with_reducible refine k_leq hO (fun h => ?_) (fun h => ?_)) <;> try cbv)
      | ((with_reducible refine k_gtr_t hO ?_ ?_); (focus (first | assumption | (simp only [zn_eq, flen] at *; omega) | omega)); try cbv)
      | ((with_reducible refine k_gtr_f hO ?_ ?_); (focus (first | assumption | (simp only [zn_eq, flen] at *; omega) | omega)); try cbv)
      | ((with_reducible refine k_gtr hO (fun h => ?_) (fun h => ?_)) <;> try cbv)
      | ((with_reducible refine k_geq_t hO ?_ ?_); (focus (first | assumption | (simp only [zn_eq, flen] at *; omega) | omega)); try cbv)
      | ((with_reducible refine k_geq_f hO ?_ ?_); (focus (first | assumption | (simp only [zn_eq, flen] at *; omega) | omega)); try cbv)
      | ((with_reducible refine k_geq hO (fun h => ?_) (fun h => ?_)) <;> try cbv)
      | ((with_reducible refine k_add_l hO ?_ ?_); (focus decide); try cbv)
      | ((with_reducible refine k_add_in hO ?_ (fun n hn => ?_)); (focus (simp only [inK, zn_eq, flen] at *; omega)); try cbv)
      | ((with_reducible refine k_add hO (fun n hn => ?_)); try cbv)
      | ((with_reducible refine k_sub_l hO ?_ ?_); (focus decide); try cbv)
      | ((with_reducible refine k_sub_in hO ?_ (fun n hn => ?_)); (focus (simp only [inK, zn_eq, flen] at *; omega)); try cbv)
      | ((with_reducible refine k_sub hO (fun n hn => ?_)); try cbv)
      | ((with_reducible refine k_mul_l hO ?_ ?_); (focus decide); try cbv)
      | ((with_reducible refine k_mul_in hO ?_ (fun n hn => ?_)); (focus (simp only [inK, zn_eq, flen] at *; omega)); try cbv)
      | ((with_reducible refine k_mul hO (fun n hn => ?_)); try cbv)
      | ((with_reducible refine k_seql_t hO ?_ ?_); (focus (first | assumption | rfl | (simp; done))); try cbv)
      | ((with_reducible refine k_seql_f hO ?_ ?_); (focus (first | assumption | decide | (simp; done))); try cbv)
      | ((with_reducible refine k_seql hO (fun h => ?_) (fun h => ?_)) <;> try cbv)
      | ((with_reducible refine k_sneq_t hO ?_ ?_); (focus (first | assumption | rfl | (simp; done))); try cbv)
      | ((with_reducible refine k_sneq_f hO ?_ ?_); (focus (first | assumption | decide | (simp; done))); try cbv)
      | ((with_reducible refine k_sneq hO (fun h => ?_) (fun h => ?_)) <;> try cbv)
      | ((with_reducible refine k_slen hO ?_ (fun n hn => ?_)); (focus (exact undOk hQ rfl)); try cbv)
      | ((with_reducible refine k_sadd hO ?_ (fun s hs hz => ?_)); (focus (first | omega | assumption | (simp only [size_lit, List.length_cons, List.length_nil] at *; omega) | (simp_all; done) | (simp_all; omega))); (try simp only [size_lit, List.length_cons, List.length_nil, Nat.reduceAdd] at hz); (try cbv))
      | ((with_reducible apply k_conv_in hO); (focus (exact undOk hQ rfl)); (focus (exact undOk hQ rfl)); (focus (simp only [inK, zn_eq, flen] at *; omega)); try cbv)
      | ((with_reducible apply k_rune hO); (focus (exact undOk hQ rfl)); (focus (exact undOk hQ rfl)); intro s hs; try cbv)
      | ((with_reducible apply k_sidx hO); (focus (exact undOk hQ rfl)); (focus assumption); (focus assumption); intro n hn; try cbv)
      | ((with_reducible refine k_min hO (fun n hn1 hn2 hn3 => ?_)); try cbv)
      | ((with_reducible refine k_max hO (fun n hn1 hn2 hn3 => ?_)); try cbv)
      | ((with_reducible refine k_rem_pos hO ?_ ?_ (fun n hn => ?_)); (focus (first | (simp only [zn_eq, flen] at *; omega) | omega)); (focus (first | (simp only [zn_eq, flen] at *; omega) | omega)); try cbv)
      | ((with_reducible refine k_rem hO ?_ (fun n hn => ?_)); (focus (first | (simp only [zn_eq, flen] at *; omega) | omega)); try cbv)
      | ((with_reducible refine k_quo_in hO ?_ ?_ ?_ (fun n hn => ?_)); (focus (first | (simp only [zn_eq, flen] at *; omega) | omega)); (focus (first | (simp only [zn_eq, flen] at *; omega) | omega)); (focus (simp only [inK, zn_eq, flen] at *; omega)); try cbv)
      | ((with_reducible refine k_quo_pos hO ?_ ?_ (fun n hn => ?_)); (focus (first | (simp only [zn_eq, flen] at *; omega) | omega)); (focus (first | (simp only [zn_eq, flen] at *; omega) | omega)); try simp (disch := omega) only [wrap_i64, wrap_u8, wrap_u64, wrap_i32, wrap_u16, wrap_u32] at hn; try cbv)
      | ((with_reducible refine k_not hO ?_); try cbv)
      | ((with_reducible refine o_ble hO ?_ ?_); (focus (first | assumption | exact Nat.le_refl _ | exact Nat.zero_le _ | (simp only [zn_eq, flen] at *; omega) | omega | decide | (simp; done) | (simp; omega) | (simp_all; done) | (simp_all [zn_eq]; omega))); try cbv)
      | ((with_reducible refine o_cut hO ?_ ?_ ?_); (focus (first | assumption | exact Nat.le_refl _ | exact Nat.zero_le _ | (simp only [zn_eq, flen] at *; omega) | omega | decide | (simp; done) | (simp; omega) | (simp_all; done) | (simp_all [zn_eq]; omega))); (focus (first | assumption | exact Nat.le_refl _ | exact Nat.zero_le _ | (simp only [zn_eq, flen] at *; omega) | omega | decide | (simp; done) | (simp; omega) | (simp_all; done) | (simp_all [zn_eq]; omega))); try cbv)
      | ((with_reducible refine o_room hO ?_ ?_ ?_); (focus (first | exact Or.inl rfl | (simp; done))); (focus (first | assumption | exact Nat.le_refl _ | exact Nat.zero_le _ | (simp only [zn_eq, flen] at *; omega) | omega | decide | (simp; done) | (simp; omega) | (simp_all; done) | (simp_all [zn_eq]; omega))); try cbv)
      | ((with_reducible refine o_nat_l hO ?_); try cbv)
      | ((with_reducible refine o_nat hO ?_ (fun j hj => ?_)); (focus (first | (simp only [zn_eq, flen] at *; omega) | omega)); try cbv)
      | ((with_reducible refine o_at_l hO ?_ ?_); (focus (first | assumption | exact Nat.le_refl _ | exact Nat.zero_le _ | (simp only [zn_eq, flen] at *; omega) | omega | decide | (simp; done) | (simp; omega) | (simp_all; done) | (simp_all [zn_eq]; omega))); try cbv)
      | ((with_reducible refine o_at hO ?_ ?_ (fun j hj => ?_)); (focus (first | (simp only [zn_eq, flen] at *; omega) | omega)); (focus (first | assumption | exact Nat.le_refl _ | exact Nat.zero_le _ | (simp only [zn_eq, flen] at *; omega) | omega | decide | (simp; done) | (simp; omega) | (simp_all; done) | (simp_all [zn_eq]; omega))); try cbv)
      | ((with_reducible apply o_len_l hO); (focus decide); try cbv)
      | ((with_reducible refine o_len hO (fun n hn => ?_)); try cbv)
      | ((with_reducible refine o_mk hO ?_ ?_ ?_ ?_ (fun j hj => ?_)); (focus (first | assumption | exact Nat.le_refl _ | exact Nat.zero_le _ | (simp only [zn_eq, flen] at *; omega) | omega | decide | (simp; done) | (simp; omega) | (simp_all; done) | (simp_all [zn_eq]; omega))); (focus (first | (simp only [zn_eq, flen] at *; omega) | omega)); (focus (first | (simp only [zn_eq, flen] at *; omega) | omega)); (focus (first | assumption | exact Nat.le_refl _ | exact Nat.zero_le _ | (simp only [zn_eq, flen] at *; omega) | omega | decide | (simp; done) | (simp; omega) | (simp_all; done) | (simp_all [zn_eq]; omega))); try cbv)
      | ((with_reducible refine o_empty hO ?_ ?_); (focus (first | rfl | assumption)); try cbv)
      | ((with_reducible apply o_elem_l hO); (focus (first | assumption | rfl | (simp; done))); try cbv)
      | ((with_reducible apply o_elem hO); (focus assumption); (focus assumption); try cbv)
      | ((with_reducible apply o_get hO); (focus (first | assumption | rfl | (simp; done))); try cbv)
      | ((with_reducible refine o_guard hO ?_ ?_); (focus (first | decide +kernel | (simp; done))); try cbv))
    all_goals (first | exact ⟨trivial, trivial⟩ | (exfalso; simp only [zn_eq, flen, List.length_nil] at *; omega) | trace_state)
  | cons x lr =>
    obtain rfl : he = true := by rw [hhe]; rfl
    have hr3 : (((l ++ lineB d [sb [105, 102, 32, 40], v0, sb [41, 32, 123]]) ++ bt) ++ lineB d [sb [125, 32, 101, 108, 115, 101, 32, 123]]).length ≤ 140737488355328 := by simp only [List.length_append, if_true] at hr ⊢; omega
    have hl3 := line_named _ d _ hd (by simp) hr3
    have hr4 : ((((l ++ lineB d [sb [105, 102, 32, 40], v0, sb [41, 32, 123]]) ++ bt) ++ lineB d [sb [125, 32, 101, 108, 115, 101, 32, 123]]) ++ et).length ≤ 140737488355328 := by simp only [List.length_append, if_true] at hr ⊢; omega
    have hl4 := fun n hn => hel n hn _ hr4
    have hr5 : (((((l ++ lineB d [sb [105, 102, 32, 40], v0, sb [41, 32, 123]]) ++ bt) ++ lineB d [sb [125, 32, 101, 108, 115, 101, 32, 123]]) ++ et) ++ lineB d [sb [125]]).length ≤ 140737488355328 := by simp only [List.length_append, if_true] at hr ⊢; omega
    have hl5 := line_named _ d _ hd (by simp) hr5
    have eq : l ++ ((lineB d [sb [105, 102, 32, 40], v0, sb [41, 32, 123]] ++ bt) ++ (if true = true then lineB d [sb [125, 32, 101, 108, 115, 101, 32, 123]] ++ et else []) ++ lineB d [sb [125]]) = ((((l ++ lineB d [sb [105, 102, 32, 40], v0, sb [41, 32, 123]]) ++ bt) ++ lineB d [sb [125, 32, 101, 108, 115, 101, 32, 123]]) ++ et) ++ lineB d [sb [125]] := by simp only [if_true, List.append_assoc]
    rw [eq]
    simp only [strRows, List.map_cons, List.map_nil, sb] at hl1 hl3 hl5
    simp only [sb] at hl2 hl4 ⊢
    clear hb hel hhe e hr hr1 hr2 hr3 hr4 hr5 eq
    generalize zn d = dd at *
    have hdd : 0 ≤ dd ∧ dd ≤ 1000 := hdz
    have hxl : 0 < (x :: lr).length := by simp
    generalize x :: lr = xs at *
    generalize hq5 : bRows (l ++ lineB d [⟨⟨[105, 102, 32, 40]⟩⟩, v0, ⟨⟨[41, 32, 123]⟩⟩] ++ bt ++ lineB d [⟨⟨[125, 32, 101, 108, 115, 101, 32, 123]⟩⟩] ++ et ++ lineB d [⟨⟨[125]⟩⟩]) = q5 at *
    generalize hq4 : bRows (l ++ lineB d [⟨⟨[105, 102, 32, 40]⟩⟩, v0, ⟨⟨[41, 32, 123]⟩⟩] ++ bt ++ lineB d [⟨⟨[125, 32, 101, 108, 115, 101, 32, 123]⟩⟩] ++ et) = q4 at *
    generalize hq3 : bRows (l ++ lineB d [⟨⟨[105, 102, 32, 40]⟩⟩, v0, ⟨⟨[41, 32, 123]⟩⟩] ++ bt ++ lineB d [⟨⟨[125, 32, 101, 108, 115, 101, 32, 123]⟩⟩]) = q3 at *
    generalize hq2 : bRows (l ++ lineB d [⟨⟨[105, 102, 32, 40]⟩⟩, v0, ⟨⟨[41, 32, 123]⟩⟩] ++ bt) = q2 at *
    generalize hq1 : bRows (l ++ lineB d [⟨⟨[105, 102, 32, 40]⟩⟩, v0, ⟨⟨[41, 32, 123]⟩⟩]) = q1 at *
    generalize bRows l = q0 at *
    clear hq1 hq2 hq3 hq4 hq5
    refine semCall_of_prop (fn := Tryd.f24) (T := tab) tabOk mixed04 (by rfl) (by rfl) (by kernel_rfl) ?_
    intro Q O F hQ hO hF
    have flen := lofLen hF
    have ftake := lofTake hF
    have fdrop := lofDrop hF
    have fapp := lofApp hF
    have fset := lofSet hF
    have fbytes := lofBytes hF
    have frep := lofRep hF
    unfold Tryd.f24
    cbv
    repeat' (first
      | (with_reducible refine o_call hO hQ hv0 ?_); try cbv
      | (with_reducible refine o_call hO hQ hl1 ?_); try cbv
      | (with_reducible refine o_call hO hQ (hl2 _ (by assumption)) ?_); try cbv
      | (with_reducible refine o_call hO hQ hl3 ?_); try cbv
      | (with_reducible refine o_call hO hQ (hl4 _ (by assumption)) ?_); try cbv
      | (with_reducible refine o_call hO hQ hl5 ?_); try cbv
      | ((with_reducible refine k_eql_t hO ?_ ?_); (focus (first | assumption | (simp only [zn_eq, flen] at *; omega) | omega)); try cbv)
      | ((with_reducible refine k_eql_f hO ?_ ?_); (focus (first | assumption | (simp only [zn_eq, flen] at *; omega) | omega)); try cbv)
      | ((with_reducible refine k_eql hO (fun h => ?_) (fun h => ?_)) <;> try cbv)
      | ((with_reducible refine k_neq_t hO ?_ ?_); (focus (first | assumption | (simp only [zn_eq, flen] at *; omega) | omega)); try cbv)
      | ((with_reducible refine k_neq_f hO ?_ ?_); (focus (first | assumption | (simp only [zn_eq, flen] at *; omega) | omega)); try cbv)
      | ((with_reducible refine k_neq hO (fun h => ?_) (fun h => ?_)) <;> try cbv)
      | ((with_reducible refine k_lss_t hO ?_ ?_); (focus (first | assumption | (simp only [zn_eq, flen] at *; omega) | omega)); try cbv)
      | ((with_reducible refine k_lss_f hO ?_ ?_); (focus (first | assumption | (simp only [zn_eq, flen] at *; omega) | omega)); try cbv)
      | ((with_reducible refine k_lss hO (fun h => ?_) (fun h => ?_)) <;> try cbv)
      | ((with_reducible refine k_leq_t hO ?_ ?_); (focus (first | assumption | (simp only [zn_eq, flen] at *; omega) | omega)); try cbv)
      | ((with_reducible refine k_leq_f hO ?_ ?_); (focus (first | assumption | (simp only [zn_eq, flen] at *; omega) | omega)); try cbv)
      | ((with_reducible refine k_leq hO (fun h => ?_) (fun h => ?_)) <;> try cbv)
      | ((with_reducible refine k_gtr_t hO ?_ ?_); (focus (first | assumption | (simp only [zn_eq, flen] at *; omega) | omega)); try cbv)
      | ((with_reducible refine k_gtr_f hO ?_ ?_); (focus (first | assumption | (simp only [zn_eq, flen] at *; omega) | omega)); try cbv)
      | ((with_reducible refine k_gtr hO (fun h => ?_) (fun h => ?_)) <;> try cbv)
      | ((with_reducible refine k_geq_t hO ?_ ?_); (focus (first | assumption | (simp only [zn_eq, flen] at *; omega) | omega)); try cbv)
      | ((with_reducible refine k_geq_f hO ?_ ?_); (focus (first | assumption | (simp only [zn_eq, flen] at *; omega) | omega)); try cbv)
      | ((with_reducible refine k_geq hO (fun h => ?_) (fun h => ?_)) <;> try cbv)
      | ((with_reducible refine k_add_l hO ?_ ?_); (focus decide); try cbv)
      | ((with_reducible refine k_add_in hO ?_ (fun n hn => ?_)); (focus (simp only [inK, zn_eq, flen] at *; omega)); try cbv)
      | ((with_reducible refine k_add hO (fun n hn => ?_)); try cbv)
      | ((with_reducible refine k_sub_l hO ?_ ?_); (focus decide); try cbv)
      | ((with_reducible refine k_sub_in hO ?_ (fun n hn => ?_)); (focus (simp only [inK, zn_eq, flen] at *; omega)); try cbv)
      | ((with_reducible refine k_sub hO (fun n hn => ?_)); try cbv)
      | ((with_reducible refine k_mul_l hO ?_ ?_); (focus decide); try cbv)
      | ((with_reducible refine k_mul_in hO ?_ (fun n hn => ?_)); (focus (simp only [inK, zn_eq, flen] at *; omega)); try cbv)
      | ((with_reducible refine k_mul hO (fun n hn => ?_)); try cbv)
      | ((with_reducible refine k_seql_t hO ?_ ?_); (focus (first | assumption | rfl | (simp; done))); try cbv)
      | ((with_reducible refine k_seql_f hO ?_ ?_); (focus (first | assumption | decide | (simp; done))); try cbv)
      | ((with_reducible refine k_seql hO (fun h => ?_) (fun h => ?_)) <;> try cbv)
      | ((with_reducible refine k_sneq_t hO ?_ ?_); (focus (first | assumption | rfl | (simp; done))); try cbv)
      | ((with_reducible refine k_sneq_f hO ?_ ?_); (focus (first | assumption | decide | (simp; done))); try cbv)
      | ((with_reducible refine k_sneq hO (fun h => ?_) (fun h => ?_)) <;> try cbv)
      | ((with_reducible refine k_slen hO ?_ (fun n hn => ?_)); (focus (exact undOk hQ rfl)); try cbv)
      | ((with_reducible refine k_sadd hO ?_ (fun s hs hz => ?_)); (focus (first | omega | assumption | (simp only [size_lit, List.length_cons, List.length_nil] at *; omega) | (simp_all; done) | (simp_all; omega))); (try simp only [size_lit, List.length_cons, List.length_nil, Nat.reduceAdd] at hz); (try cbv))
      | ((with_reducible apply k_conv_in hO); (focus (exact undOk hQ rfl)); (focus (exact undOk hQ rfl)); (focus (simp only [inK, zn_eq, flen] at *; omega)); try cbv)
      | ((with_reducible apply k_rune hO); (focus (exact undOk hQ rfl)); (focus (exact undOk hQ rfl)); intro s hs; try cbv)
      | ((with_reducible apply k_sidx hO); (focus (exact undOk hQ rfl)); (focus assumption); (focus assumption); intro n hn; try cbv)
      | ((with_reducible refine k_min hO (fun n hn1 hn2 hn3 => ?_)); try cbv)
      | ((with_reducible refine k_max hO (fun n hn1 hn2 hn3 => ?_)); try cbv)
      | ((with_reducible refine k_rem_pos hO ?_ ?_ (fun n hn => ?_)); (focus (first | (simp only [zn_eq, flen] at *; omega) | omega)); (focus (first | (simp only [zn_eq, flen] at *; omega) | omega)); try cbv)
      | ((with_reducible refine k_rem hO ?_ (fun n hn => ?_)); (focus (first | (simp only [zn_eq, flen] at *; omega) | omega)); try cbv)
      | ((with_reducible refine k_quo_in hO ?_ ?_ ?_ (fun n hn => ?_)); (focus (first | (simp only [zn_eq, flen] at *; omega) | omega)); (focus (first | (simp only [zn_eq, flen] at *; omega) | omega)); (focus (simp only [inK, zn_eq, flen] at *; omega)); try cbv)
      | ((with_reducible refine k_quo_pos hO ?_ ?_ (fun n hn => ?_)); (focus (first | (simp only [zn_eq, flen] at *; omega) | omega)); (focus (first | (simp only [zn_eq, flen] at *; omega) | omega)); try simp (disch := omega) only [wrap_i64, wrap_u8, wrap_u64, wrap_i32, wrap_u16, wrap_u32] at hn; try cbv)
      | ((with_reducible refine k_not hO ?_); try cbv)
      | ((with_reducible refine o_ble hO ?_ ?_); (focus (first | assumption | exact Nat.le_refl _ | exact Nat.zero_le _ | (simp only [zn_eq, flen] at *; omega) | omega | decide | (simp; done) | (simp; omega) | (simp_all; done) | (simp_all [zn_eq]; omega))); try cbv)
      | ((with_reducible refine o_cut hO ?_ ?_ ?_); (focus (first | assumption | exact Nat.le_refl _ | exact Nat.zero_le _ | (simp only [zn_eq, flen] at *; omega) | omega | decide | (simp; done) | (simp; omega) | (simp_all; done) | (simp_all [zn_eq]; omega))); (focus (first | assumption | exact Nat.le_refl _ | exact Nat.zero_le _ | (simp only [zn_eq, flen] at *; omega) | omega | decide | (simp; done) | (simp; omega) | (simp_all; done) | (simp_all [zn_eq]; omega))); try cbv)
      | ((with_reducible refine o_room hO ?_ ?_ ?_); (focus (first | exact Or.inl rfl | (simp; done))); (focus (first | assumption | exact Nat.le_refl _ | exact Nat.zero_le _ | (simp only [zn_eq, flen] at *; omega) | omega | decide | (simp; done) | (simp; omega) | (simp_all; done) | (simp_all [zn_eq]; omega))); try cbv)
      | ((with_reducible refine o_nat_l hO ?_); try cbv)
      | ((with_reducible refine o_nat hO ?_ (fun j hj => ?_)); (focus (first | (simp only [zn_eq, flen] at *; omega) | omega)); try cbv)
      | ((with_reducible refine o_at_l hO ?_ ?_); (focus (first | assumption | exact Nat.le_refl _ | exact Nat.zero_le _ | (simp only [zn_eq, flen] at *; omega) | omega | decide | (simp; done) | (simp; omega) | (simp_all; done) | (simp_all [zn_eq]; omega))); try cbv)
      | ((with_reducible refine o_at hO ?_ ?_ (fun j hj => ?_)); (focus (first | (simp only [zn_eq, flen] at *; omega) | omega)); (focus (first | assumption | exact Nat.le_refl _ | exact Nat.zero_le _ | (simp only [zn_eq, flen] at *; omega) | omega | decide | (simp; done) | (simp; omega) | (simp_all; done) | (simp_all [zn_eq]; omega))); try cbv)
      | ((with_reducible apply o_len_l hO); (focus decide); try cbv)
      | ((with_reducible refine o_len hO (fun n hn => ?_)); try cbv)
      | ((with_reducible refine o_mk hO ?_ ?_ ?_ ?_ (fun j hj => ?_)); (focus (first | assumption | exact Nat.le_refl _ | exact Nat.zero_le _ | (simp only [zn_eq, flen] at *; omega) | omega | decide | (simp; done) | (simp; omega) | (simp_all; done) | (simp_all [zn_eq]; omega))); (focus (first | (simp only [zn_eq, flen] at *; omega) | omega)); (focus (first | (simp only [zn_eq, flen] at *; omega) | omega)); (focus (first | assumption | exact Nat.le_refl _ | exact Nat.zero_le _ | (simp only [zn_eq, flen] at *; omega) | omega | decide | (simp; done) | (simp; omega) | (simp_all; done) | (simp_all [zn_eq]; omega))); try cbv)
      | ((with_reducible refine o_empty hO ?_ ?_); (focus (first | rfl | assumption)); try cbv)
      | ((with_reducible apply o_elem_l hO); (focus (first | assumption | rfl | (simp; done))); try cbv)
      | ((with_reducible apply o_elem hO); (focus assumption); (focus assumption); try cbv)
      | ((with_reducible apply o_get hO); (focus (first | assumption | rfl | (simp; done))); try cbv)
      | ((with_reducible refine o_guard hO ?_ ?_); (focus (first | decide +kernel | (simp; done))); try cbv))
    all_goals (first | exact ⟨trivial, trivial⟩ | (exfalso; simp only [zn_eq, flen] at *; omega) | trace_state)

set_option maxHeartbeats 2000000 in
theorem stmt4 (k : Int) (nm : ByteArray) (er : List (List PV)) (cnt : Int) (br lr : List (List PV)) (a : Int) (cs v0 v1 : ByteArray) (bt et : List UInt8) (he : Bool) (d : Nat) (l : List UInt8)
    (hd : d ≤ 1000) (hv0 : SemCall P04 33 [.p (.agg (smC' k nm er cnt br lr a)), vi 0] [] (one (.v (.string v0)))) (hv1 : SemCall P04 33 [.p (.agg (smC' k nm er cnt br lr a)), vi 1] [] (one (.v (.string v1))))
    (hc : SemCall P04 23 [vi cnt] [] (one (.v (.string cs))))
    (hb : ∀ n, n = zn d + 1 → ∀ l : List UInt8, (l ++ bt).length ≤ 140737488355328 → SemCall P04 12 [.ptr 0 0 0, .p (.sl 7 br), vi n] (bldO (bRows l)) (bldR (bRows (l ++ bt))))
    (hel : ∀ n, n = zn d + 1 → ∀ l : List UInt8, (l ++ et).length ≤ 140737488355328 → SemCall P04 12 [.ptr 0 0 0, .p (.sl 7 lr), vi n] (bldO (bRows l)) (bldR (bRows (l ++ et))))
    (hhe : he = decide (lr ≠ []))
    (hr : (l ++ stT d k nm cs v0 v1 bt et he).length ≤ 140737488355328) (hk : k = 4) :
    SemCall P04 24 [.ptr 0 0 0, .p (.agg (smC' k nm er cnt br lr a)), vi (zn d)] (bldO (bRows l)) (bldR (bRows (l ++ stT d k nm cs v0 v1 bt et he))) := by
  subst hk
  have hdz : 0 ≤ zn d ∧ zn d ≤ 1000 := by rw [zn_eq]; omega
  have e : stT d 4 nm cs v0 v1 bt et he = ((lineB d [sb [108, 111, 111, 112, 32], nm, sb [32], cs, sb [32, 123]] ++ bt) ++ lineB d [sb [125]]) := rfl
  rw [e] at hr ⊢
  have hr1 : (l ++ lineB d [sb [108, 111, 111, 112, 32], nm, sb [32], cs, sb [32, 123]]).length ≤ 140737488355328 := by simp only [List.length_append] at hr ⊢; omega
  have hr2 : ((l ++ lineB d [sb [108, 111, 111, 112, 32], nm, sb [32], cs, sb [32, 123]]) ++ bt).length ≤ 140737488355328 := by simp only [List.length_append] at hr ⊢; omega
  have hr3 : (((l ++ lineB d [sb [108, 111, 111, 112, 32], nm, sb [32], cs, sb [32, 123]]) ++ bt) ++ lineB d [sb [125]]).length ≤ 140737488355328 := by simp only [List.length_append] at hr ⊢; omega
  have hl1 := line_named l d _ hd (by simp) hr1
  have hl2 := fun n hn => hb n hn _ hr2
  have hl3 := line_named _ d _ hd (by simp) hr3
  have eq : l ++ ((lineB d [sb [108, 111, 111, 112, 32], nm, sb [32], cs, sb [32, 123]] ++ bt) ++ lineB d [sb [125]]) = ((l ++ lineB d [sb [108, 111, 111, 112, 32], nm, sb [32], cs, sb [32, 123]]) ++ bt) ++ lineB d [sb [125]] := by simp only [List.append_assoc]
  rw [eq]
  simp only [strRows, List.map_cons, List.map_nil, sb] at hl1 hl3
  simp only [sb] at hl2 ⊢
  clear hb hel hhe e hr hr1 hr2 hr3 eq
  generalize zn d = dd at *
  have hdd : 0 ≤ dd ∧ dd ≤ 1000 := hdz
  generalize hq3 : bRows (l ++ lineB d [⟨⟨[108, 111, 111, 112, 32]⟩⟩, nm, ⟨⟨[32]⟩⟩, cs, ⟨⟨[32, 123]⟩⟩] ++ bt ++ lineB d [⟨⟨[125]⟩⟩]) = q3 at *
  generalize hq2 : bRows (l ++ lineB d [⟨⟨[108, 111, 111, 112, 32]⟩⟩, nm, ⟨⟨[32]⟩⟩, cs, ⟨⟨[32, 123]⟩⟩] ++ bt) = q2 at *
  generalize hq1 : bRows (l ++ lineB d [⟨⟨[108, 111, 111, 112, 32]⟩⟩, nm, ⟨⟨[32]⟩⟩, cs, ⟨⟨[32, 123]⟩⟩]) = q1 at *
  generalize bRows l = q0 at *
  clear hq1 hq2 hq3
  refine semCall_of_prop (fn := Tryd.f24) (T := tab) tabOk mixed04 (by rfl) (by rfl) (by kernel_rfl) ?_
  intro Q O F hQ hO hF
  have flen := lofLen hF
  have ftake := lofTake hF
  have fdrop := lofDrop hF
  have fapp := lofApp hF
  have fset := lofSet hF
  have fbytes := lofBytes hF
  have frep := lofRep hF
  unfold Tryd.f24
  cbv
  repeat' (first
    | (with_reducible refine o_call hO hQ hc ?_); try cbv
    | (with_reducible refine o_call hO hQ hl1 ?_); try cbv
    | (with_reducible refine o_call hO hQ (hl2 _ (by assumption)) ?_); try cbv
    | (with_reducible refine o_call hO hQ hl3 ?_); try cbv
    | ((with_reducible refine k_eql_t hO ?_ ?_); (focus (first | assumption | (simp only [zn_eq, flen] at *; omega) | omega)); try cbv)
    | ((with_reducible refine k_eql_f hO ?_ ?_); (focus (first | assumption | (simp only [zn_eq, flen] at *; omega) | omega)); try cbv)
    | ((with_reducible refine k_eql hO (fun h => ?_) (fun h => ?_)) <;> try cbv)
    | ((with_reducible refine k_neq_t hO ?_ ?_); (focus (first | assumption | (simp only [zn_eq, flen] at *; omega) | omega)); try cbv)
    | ((with_reducible refine k_neq_f hO ?_ ?_); (focus (first | assumption | (simp only [zn_eq, flen] at *; omega) | omega)); try cbv)
    | ((with_reducible refine k_neq hO (fun h => ?_) (fun h => ?_)) <;> try cbv)
    | ((with_reducible refine k_lss_t hO ?_ ?_); (focus (first | assumption | (simp only [zn_eq, flen] at *; omega) | omega)); try cbv)
    | ((with_reducible refine k_lss_f hO ?_ ?_); (focus (first | assumption | (simp only [zn_eq, flen] at *; omega) | omega)); try cbv)
    | ((with_reducible refine k_lss hO (fun h => ?_) (fun h => ?_)) <;> try cbv)
    | ((with_reducible refine k_leq_t hO ?_ ?_); (focus (first | assumption | (simp only [zn_eq, flen] at *; omega) | omega)); try cbv)
    | ((with_reducible refine k_leq_f hO ?_ ?_); (focus (first | assumption | (simp only [zn_eq, flen] at *; omega) | omega)); try cbv)
    | ((with_reducible refine k_leq hO (fun h => ?_) (fun h => ?_)) <;> try cbv)
    | ((with_reducible refine k_gtr_t hO ?_ ?_); (focus (first | assumption | (simp only [zn_eq, flen] at *; omega) | omega)); try cbv)
    | ((with_reducible refine k_gtr_f hO ?_ ?_); (focus (first | assumption | (simp only [zn_eq, flen] at *; omega) | omega)); try cbv)
    | ((with_reducible refine k_gtr hO (fun h => ?_) (fun h => ?_)) <;> try cbv)
    | ((with_reducible refine k_geq_t hO ?_ ?_); (focus (first | assumption | (simp only [zn_eq, flen] at *; omega) | omega)); try cbv)
    | ((with_reducible refine k_geq_f hO ?_ ?_); (focus (first | assumption | (simp only [zn_eq, flen] at *; omega) | omega)); try cbv)
    | ((with_reducible refine k_geq hO (fun h => ?_) (fun h => ?_)) <;> try cbv)
    | ((with_reducible refine k_add_l hO ?_ ?_); (focus decide); try cbv)
    | ((with_reducible refine k_add_in hO ?_ (fun n hn => ?_)); (focus (simp only [inK, zn_eq, flen] at *; omega)); try cbv)
    | ((with_reducible refine k_add hO (fun n hn => ?_)); try cbv)
    | ((with_reducible refine k_sub_l hO ?_ ?_); (focus decide); try cbv)
    | ((with_reducible refine k_sub_in hO ?_ (fun n hn => ?_)); (focus (simp only [inK, zn_eq, flen] at *; omega)); try cbv)
    | ((with_reducible refine k_sub hO (fun n hn => ?_)); try cbv)
    | ((with_reducible refine k_mul_l hO ?_ ?_); (focus decide); try cbv)
    | ((with_reducible refine k_mul_in hO ?_ (fun n hn => ?_)); (focus (simp only [inK, zn_eq, flen] at *; omega)); try cbv)
    | ((with_reducible refine k_mul hO (fun n hn => ?_)); try cbv)
    | ((with_reducible refine k_seql_t hO ?_ ?_); (focus (first | assumption | rfl | (simp; done))); try cbv)
    | ((with_reducible refine k_seql_f hO ?_ ?_); (focus (first | assumption | decide | (simp; done))); try cbv)
    | ((with_reducible refine k_seql hO (fun h => ?_) (fun h => ?_)) <;> try cbv)
    | ((with_reducible refine k_sneq_t hO ?_ ?_); (focus (first | assumption | rfl | (simp; done))); try cbv)
    | ((with_reducible refine k_sneq_f hO ?_ ?_); (focus (first | assumption | decide | (simp; done))); try cbv)
    | ((with_reducible refine k_sneq hO (fun h => ?_) (fun h => ?_)) <;> try cbv)
    | ((with_reducible refine k_slen hO ?_ (fun n hn => ?_)); (focus (exact undOk hQ rfl)); try cbv)
    | ((with_reducible refine k_sadd hO ?_ (fun s hs hz => ?_)); (focus (first | omega | assumption | (simp only [size_lit, List.length_cons, List.length_nil] at *; omega) | (simp_all; done) | (simp_all; omega))); (try simp only [size_lit, List.length_cons, List.length_nil, Nat.reduceAdd] at hz); (try cbv))
    | ((with_reducible apply k_conv_in hO); (focus (exact undOk hQ rfl)); (focus (exact undOk hQ rfl)); (focus (simp only [inK, zn_eq, flen] at *; omega)); try cbv)
    | ((with_reducible apply k_rune hO); (focus (exact undOk hQ rfl)); (focus (exact undOk hQ rfl)); intro s hs; try cbv)
    | ((with_reducible apply k_sidx hO); (focus (exact undOk hQ rfl)); (focus assumption); (focus assumption); intro n hn; try cbv)
    | ((with_reducible refine k_min hO (fun n hn1 hn2 hn3 => ?_)); try cbv)
    | ((with_reducible refine k_max hO (fun n hn1 hn2 hn3 => ?_)); try cbv)
    | ((with_reducible refine k_rem_pos hO ?_ ?_ (fun n hn => ?_)); (focus (first | (simp only [zn_eq, flen] at *; omega) | omega)); (focus (first | (simp only [zn_eq, flen] at *; omega) | omega)); try cbv)
    | ((with_reducible refine k_rem hO ?_ (fun n hn => ?_)); (focus (first | (simp only [zn_eq, flen] at *; omega) | omega)); try cbv)
    | ((with_reducible refine k_quo_in hO ?_ ?_ ?_ (fun n hn => ?_)); (focus (first | (simp only [zn_eq, flen] at *; omega) | omega)); (focus (first | (simp only [zn_eq, flen] at *; omega) | omega)); (focus (simp only [inK, zn_eq, flen] at *; omega)); try cbv)
    | ((with_reducible refine k_quo_pos hO ?_ ?_ (fun n hn => ?_)); (focus (first | (simp only [zn_eq, flen] at *; omega) | omega)); (focus (first | (simp only [zn_eq, flen] at *; omega) | omega)); try simp (disch := omega) only [wrap_i64, wrap_u8, wrap_u64, wrap_i32, wrap_u16, wrap_u32] at hn; try cbv)
    | ((with_reducible refine k_not hO ?_); try cbv)
    | ((with_reducible refine o_ble hO ?_ ?_); (focus (first | assumption | exact Nat.le_refl _ | exact Nat.zero_le _ | (simp only [zn_eq, flen] at *; omega) | omega | decide | (simp; done) | (simp; omega) | (simp_all; done) | (simp_all [zn_eq]; omega))); try cbv)
    | ((with_reducible refine o_cut hO ?_ ?_ ?_); (focus (first | assumption | exact Nat.le_refl _ | exact Nat.zero_le _ | (simp only [zn_eq, flen] at *; omega) | omega | decide | (simp; done) | (simp; omega) | (simp_all; done) | (simp_all [zn_eq]; omega))); (focus (first | assumption | exact Nat.le_refl _ | exact Nat.zero_le _ | (simp only [zn_eq, flen] at *; omega) | omega | decide | (simp; done) | (simp; omega) | (simp_all; done) | (simp_all [zn_eq]; omega))); try cbv)
    | ((with_reducible refine o_room hO ?_ ?_ ?_); (focus (first | exact Or.inl rfl | (simp; done))); (focus (first | assumption | exact Nat.le_refl _ | exact Nat.zero_le _ | (simp only [zn_eq, flen] at *; omega) | omega | decide | (simp; done) | (simp; omega) | (simp_all; done) | (simp_all [zn_eq]; omega))); try cbv)
    | ((with_reducible refine o_nat_l hO ?_); try cbv)
    | ((with_reducible refine o_nat hO ?_ (fun j hj => ?_)); (focus (first | (simp only [zn_eq, flen] at *; omega) | omega)); try cbv)
    | ((with_reducible refine o_at_l hO ?_ ?_); (focus (first | assumption | exact Nat.le_refl _ | exact Nat.zero_le _ | (simp only [zn_eq, flen] at *; omega) | omega | decide | (simp; done) | (simp; omega) | (simp_all; done) | (simp_all [zn_eq]; omega))); try cbv)
    | ((with_reducible refine o_at hO ?_ ?_ (fun j hj => ?_)); (focus (first | (simp only [zn_eq, flen] at *; omega) | omega)); (focus (first | assumption | exact Nat.le_refl _ | exact Nat.zero_le _ | (simp only [zn_eq, flen] at *; omega) | omega | decide | (simp; done) | (simp; omega) | (simp_all; done) | (simp_all [zn_eq]; omega))); try cbv)
    | ((with_reducible apply o_len_l hO); (focus decide); try cbv)
    | ((with_reducible refine o_len hO (fun n hn => ?_)); try cbv)
    | ((with_reducible refine o_mk hO ?_ ?_ ?_ ?_ (fun j hj => ?_)); (focus (first | assumption | exact Nat.le_refl _ | exact Nat.zero_le _ | (simp only [zn_eq, flen] at *; omega) | omega | decide | (simp; done) | (simp; omega) | (simp_all; done) | (simp_all [zn_eq]; omega))); (focus (first | (simp only [zn_eq, flen] at *; omega) | omega)); (focus (first | (simp only [zn_eq, flen] at *; omega) | omega)); (focus (first | assumption | exact Nat.le_refl _ | exact Nat.zero_le _ | (simp only [zn_eq, flen] at *; omega) | omega | decide | (simp; done) | (simp; omega) | (simp_all; done) | (simp_all [zn_eq]; omega))); try cbv)
    | ((with_reducible refine o_empty hO ?_ ?_); (focus (first | rfl | assumption)); try cbv)
    | ((with_reducible apply o_elem_l hO); (focus (first | assumption | rfl | (simp; done))); try cbv)
    | ((with_reducible apply o_elem hO); (focus assumption); (focus assumption); try cbv)
    | ((with_reducible apply o_get hO); (focus (first | assumption | rfl | (simp; done))); try cbv)
    | ((with_reducible refine o_guard hO ?_ ?_); (focus (first | decide +kernel | (simp; done))); try cbv))
  all_goals (first | exact ⟨trivial, trivial⟩ | trace_state)

set_option maxHeartbeats 2000000 in
theorem stmt5 (k : Int) (nm : ByteArray) (er : List (List PV)) (cnt : Int) (br lr : List (List PV)) (a : Int) (cs v0 v1 : ByteArray) (bt et : List UInt8) (he : Bool) (d : Nat) (l : List UInt8)
    (hd : d ≤ 1000) (hv0 : SemCall P04 33 [.p (.agg (smC' k nm er cnt br lr a)), vi 0] [] (one (.v (.string v0)))) (hv1 : SemCall P04 33 [.p (.agg (smC' k nm er cnt br lr a)), vi 1] [] (one (.v (.string v1))))
    (hc : SemCall P04 23 [vi cnt] [] (one (.v (.string cs))))
    (hb : ∀ n, n = zn d + 1 → ∀ l : List UInt8, (l ++ bt).length ≤ 140737488355328 → SemCall P04 12 [.ptr 0 0 0, .p (.sl 7 br), vi n] (bldO (bRows l)) (bldR (bRows (l ++ bt))))
    (hel : ∀ n, n = zn d + 1 → ∀ l : List UInt8, (l ++ et).length ≤ 140737488355328 → SemCall P04 12 [.ptr 0 0 0, .p (.sl 7 lr), vi n] (bldO (bRows l)) (bldR (bRows (l ++ et))))
    (hhe : he = decide (lr ≠ []))
    (hr : (l ++ stT d k nm cs v0 v1 bt et he).length ≤ 140737488355328) (hk : k = 5) :
    SemCall P04 24 [.ptr 0 0 0, .p (.agg (smC' k nm er cnt br lr a)), vi (zn d)] (bldO (bRows l)) (bldR (bRows (l ++ stT d k nm cs v0 v1 bt et he))) := by
  subst hk
  have e : stT d 5 nm cs v0 v1 bt et he = lineB d [sb [116, 97, 107, 101, 32], nm, sb [59]] := rfl
  rw [e] at hr ⊢
  have hl1 := line_named l d _ hd (by simp) hr
  clear hb hel hhe e hr
  generalize bRows (l ++ lineB d [sb [116, 97, 107, 101, 32], nm, sb [59]]) = r1 at *
  generalize bRows l = r0 at *
  generalize zn d = dd at *
  simp only [strRows, List.map_cons, List.map_nil, sb] at hl1
  refine semCall_of_prop (fn := Tryd.f24) (T := tab) tabOk mixed04 (by rfl) (by rfl) (by kernel_rfl) ?_
  intro Q O F hQ hO hF
  have flen := lofLen hF
  have ftake := lofTake hF
  have fdrop := lofDrop hF
  have fapp := lofApp hF
  have fset := lofSet hF
  have fbytes := lofBytes hF
  have frep := lofRep hF
  unfold Tryd.f24
  cbv
  repeat' (first
    | (with_reducible refine o_call hO hQ hv0 ?_); try cbv
    | (with_reducible refine o_call hO hQ hv1 ?_); try cbv
    | (with_reducible refine o_call hO hQ hl1 ?_); try cbv
    | ((with_reducible refine k_eql_t hO ?_ ?_); (focus (first | assumption | (simp only [zn_eq, flen] at *; omega) | omega)); try cbv)
    | ((with_reducible refine k_eql_f hO ?_ ?_); (focus (first | assumption | (simp only [zn_eq, flen] at *; omega) | omega)); try cbv)
    | ((with_reducible refine k_eql hO (fun h => ?_) (fun h => ?_)) <;> try cbv)
    | ((with_reducible refine k_neq_t hO ?_ ?_); (focus (first | assumption | (simp only [zn_eq, flen] at *; omega) | omega)); try cbv)
    | ((with_reducible refine k_neq_f hO ?_ ?_); (focus (first | assumption | (simp only [zn_eq, flen] at *; omega) | omega)); try cbv)
    | ((with_reducible refine k_neq hO (fun h => ?_) (fun h => ?_)) <;> try cbv)
    | ((with_reducible refine k_lss_t hO ?_ ?_); (focus (first | assumption | (simp only [zn_eq, flen] at *; omega) | omega)); try cbv)
    | ((with_reducible refine k_lss_f hO ?_ ?_); (focus (first | assumption | (simp only [zn_eq, flen] at *; omega) | omega)); try cbv)
    | ((with_reducible refine k_lss hO (fun h => ?_) (fun h => ?_)) <;> try cbv)
    | ((with_reducible refine k_leq_t hO ?_ ?_); (focus (first | assumption | (simp only [zn_eq, flen] at *; omega) | omega)); try cbv)
    | ((with_reducible refine k_leq_f hO ?_ ?_); (focus (first | assumption | (simp only [zn_eq, flen] at *; omega) | omega)); try cbv)
    | ((with_reducible refine k_leq hO (fun h => ?_) (fun h => ?_)) <;> try cbv)
    | ((with_reducible refine k_gtr_t hO ?_ ?_); (focus (first | assumption | (simp only [zn_eq, flen] at *; omega) | omega)); try cbv)
    | ((with_reducible refine k_gtr_f hO ?_ ?_); (focus (first | assumption | (simp only [zn_eq, flen] at *; omega) | omega)); try cbv)
    | ((with_reducible refine k_gtr hO (fun h => ?_) (fun h => ?_)) <;> try cbv)
    | ((with_reducible refine k_geq_t hO ?_ ?_); (focus (first | assumption | (simp only [zn_eq, flen] at *; omega) | omega)); try cbv)
    | ((with_reducible refine k_geq_f hO ?_ ?_); (focus (first | assumption | (simp only [zn_eq, flen] at *; omega) | omega)); try cbv)
    | ((with_reducible refine k_geq hO (fun h => ?_) (fun h => ?_)) <;> try cbv)
    | ((with_reducible refine k_add_l hO ?_ ?_); (focus decide); try cbv)
    | ((with_reducible refine k_add_in hO ?_ (fun n hn => ?_)); (focus (simp only [inK, zn_eq, flen] at *; omega)); try cbv)
    | ((with_reducible refine k_add hO (fun n hn => ?_)); try cbv)
    | ((with_reducible refine k_sub_l hO ?_ ?_); (focus decide); try cbv)
    | ((with_reducible refine k_sub_in hO ?_ (fun n hn => ?_)); (focus (simp only [inK, zn_eq, flen] at *; omega)); try cbv)
    | ((with_reducible refine k_sub hO (fun n hn => ?_)); try cbv)
    | ((with_reducible refine k_mul_l hO ?_ ?_); (focus decide); try cbv)
    | ((with_reducible refine k_mul_in hO ?_ (fun n hn => ?_)); (focus (simp only [inK, zn_eq, flen] at *; omega)); try cbv)
    | ((with_reducible refine k_mul hO (fun n hn => ?_)); try cbv)
    | ((with_reducible refine k_seql_t hO ?_ ?_); (focus (first | assumption | rfl | (simp; done))); try cbv)
    | ((with_reducible refine k_seql_f hO ?_ ?_); (focus (first | assumption | decide | (simp; done))); try cbv)
    | ((with_reducible refine k_seql hO (fun h => ?_) (fun h => ?_)) <;> try cbv)
    | ((with_reducible refine k_sneq_t hO ?_ ?_); (focus (first | assumption | rfl | (simp; done))); try cbv)
    | ((with_reducible refine k_sneq_f hO ?_ ?_); (focus (first | assumption | decide | (simp; done))); try cbv)
    | ((with_reducible refine k_sneq hO (fun h => ?_) (fun h => ?_)) <;> try cbv)
    | ((with_reducible refine k_slen hO ?_ (fun n hn => ?_)); (focus (exact undOk hQ rfl)); try cbv)
    | ((with_reducible refine k_sadd hO ?_ (fun s hs hz => ?_)); (focus (first | omega | assumption | (simp only [size_lit, List.length_cons, List.length_nil] at *; omega) | (simp_all; done) | (simp_all; omega))); (try simp only [size_lit, List.length_cons, List.length_nil, Nat.reduceAdd] at hz); (try cbv))
    | ((with_reducible apply k_conv_in hO); (focus (exact undOk hQ rfl)); (focus (exact undOk hQ rfl)); (focus (simp only [inK, zn_eq, flen] at *; omega)); try cbv)
    | ((with_reducible apply k_rune hO); (focus (exact undOk hQ rfl)); (focus (exact undOk hQ rfl)); intro s hs; try cbv)
    | ((with_reducible apply k_sidx hO); (focus (exact undOk hQ rfl)); (focus assumption); (focus assumption); intro n hn; try cbv)
    | ((with_reducible refine k_min hO (fun n hn1 hn2 hn3 => ?_)); try cbv)
    | ((with_reducible refine k_max hO (fun n hn1 hn2 hn3 => ?_)); try cbv)
    | ((with_reducible refine k_rem_pos hO ?_ ?_ (fun n hn => ?_)); (focus (first | (simp only [zn_eq, flen] at *; omega) | omega)); (focus (first | (simp only [zn_eq, flen] at *; omega) | omega)); try cbv)
    | ((with_reducible refine k_rem hO ?_ (fun n hn => ?_)); (focus (first | (simp only [zn_eq, flen] at *; omega) | omega)); try cbv)
    | ((with_reducible refine k_quo_in hO ?_ ?_ ?_ (fun n hn => ?_)); (focus (first | (simp only [zn_eq, flen] at *; omega) | omega)); (focus (first | (simp only [zn_eq, flen] at *; omega) | omega)); (focus (simp only [inK, zn_eq, flen] at *; omega)); try cbv)
    | ((with_reducible refine k_quo_pos hO ?_ ?_ (fun n hn => ?_)); (focus (first | (simp only [zn_eq, flen] at *; omega) | omega)); (focus (first | (simp only [zn_eq, flen] at *; omega) | omega)); try simp (disch := omega) only [wrap_i64, wrap_u8, wrap_u64, wrap_i32, wrap_u16, wrap_u32] at hn; try cbv)
    | ((with_reducible refine k_not hO ?_); try cbv)
    | ((with_reducible refine o_ble hO ?_ ?_); (focus (first | assumption | exact Nat.le_refl _ | exact Nat.zero_le _ | (simp only [zn_eq, flen] at *; omega) | omega | decide | (simp; done) | (simp; omega) | (simp_all; done) | (simp_all [zn_eq]; omega))); try cbv)
    | ((with_reducible refine o_cut hO ?_ ?_ ?_); (focus (first | assumption | exact Nat.le_refl _ | exact Nat.zero_le _ | (simp only [zn_eq, flen] at *; omega) | omega | decide | (simp; done) | (simp; omega) | (simp_all; done) | (simp_all [zn_eq]; omega))); (focus (first | assumption | exact Nat.le_refl _ | exact Nat.zero_le _ | (simp only [zn_eq, flen] at *; omega) | omega | decide | (simp; done) | (simp; omega) | (simp_all; done) | (simp_all [zn_eq]; omega))); try cbv)
    | ((with_reducible refine o_room hO ?_ ?_ ?_); (focus (first | exact Or.inl rfl | (simp; done))); (focus (first | assumption | exact Nat.le_refl _ | exact Nat.zero_le _ | (simp only [zn_eq, flen] at *; omega) | omega | decide | (simp; done) | (simp; omega) | (simp_all; done) | (simp_all [zn_eq]; omega))); try cbv)
    | ((with_reducible refine o_nat_l hO ?_); try cbv)
    | ((with_reducible refine o_nat hO ?_ (fun j hj => ?_)); (focus (first | (simp only [zn_eq, flen] at *; omega) | omega)); try cbv)
    | ((with_reducible refine o_at_l hO ?_ ?_); (focus (first | assumption | exact Nat.le_refl _ | exact Nat.zero_le _ | (simp only [zn_eq, flen] at *; omega) | omega | decide | (simp; done) | (simp; omega) | (simp_all; done) | (simp_all [zn_eq]; omega))); try cbv)
    | ((with_reducible refine o_at hO ?_ ?_ (fun j hj => ?_)); (focus (first | (simp only [zn_eq, flen] at *; omega) | omega)); (focus (first | assumption | exact Nat.le_refl _ | exact Nat.zero_le _ | (simp only [zn_eq, flen] at *; omega) | omega | decide | (simp; done) | (simp; omega) | (simp_all; done) | (simp_all [zn_eq]; omega))); try cbv)
    | ((with_reducible apply o_len_l hO); (focus decide); try cbv)
    | ((with_reducible refine o_len hO (fun n hn => ?_)); try cbv)
    | ((with_reducible refine o_mk hO ?_ ?_ ?_ ?_ (fun j hj => ?_)); (focus (first | assumption | exact Nat.le_refl _ | exact Nat.zero_le _ | (simp only [zn_eq, flen] at *; omega) | omega | decide | (simp; done) | (simp; omega) | (simp_all; done) | (simp_all [zn_eq]; omega))); (focus (first | (simp only [zn_eq, flen] at *; omega) | omega)); (focus (first | (simp only [zn_eq, flen] at *; omega) | omega)); (focus (first | assumption | exact Nat.le_refl _ | exact Nat.zero_le _ | (simp only [zn_eq, flen] at *; omega) | omega | decide | (simp; done) | (simp; omega) | (simp_all; done) | (simp_all [zn_eq]; omega))); try cbv)
    | ((with_reducible refine o_empty hO ?_ ?_); (focus (first | rfl | assumption)); try cbv)
    | ((with_reducible apply o_elem_l hO); (focus (first | assumption | rfl | (simp; done))); try cbv)
    | ((with_reducible apply o_elem hO); (focus assumption); (focus assumption); try cbv)
    | ((with_reducible apply o_get hO); (focus (first | assumption | rfl | (simp; done))); try cbv)
    | ((with_reducible refine o_guard hO ?_ ?_); (focus (first | decide +kernel | (simp; done))); try cbv))
  all_goals (first | exact ⟨trivial, trivial⟩ | trace_state)

set_option maxHeartbeats 2000000 in
theorem stmt6 (k : Int) (nm : ByteArray) (er : List (List PV)) (cnt : Int) (br lr : List (List PV)) (a : Int) (cs v0 v1 : ByteArray) (bt et : List UInt8) (he : Bool) (d : Nat) (l : List UInt8)
    (hd : d ≤ 1000) (hv0 : SemCall P04 33 [.p (.agg (smC' k nm er cnt br lr a)), vi 0] [] (one (.v (.string v0)))) (hv1 : SemCall P04 33 [.p (.agg (smC' k nm er cnt br lr a)), vi 1] [] (one (.v (.string v1))))
    (hc : SemCall P04 23 [vi cnt] [] (one (.v (.string cs))))
    (hb : ∀ n, n = zn d + 1 → ∀ l : List UInt8, (l ++ bt).length ≤ 140737488355328 → SemCall P04 12 [.ptr 0 0 0, .p (.sl 7 br), vi n] (bldO (bRows l)) (bldR (bRows (l ++ bt))))
    (hel : ∀ n, n = zn d + 1 → ∀ l : List UInt8, (l ++ et).length ≤ 140737488355328 → SemCall P04 12 [.ptr 0 0 0, .p (.sl 7 lr), vi n] (bldO (bRows l)) (bldR (bRows (l ++ et))))
    (hhe : he = decide (lr ≠ []))
    (hr : (l ++ stT d k nm cs v0 v1 bt et he).length ≤ 140737488355328) (hk : k = 6) :
    SemCall P04 24 [.ptr 0 0 0, .p (.agg (smC' k nm er cnt br lr a)), vi (zn d)] (bldO (bRows l)) (bldR (bRows (l ++ stT d k nm cs v0 v1 bt et he))) := by
  subst hk
  have e : stT d 6 nm cs v0 v1 bt et he = lineB d [sb [103, 105, 118, 101, 32], nm, sb [59]] := rfl
  rw [e] at hr ⊢
  have hl1 := line_named l d _ hd (by simp) hr
  clear hb hel hhe e hr
  generalize bRows (l ++ lineB d [sb [103, 105, 118, 101, 32], nm, sb [59]]) = r1 at *
  generalize bRows l = r0 at *
  generalize zn d = dd at *
  simp only [strRows, List.map_cons, List.map_nil, sb] at hl1
  refine semCall_of_prop (fn := Tryd.f24) (T := tab) tabOk mixed04 (by rfl) (by rfl) (by kernel_rfl) ?_
  intro Q O F hQ hO hF
  have flen := lofLen hF
  have ftake := lofTake hF
  have fdrop := lofDrop hF
  have fapp := lofApp hF
  have fset := lofSet hF
  have fbytes := lofBytes hF
  have frep := lofRep hF
  unfold Tryd.f24
  cbv
  repeat' (first
    | (with_reducible refine o_call hO hQ hv0 ?_); try cbv
    | (with_reducible refine o_call hO hQ hv1 ?_); try cbv
    | (with_reducible refine o_call hO hQ hl1 ?_); try cbv
    | ((with_reducible refine k_eql_t hO ?_ ?_); (focus (first | assumption | (simp only [zn_eq, flen] at *; omega) | omega)); try cbv)
    | ((with_reducible refine k_eql_f hO ?_ ?_); (focus (first | assumption | (simp only [zn_eq, flen] at *; omega) | omega)); try cbv)
    | ((with_reducible refine k_eql hO (fun h => ?_) (fun h => ?_)) <;> try cbv)
    | ((with_reducible refine k_neq_t hO ?_ ?_); (focus (first | assumption | (simp only [zn_eq, flen] at *; omega) | omega)); try cbv)
    | ((with_reducible refine k_neq_f hO ?_ ?_); (focus (first | assumption | (simp only [zn_eq, flen] at *; omega) | omega)); try cbv)
    | ((with_reducible refine k_neq hO (fun h => ?_) (fun h => ?_)) <;> try cbv)
    | ((with_reducible refine k_lss_t hO ?_ ?_); (focus (first | assumption | (simp only [zn_eq, flen] at *; omega) | omega)); try cbv)
    | ((with_reducible refine k_lss_f hO ?_ ?_); (focus (first | assumption | (simp only [zn_eq, flen] at *; omega) | omega)); try cbv)
    | ((with_reducible refine k_lss hO (fun h => ?_) (fun h => ?_)) <;> try cbv)
    | ((with_reducible refine k_leq_t hO ?_ ?_); (focus (first | assumption | (simp only [zn_eq, flen] at *; omega) | omega)); try cbv)
    | ((with_reducible refine k_leq_f hO ?_ ?_); (focus (first | assumption | (simp only [zn_eq, flen] at *; omega) | omega)); try cbv)
    | ((with_reducible refine k_leq hO (fun h => ?_) (fun h => ?_)) <;> try cbv)
    | ((with_reducible refine k_gtr_t hO ?_ ?_); (focus (first | assumption | (simp only [zn_eq, flen] at *; omega) | omega)); try cbv)
    | ((with_reducible refine k_gtr_f hO ?_ ?_); (focus (first | assumption | (simp only [zn_eq, flen] at *; omega) | omega)); try cbv)
    | ((with_reducible refine k_gtr hO (fun h => ?_) (fun h => ?_)) <;> try cbv)
    | ((with_reducible refine k_geq_t hO ?_ ?_); (focus (first | assumption | (simp only [zn_eq, flen] at *; omega) | omega)); try cbv)
    | ((with_reducible refine k_geq_f hO ?_ ?_); (focus (first | assumption | (simp only [zn_eq, flen] at *; omega) | omega)); try cbv)
    | ((with_reducible refine k_geq hO (fun h => ?_) (fun h => ?_)) <;> try cbv)
    | ((with_reducible refine k_add_l hO ?_ ?_); (focus decide); try cbv)
    | ((with_reducible refine k_add_in hO ?_ (fun n hn => ?_)); (focus (simp only [inK, zn_eq, flen] at *; omega)); try cbv)
    | ((with_reducible refine k_add hO (fun n hn => ?_)); try cbv)
    | ((with_reducible refine k_sub_l hO ?_ ?_); (focus decide); try cbv)
    | ((with_reducible refine k_sub_in hO ?_ (fun n hn => ?_)); (focus (simp only [inK, zn_eq, flen] at *; omega)); try cbv)
    | ((with_reducible refine k_sub hO (fun n hn => ?_)); try cbv)
    | ((with_reducible refine k_mul_l hO ?_ ?_); (focus decide); try cbv)
    | ((with_reducible refine k_mul_in hO ?_ (fun n hn => ?_)); (focus (simp only [inK, zn_eq, flen] at *; omega)); try cbv)
    | ((with_reducible refine k_mul hO (fun n hn => ?_)); try cbv)
    | ((with_reducible refine k_seql_t hO ?_ ?_); (focus (first | assumption | rfl | (simp; done))); try cbv)
    | ((with_reducible refine k_seql_f hO ?_ ?_); (focus (first | assumption | decide | (simp; done))); try cbv)
    | ((with_reducible refine k_seql hO (fun h => ?_) (fun h => ?_)) <;> try cbv)
    | ((with_reducible refine k_sneq_t hO ?_ ?_); (focus (first | assumption | rfl | (simp; done))); try cbv)
    | ((with_reducible refine k_sneq_f hO ?_ ?_); (focus (first | assumption | decide | (simp; done))); try cbv)
    | ((with_reducible refine k_sneq hO (fun h => ?_) (fun h => ?_)) <;> try cbv)
    | ((with_reducible refine k_slen hO ?_ (fun n hn => ?_)); (focus (exact undOk hQ rfl)); try cbv)
    | ((with_reducible refine k_sadd hO ?_ (fun s hs hz => ?_)); (focus (first | omega | assumption | (simp only [size_lit, List.length_cons, List.length_nil] at *; omega) | (simp_all; done) | (simp_all; omega))); (try simp only [size_lit, List.length_cons, List.length_nil, Nat.reduceAdd] at hz); (try cbv))
    | ((with_reducible apply k_conv_in hO); (focus (exact undOk hQ rfl)); (focus (exact undOk hQ rfl)); (focus (simp only [inK, zn_eq, flen] at *; omega)); try cbv)
    | ((with_reducible apply k_rune hO); (focus (exact undOk hQ rfl)); (focus (exact undOk hQ rfl)); intro s hs; try cbv)
    | ((with_reducible apply k_sidx hO); (focus (exact undOk hQ rfl)); (focus assumption); (focus assumption); intro n hn; try cbv)
    | ((with_reducible refine k_min hO (fun n hn1 hn2 hn3 => ?_)); try cbv)
    | ((with_reducible refine k_max hO (fun n hn1 hn2 hn3 => ?_)); try cbv)
    | ((with_reducible refine k_rem_pos hO ?_ ?_ (fun n hn => ?_)); (focus (first | (simp only [zn_eq, flen] at *; omega) | omega)); (focus (first | (simp only [zn_eq, flen] at *; omega) | omega)); try cbv)
    | ((with_reducible refine k_rem hO ?_ (fun n hn => ?_)); (focus (first | (simp only [zn_eq, flen] at *; omega) | omega)); try cbv)
    | ((with_reducible refine k_quo_in hO ?_ ?_ ?_ (fun n hn => ?_)); (focus (first | (simp only [zn_eq, flen] at *; omega) | omega)); (focus (first | (simp only [zn_eq, flen] at *; omega) | omega)); (focus (simp only [inK, zn_eq, flen] at *; omega)); try cbv)
    | ((with_reducible refine k_quo_pos hO ?_ ?_ (fun n hn => ?_)); (focus (first | (simp only [zn_eq, flen] at *; omega) | omega)); (focus (first | (simp only [zn_eq, flen] at *; omega) | omega)); try simp (disch := omega) only [wrap_i64, wrap_u8, wrap_u64, wrap_i32, wrap_u16, wrap_u32] at hn; try cbv)
    | ((with_reducible refine k_not hO ?_); try cbv)
    | ((with_reducible refine o_ble hO ?_ ?_); (focus (first | assumption | exact Nat.le_refl _ | exact Nat.zero_le _ | (simp only [zn_eq, flen] at *; omega) | omega | decide | (simp; done) | (simp; omega) | (simp_all; done) | (simp_all [zn_eq]; omega))); try cbv)
    | ((with_reducible refine o_cut hO ?_ ?_ ?_); (focus (first | assumption | exact Nat.le_refl _ | exact Nat.zero_le _ | (simp only [zn_eq, flen] at *; omega) | omega | decide | (simp; done) | (simp; omega) | (simp_all; done) | (simp_all [zn_eq]; omega))); (focus (first | assumption | exact Nat.le_refl _ | exact Nat.zero_le _ | (simp only [zn_eq, flen] at *; omega) | omega | decide | (simp; done) | (simp; omega) | (simp_all; done) | (simp_all [zn_eq]; omega))); try cbv)
    | ((with_reducible refine o_room hO ?_ ?_ ?_); (focus (first | exact Or.inl rfl | (simp; done))); (focus (first | assumption | exact Nat.le_refl _ | exact Nat.zero_le _ | (simp only [zn_eq, flen] at *; omega) | omega | decide | (simp; done) | (simp; omega) | (simp_all; done) | (simp_all [zn_eq]; omega))); try cbv)
    | ((with_reducible refine o_nat_l hO ?_); try cbv)
    | ((with_reducible refine o_nat hO ?_ (fun j hj => ?_)); (focus (first | (simp only [zn_eq, flen] at *; omega) | omega)); try cbv)
    | ((with_reducible refine o_at_l hO ?_ ?_); (focus (first | assumption | exact Nat.le_refl _ | exact Nat.zero_le _ | (simp only [zn_eq, flen] at *; omega) | omega | decide | (simp; done) | (simp; omega) | (simp_all; done) | (simp_all [zn_eq]; omega))); try cbv)
    | ((with_reducible refine o_at hO ?_ ?_ (fun j hj => ?_)); (focus (first | (simp only [zn_eq, flen] at *; omega) | omega)); (focus (first | assumption | exact Nat.le_refl _ | exact Nat.zero_le _ | (simp only [zn_eq, flen] at *; omega) | omega | decide | (simp; done) | (simp; omega) | (simp_all; done) | (simp_all [zn_eq]; omega))); try cbv)
    | ((with_reducible apply o_len_l hO); (focus decide); try cbv)
    | ((with_reducible refine o_len hO (fun n hn => ?_)); try cbv)
    | ((with_reducible refine o_mk hO ?_ ?_ ?_ ?_ (fun j hj => ?_)); (focus (first | assumption | exact Nat.le_refl _ | exact Nat.zero_le _ | (simp only [zn_eq, flen] at *; omega) | omega | decide | (simp; done) | (simp; omega) | (simp_all; done) | (simp_all [zn_eq]; omega))); (focus (first | (simp only [zn_eq, flen] at *; omega) | omega)); (focus (first | (simp only [zn_eq, flen] at *; omega) | omega)); (focus (first | assumption | exact Nat.le_refl _ | exact Nat.zero_le _ | (simp only [zn_eq, flen] at *; omega) | omega | decide | (simp; done) | (simp; omega) | (simp_all; done) | (simp_all [zn_eq]; omega))); try cbv)
    | ((with_reducible refine o_empty hO ?_ ?_); (focus (first | rfl | assumption)); try cbv)
    | ((with_reducible apply o_elem_l hO); (focus (first | assumption | rfl | (simp; done))); try cbv)
    | ((with_reducible apply o_elem hO); (focus assumption); (focus assumption); try cbv)
    | ((with_reducible apply o_get hO); (focus (first | assumption | rfl | (simp; done))); try cbv)
    | ((with_reducible refine o_guard hO ?_ ?_); (focus (first | decide +kernel | (simp; done))); try cbv))
  all_goals (first | exact ⟨trivial, trivial⟩ | trace_state)

set_option maxHeartbeats 2000000 in
theorem stmt7 (k : Int) (nm : ByteArray) (er : List (List PV)) (cnt : Int) (br lr : List (List PV)) (a : Int) (cs v0 v1 : ByteArray) (bt et : List UInt8) (he : Bool) (d : Nat) (l : List UInt8)
    (hd : d ≤ 1000) (hv0 : SemCall P04 33 [.p (.agg (smC' k nm er cnt br lr a)), vi 0] [] (one (.v (.string v0)))) (hv1 : SemCall P04 33 [.p (.agg (smC' k nm er cnt br lr a)), vi 1] [] (one (.v (.string v1))))
    (hc : SemCall P04 23 [vi cnt] [] (one (.v (.string cs))))
    (hb : ∀ n, n = zn d + 1 → ∀ l : List UInt8, (l ++ bt).length ≤ 140737488355328 → SemCall P04 12 [.ptr 0 0 0, .p (.sl 7 br), vi n] (bldO (bRows l)) (bldR (bRows (l ++ bt))))
    (hel : ∀ n, n = zn d + 1 → ∀ l : List UInt8, (l ++ et).length ≤ 140737488355328 → SemCall P04 12 [.ptr 0 0 0, .p (.sl 7 lr), vi n] (bldO (bRows l)) (bldR (bRows (l ++ et))))
    (hhe : he = decide (lr ≠ []))
    (hr : (l ++ stT d k nm cs v0 v1 bt et he).length ≤ 140737488355328) (hk : k = 7) :
    SemCall P04 24 [.ptr 0 0 0, .p (.agg (smC' k nm er cnt br lr a)), vi (zn d)] (bldO (bRows l)) (bldR (bRows (l ++ stT d k nm cs v0 v1 bt et he))) := by
  subst hk
  have e : stT d 7 nm cs v0 v1 bt et he = lineB d [sb [97, 100, 100, 32], nm, sb [32], v0, sb [59]] := rfl
  rw [e] at hr ⊢
  have hl1 := line_named l d _ hd (by simp) hr
  clear hb hel hhe e hr
  generalize bRows (l ++ lineB d [sb [97, 100, 100, 32], nm, sb [32], v0, sb [59]]) = r1 at *
  generalize bRows l = r0 at *
  generalize zn d = dd at *
  simp only [strRows, List.map_cons, List.map_nil, sb] at hl1
  refine semCall_of_prop (fn := Tryd.f24) (T := tab) tabOk mixed04 (by rfl) (by rfl) (by kernel_rfl) ?_
  intro Q O F hQ hO hF
  have flen := lofLen hF
  have ftake := lofTake hF
  have fdrop := lofDrop hF
  have fapp := lofApp hF
  have fset := lofSet hF
  have fbytes := lofBytes hF
  have frep := lofRep hF
  unfold Tryd.f24
  cbv
  repeat' (first
    | (with_reducible refine o_call hO hQ hv0 ?_); try cbv
    | (with_reducible refine o_call hO hQ hv1 ?_); try cbv
    | (with_reducible refine o_call hO hQ hl1 ?_); try cbv
    | ((with_reducible refine k_eql_t hO ?_ ?_); (focus (first | assumption | (simp only [zn_eq, flen] at *; omega) | omega)); try cbv)
    | ((with_reducible refine k_eql_f hO ?_ ?_); (focus (first | assumption | (simp only [zn_eq, flen] at *; omega) | omega)); try cbv)
    | ((with_reducible refine k_eql hO (fun h => ?_) (fun h => ?_)) <;> try cbv)
    | ((with_reducible refine k_neq_t hO ?_ ?_); (focus (first | assumption | (simp only [zn_eq, flen] at *; omega) | omega)); try cbv)
    | ((with_reducible refine k_neq_f hO ?_ ?_); (focus (first | assumption | (simp only [zn_eq, flen] at *; omega) | omega)); try cbv)
    | ((with_reducible refine k_neq hO (fun h => ?_) (fun h => ?_)) <;> try cbv)
    | ((with_reducible refine k_lss_t hO ?_ ?_); (focus (first | assumption | (simp only [zn_eq, flen] at *; omega) | omega)); try cbv)
    | ((with_reducible refine k_lss_f hO ?_ ?_); (focus (first | assumption | (simp only [zn_eq, flen] at *; omega) | omega)); try cbv)
    | ((with_reducible refine k_lss hO (fun h => ?_) (fun h => ?_)) <;> try cbv)
    | ((with_reducible refine k_leq_t hO ?_ ?_); (focus (first | assumption | (simp only [zn_eq, flen] at *; omega) | omega)); try cbv)
    | ((with_reducible refine k_leq_f hO ?_ ?_); (focus (first | assumption | (simp only [zn_eq, flen] at *; omega) | omega)); try cbv)
    | ((with_reducible refine k_leq hO (fun h => ?_) (fun h => ?_)) <;> try cbv)
    | ((with_reducible refine k_gtr_t hO ?_ ?_); (focus (first | assumption | (simp only [zn_eq, flen] at *; omega) | omega)); try cbv)
    | ((with_reducible refine k_gtr_f hO ?_ ?_); (focus (first | assumption | (simp only [zn_eq, flen] at *; omega) | omega)); try cbv)
    | ((with_reducible refine k_gtr hO (fun h => ?_) (fun h => ?_)) <;> try cbv)
    | ((with_reducible refine k_geq_t hO ?_ ?_); (focus (first | assumption | (simp only [zn_eq, flen] at *; omega) | omega)); try cbv)
    | ((with_reducible refine k_geq_f hO ?_ ?_); (focus (first | assumption | (simp only [zn_eq, flen] at *; omega) | omega)); try cbv)
    | ((with_reducible refine k_geq hO (fun h => ?_) (fun h => ?_)) <;> try cbv)
    | ((with_reducible refine k_add_l hO ?_ ?_); (focus decide); try cbv)
    | ((with_reducible refine k_add_in hO ?_ (fun n hn => ?_)); (focus (simp only [inK, zn_eq, flen] at *; omega)); try cbv)
    | ((with_reducible refine k_add hO (fun n hn => ?_)); try cbv)
    | ((with_reducible refine k_sub_l hO ?_ ?_); (focus decide); try cbv)
    | ((with_reducible refine k_sub_in hO ?_ (fun n hn => ?_)); (focus (simp only [inK, zn_eq, flen] at *; omega)); try cbv)
    | ((with_reducible refine k_sub hO (fun n hn => ?_)); try cbv)
    | ((with_reducible refine k_mul_l hO ?_ ?_); (focus decide); try cbv)
    | ((with_reducible refine k_mul_in hO ?_ (fun n hn => ?_)); (focus (simp only [inK, zn_eq, flen] at *; omega)); try cbv)
    | ((with_reducible refine k_mul hO (fun n hn => ?_)); try cbv)
    | ((with_reducible refine k_seql_t hO ?_ ?_); (focus (first | assumption | rfl | (simp; done))); try cbv)
    | ((with_reducible refine k_seql_f hO ?_ ?_); (focus (first | assumption | decide | (simp; done))); try cbv)
    | ((with_reducible refine k_seql hO (fun h => ?_) (fun h => ?_)) <;> try cbv)
    | ((with_reducible refine k_sneq_t hO ?_ ?_); (focus (first | assumption | rfl | (simp; done))); try cbv)
    | ((with_reducible refine k_sneq_f hO ?_ ?_); (focus (first | assumption | decide | (simp; done))); try cbv)
    | ((with_reducible refine k_sneq hO (fun h => ?_) (fun h => ?_)) <;> try cbv)
    | ((with_reducible refine k_slen hO ?_ (fun n hn => ?_)); (focus (exact undOk hQ rfl)); try cbv)
    | ((with_reducible refine k_sadd hO ?_ (fun s hs hz => ?_)); (focus (first | omega | assumption | (simp only [size_lit, List.length_cons, List.length_nil] at *; omega) | (simp_all; done) | (simp_all; omega))); (try simp only [size_lit, List.length_cons, List.length_nil, Nat.reduceAdd] at hz); (try cbv))
    | ((with_reducible apply k_conv_in hO); (focus (exact undOk hQ rfl)); (focus (exact undOk hQ rfl)); (focus (simp only [inK, zn_eq, flen] at *; omega)); try cbv)
    | ((with_reducible apply k_rune hO); (focus (exact undOk hQ rfl)); (focus (exact undOk hQ rfl)); intro s hs; try cbv)
    | ((with_reducible apply k_sidx hO); (focus (exact undOk hQ rfl)); (focus assumption); (focus assumption); intro n hn; try cbv)
    | ((with_reducible refine k_min hO (fun n hn1 hn2 hn3 => ?_)); try cbv)
    | ((with_reducible refine k_max hO (fun n hn1 hn2 hn3 => ?_)); try cbv)
    | ((with_reducible refine k_rem_pos hO ?_ ?_ (fun n hn => ?_)); (focus (first | (simp only [zn_eq, flen] at *; omega) | omega)); (focus (first | (simp only [zn_eq, flen] at *; omega) | omega)); try cbv)
    | ((with_reducible refine k_rem hO ?_ (fun n hn => ?_)); (focus (first | (simp only [zn_eq, flen] at *; omega) | omega)); try cbv)
    | ((with_reducible refine k_quo_in hO ?_ ?_ ?_ (fun n hn => ?_)); (focus (first | (simp only [zn_eq, flen] at *; omega) | omega)); (focus (first | (simp only [zn_eq, flen] at *; omega) | omega)); (focus (simp only [inK, zn_eq, flen] at *; omega)); try cbv)
    | ((with_reducible refine k_quo_pos hO ?_ ?_ (fun n hn => ?_)); (focus (first | (simp only [zn_eq, flen] at *; omega) | omega)); (focus (first | (simp only [zn_eq, flen] at *; omega) | omega)); try simp (disch := omega) only [wrap_i64, wrap_u8, wrap_u64, wrap_i32, wrap_u16, wrap_u32] at hn; try cbv)
    | ((with_reducible refine k_not hO ?_); try cbv)
    | ((with_reducible refine o_ble hO ?_ ?_); (focus (first | assumption | exact Nat.le_refl _ | exact Nat.zero_le _ | (simp only [zn_eq, flen] at *; omega) | omega | decide | (simp; done) | (simp; omega) | (simp_all; done) | (simp_all [zn_eq]; omega))); try cbv)
    | ((with_reducible refine o_cut hO ?_ ?_ ?_); (focus (first | assumption | exact Nat.le_refl _ | exact Nat.zero_le _ | (simp only [zn_eq, flen] at *; omega) | omega | decide | (simp; done) | (simp; omega) | (simp_all; done) | (simp_all [zn_eq]; omega))); (focus (first | assumption | exact Nat.le_refl _ | exact Nat.zero_le _ | (simp only [zn_eq, flen] at *; omega) | omega | decide | (simp; done) | (simp; omega) | (simp_all; done) | (simp_all [zn_eq]; omega))); try cbv)
    | ((with_reducible refine o_room hO ?_ ?_ ?_); (focus (first | exact Or.inl rfl | (simp; done))); (focus (first | assumption | exact Nat.le_refl _ | exact Nat.zero_le _ | (simp only [zn_eq, flen] at *; omega) | omega | decide | (simp; done) | (simp; omega) | (simp_all; done) | (simp_all [zn_eq]; omega))); try cbv)
    | ((with_reducible refine o_nat_l hO ?_); try cbv)
    | ((with_reducible refine o_nat hO ?_ (fun j hj => ?_)); (focus (first | (simp only [zn_eq, flen] at *; omega) | omega)); try cbv)
    | ((with_reducible refine o_at_l hO ?_ ?_); (focus (first | assumption | exact Nat.le_refl _ | exact Nat.zero_le _ | (simp only [zn_eq, flen] at *; omega) | omega | decide | (simp; done) | (simp; omega) | (simp_all; done) | (simp_all [zn_eq]; omega))); try cbv)
    | ((with_reducible refine o_at hO ?_ ?_ (fun j hj => ?_)); (focus (first | (simp only [zn_eq, flen] at *; omega) | omega)); (focus (first | assumption | exact Nat.le_refl _ | exact Nat.zero_le _ | (simp only [zn_eq, flen] at *; omega) | omega | decide | (simp; done) | (simp; omega) | (simp_all; done) | (simp_all [zn_eq]; omega))); try cbv)
    | ((with_reducible apply o_len_l hO); (focus decide); try cbv)
    | ((with_reducible refine o_len hO (fun n hn => ?_)); try cbv)
    | ((with_reducible refine o_mk hO ?_ ?_ ?_ ?_ (fun j hj => ?_)); (focus (first | assumption | exact Nat.le_refl _ | exact Nat.zero_le _ | (simp only [zn_eq, flen] at *; omega) | omega | decide | (simp; done) | (simp; omega) | (simp_all; done) | (simp_all [zn_eq]; omega))); (focus (first | (simp only [zn_eq, flen] at *; omega) | omega)); (focus (first | (simp only [zn_eq, flen] at *; omega) | omega)); (focus (first | assumption | exact Nat.le_refl _ | exact Nat.zero_le _ | (simp only [zn_eq, flen] at *; omega) | omega | decide | (simp; done) | (simp; omega) | (simp_all; done) | (simp_all [zn_eq]; omega))); try cbv)
    | ((with_reducible refine o_empty hO ?_ ?_); (focus (first | rfl | assumption)); try cbv)
    | ((with_reducible apply o_elem_l hO); (focus (first | assumption | rfl | (simp; done))); try cbv)
    | ((with_reducible apply o_elem hO); (focus assumption); (focus assumption); try cbv)
    | ((with_reducible apply o_get hO); (focus (first | assumption | rfl | (simp; done))); try cbv)
    | ((with_reducible refine o_guard hO ?_ ?_); (focus (first | decide +kernel | (simp; done))); try cbv))
  all_goals (first | exact ⟨trivial, trivial⟩ | trace_state)

set_option maxHeartbeats 2000000 in
theorem stmt8 (k : Int) (nm : ByteArray) (er : List (List PV)) (cnt : Int) (br lr : List (List PV)) (a : Int) (cs v0 v1 : ByteArray) (bt et : List UInt8) (he : Bool) (d : Nat) (l : List UInt8)
    (hd : d ≤ 1000) (hv0 : SemCall P04 33 [.p (.agg (smC' k nm er cnt br lr a)), vi 0] [] (one (.v (.string v0)))) (hv1 : SemCall P04 33 [.p (.agg (smC' k nm er cnt br lr a)), vi 1] [] (one (.v (.string v1))))
    (hc : SemCall P04 23 [vi cnt] [] (one (.v (.string cs))))
    (hb : ∀ n, n = zn d + 1 → ∀ l : List UInt8, (l ++ bt).length ≤ 140737488355328 → SemCall P04 12 [.ptr 0 0 0, .p (.sl 7 br), vi n] (bldO (bRows l)) (bldR (bRows (l ++ bt))))
    (hel : ∀ n, n = zn d + 1 → ∀ l : List UInt8, (l ++ et).length ≤ 140737488355328 → SemCall P04 12 [.ptr 0 0 0, .p (.sl 7 lr), vi n] (bldO (bRows l)) (bldR (bRows (l ++ et))))
    (hhe : he = decide (lr ≠ []))
    (hr : (l ++ stT d k nm cs v0 v1 bt et he).length ≤ 140737488355328) (hk : k = 8) :
    SemCall P04 24 [.ptr 0 0 0, .p (.agg (smC' k nm er cnt br lr a)), vi (zn d)] (bldO (bRows l)) (bldR (bRows (l ++ stT d k nm cs v0 v1 bt et he))) := by
  subst hk
  have e : stT d 8 nm cs v0 v1 bt et he = lineB d [sb [102, 101, 110, 99, 101, 59]] := rfl
  rw [e] at hr ⊢
  have hl1 := line_named l d _ hd (by simp) hr
  clear hb hel hhe e hr
  generalize bRows (l ++ lineB d [sb [102, 101, 110, 99, 101, 59]]) = r1 at *
  generalize bRows l = r0 at *
  generalize zn d = dd at *
  simp only [strRows, List.map_cons, List.map_nil, sb] at hl1
  refine semCall_of_prop (fn := Tryd.f24) (T := tab) tabOk mixed04 (by rfl) (by rfl) (by kernel_rfl) ?_
  intro Q O F hQ hO hF
  have flen := lofLen hF
  have ftake := lofTake hF
  have fdrop := lofDrop hF
  have fapp := lofApp hF
  have fset := lofSet hF
  have fbytes := lofBytes hF
  have frep := lofRep hF
  unfold Tryd.f24
  cbv
  repeat' (first
    | (with_reducible refine o_call hO hQ hv0 ?_); try cbv
    | (with_reducible refine o_call hO hQ hv1 ?_); try cbv
    | (with_reducible refine o_call hO hQ hl1 ?_); try cbv
    | ((with_reducible refine k_eql_t hO ?_ ?_); (focus (first | assumption | (simp only [zn_eq, flen] at *; omega) | omega)); try cbv)
    | ((with_reducible refine k_eql_f hO ?_ ?_); (focus (first | assumption | (simp only [zn_eq, flen] at *; omega) | omega)); try cbv)
    | ((with_reducible refine k_eql hO (fun h => ?_) (fun h => ?_)) <;> try cbv)
    | ((with_reducible refine k_neq_t hO ?_ ?_); (focus (first | assumption | (simp only [zn_eq, flen] at *; omega) | omega)); try cbv)
    | ((with_reducible refine k_neq_f hO ?_ ?_); (focus (first | assumption | (simp only [zn_eq, flen] at *; omega) | omega)); try cbv)
    | ((with_reducible refine k_neq hO (fun h => ?_) (fun h => ?_)) <;> try cbv)
    | ((with_reducible refine k_lss_t hO ?_ ?_); (focus (first | assumption | (simp only [zn_eq, flen] at *; omega) | omega)); try cbv)
    | ((with_reducible refine k_lss_f hO ?_ ?_); (focus (first | assumption | (simp only [zn_eq, flen] at *; omega) | omega)); try cbv)
    | ((with_reducible refine k_lss hO (fun h => ?_) (fun h => ?_)) <;> try cbv)
    | ((with_reducible refine k_leq_t hO ?_ ?_); (focus (first | assumption | (simp only [zn_eq, flen] at *; omega) | omega)); try cbv)
    | ((with_reducible refine k_leq_f hO ?_ ?_); (focus (first | assumption | (simp only [zn_eq, flen] at *; omega) | omega)); try cbv)
    | ((with_reducible refine k_leq hO (fun h => ?_) (fun h => ?_)) <;> try cbv)
    | ((with_reducible refine k_gtr_t hO ?_ ?_); (focus (first | assumption | (simp only [zn_eq, flen] at *; omega) | omega)); try cbv)
    | ((with_reducible refine k_gtr_f hO ?_ ?_); (focus (first | assumption | (simp only [zn_eq, flen] at *; omega) | omega)); try cbv)
    | ((with_reducible refine k_gtr hO (fun h => ?_) (fun h => ?_)) <;> try cbv)
    | ((with_reducible refine k_geq_t hO ?_ ?_); (focus (first | assumption | (simp only [zn_eq, flen] at *; omega) | omega)); try cbv)
    | ((with_reducible refine k_geq_f hO ?_ ?_); (focus (first | assumption | (simp only [zn_eq, flen] at *; omega) | omega)); try cbv)
    | ((with_reducible refine k_geq hO (fun h => ?_) (fun h => ?_)) <;> try cbv)
    | ((with_reducible refine k_add_l hO ?_ ?_); (focus decide); try cbv)
    | ((with_reducible refine k_add_in hO ?_ (fun n hn => ?_)); (focus (simp only [inK, zn_eq, flen] at *; omega)); try cbv)
    | ((with_reducible refine k_add hO (fun n hn => ?_)); try cbv)
    | ((with_reducible refine k_sub_l hO ?_ ?_); (focus decide); try cbv)
    | ((with_reducible refine k_sub_in hO ?_ (fun n hn => ?_)); (focus (simp only [inK, zn_eq, flen] at *; omega)); try cbv)
    | ((with_reducible refine k_sub hO (fun n hn => ?_)); try cbv)
    | ((with_reducible refine k_mul_l hO ?_ ?_); (focus decide); try cbv)
    | ((with_reducible refine k_mul_in hO ?_ (fun n hn => ?_)); (focus (simp only [inK, zn_eq, flen] at *; omega)); try cbv)
    | ((with_reducible refine k_mul hO (fun n hn => ?_)); try cbv)
    | ((with_reducible refine k_seql_t hO ?_ ?_); (focus (first | assumption | rfl | (simp; done))); try cbv)
    | ((with_reducible refine k_seql_f hO ?_ ?_); (focus (first | assumption | decide | (simp; done))); try cbv)
    | ((with_reducible refine k_seql hO (fun h => ?_) (fun h => ?_)) <;> try cbv)
    | ((with_reducible refine k_sneq_t hO ?_ ?_); (focus (first | assumption | rfl | (simp; done))); try cbv)
    | ((with_reducible refine k_sneq_f hO ?_ ?_); (focus (first | assumption | decide | (simp; done))); try cbv)
    | ((with_reducible refine k_sneq hO (fun h => ?_) (fun h => ?_)) <;> try cbv)
    | ((with_reducible refine k_slen hO ?_ (fun n hn => ?_)); (focus (exact undOk hQ rfl)); try cbv)
    | ((with_reducible refine k_sadd hO ?_ (fun s hs hz => ?_)); (focus (first | omega | assumption | (simp only [size_lit, List.length_cons, List.length_nil] at *; omega) | (simp_all; done) | (simp_all; omega))); (try simp only [size_lit, List.length_cons, List.length_nil, Nat.reduceAdd] at hz); (try cbv))
    | ((with_reducible apply k_conv_in hO); (focus (exact undOk hQ rfl)); (focus (exact undOk hQ rfl)); (focus (simp only [inK, zn_eq, flen] at *; omega)); try cbv)
    | ((with_reducible apply k_rune hO); (focus (exact undOk hQ rfl)); (focus (exact undOk hQ rfl)); intro s hs; try cbv)
    | ((with_reducible apply k_sidx hO); (focus (exact undOk hQ rfl)); (focus assumption); (focus assumption); intro n hn; try cbv)
    | ((with_reducible refine k_min hO (fun n hn1 hn2 hn3 => ?_)); try cbv)
    | ((with_reducible refine k_max hO (fun n hn1 hn2 hn3 => ?_)); try cbv)
    | ((with_reducible refine k_rem_pos hO ?_ ?_ (fun n hn => ?_)); (focus (first | (simp only [zn_eq, flen] at *; omega) | omega)); (focus (first | (simp only [zn_eq, flen] at *; omega) | omega)); try cbv)
    | ((with_reducible refine k_rem hO ?_ (fun n hn => ?_)); (focus (first | (simp only [zn_eq, flen] at *; omega) | omega)); try cbv)
    | ((with_reducible refine k_quo_in hO ?_ ?_ ?_ (fun n hn => ?_)); (focus (first | (simp only [zn_eq, flen] at *; omega) | omega)); (focus (first | (simp only [zn_eq, flen] at *; omega) | omega)); (focus (simp only [inK, zn_eq, flen] at *; omega)); try cbv)
    | ((with_reducible refine k_quo_pos hO ?_ ?_ (fun n hn => ?_)); (focus (first | (simp only [zn_eq, flen] at *; omega) | omega)); (focus (first | (simp only [zn_eq, flen] at *; omega) | omega)); try simp (disch := omega) only [wrap_i64, wrap_u8, wrap_u64, wrap_i32, wrap_u16, wrap_u32] at hn; try cbv)
    | ((with_reducible refine k_not hO ?_); try cbv)
    | ((with_reducible refine o_ble hO ?_ ?_); (focus (first | assumption | exact Nat.le_refl _ | exact Nat.zero_le _ | (simp only [zn_eq, flen] at *; omega) | omega | decide | (simp; done) | (simp; omega) | (simp_all; done) | (simp_all [zn_eq]; omega))); try cbv)
    | ((with_reducible refine o_cut hO ?_ ?_ ?_); (focus (first | assumption | exact Nat.le_refl _ | exact Nat.zero_le _ | (simp only [zn_eq, flen] at *; omega) | omega | decide | (simp; done) | (simp; omega) | (simp_all; done) | (simp_all [zn_eq]; omega))); (focus (first | assumption | exact Nat.le_refl _ | exact Nat.zero_le _ | (simp only [zn_eq, flen] at *; omega) | omega | decide | (simp; done) | (simp; omega) | (simp_all; done) | (simp_all [zn_eq]; omega))); try cbv)
    | ((with_reducible refine o_room hO ?_ ?_ ?_); (focus (first | exact Or.inl rfl | (simp; done))); (focus (first | assumption | exact Nat.le_refl _ | exact Nat.zero_le _ | (simp only [zn_eq, flen] at *; omega) | omega | decide | (simp; done) | (simp; omega) | (simp_all; done) | (simp_all [zn_eq]; omega))); try cbv)
    | ((with_reducible refine o_nat_l hO ?_); try cbv)
    | ((with_reducible refine o_nat hO ?_ (fun j hj => ?_)); (focus (first | (simp only [zn_eq, flen] at *; omega) | omega)); try cbv)
    | ((with_reducible refine o_at_l hO ?_ ?_); (focus (first | assumption | exact Nat.le_refl _ | exact Nat.zero_le _ | (simp only [zn_eq, flen] at *; omega) | omega | decide | (simp; done) | (simp; omega) | (simp_all; done) | (simp_all [zn_eq]; omega))); try cbv)
    | ((with_reducible refine o_at hO ?_ ?_ (fun j hj => ?_)); (focus (first | (simp only [zn_eq, flen] at *; omega) | omega)); (focus (first | assumption | exact Nat.le_refl _ | exact Nat.zero_le _ | (simp only [zn_eq, flen] at *; omega) | omega | decide | (simp; done) | (simp; omega) | (simp_all; done) | (simp_all [zn_eq]; omega))); try cbv)
    | ((with_reducible apply o_len_l hO); (focus decide); try cbv)
    | ((with_reducible refine o_len hO (fun n hn => ?_)); try cbv)
    | ((with_reducible refine o_mk hO ?_ ?_ ?_ ?_ (fun j hj => ?_)); (focus (first | assumption | exact Nat.le_refl _ | exact Nat.zero_le _ | (simp only [zn_eq, flen] at *; omega) | omega | decide | (simp; done) | (simp; omega) | (simp_all; done) | (simp_all [zn_eq]; omega))); (focus (first | (simp only [zn_eq, flen] at *; omega) | omega)); (focus (first | (simp only [zn_eq, flen] at *; omega) | omega)); (focus (first | assumption | exact Nat.le_refl _ | exact Nat.zero_le _ | (simp only [zn_eq, flen] at *; omega) | omega | decide | (simp; done) | (simp; omega) | (simp_all; done) | (simp_all [zn_eq]; omega))); try cbv)
    | ((with_reducible refine o_empty hO ?_ ?_); (focus (first | rfl | assumption)); try cbv)
    | ((with_reducible apply o_elem_l hO); (focus (first | assumption | rfl | (simp; done))); try cbv)
    | ((with_reducible apply o_elem hO); (focus assumption); (focus assumption); try cbv)
    | ((with_reducible apply o_get hO); (focus (first | assumption | rfl | (simp; done))); try cbv)
    | ((with_reducible refine o_guard hO ?_ ?_); (focus (first | decide +kernel | (simp; done))); try cbv))
  all_goals (first | exact ⟨trivial, trivial⟩ | trace_state)

set_option maxHeartbeats 2000000 in
theorem stmt9 (k : Int) (nm : ByteArray) (er : List (List PV)) (cnt : Int) (br lr : List (List PV)) (a : Int) (cs v0 v1 : ByteArray) (bt et : List UInt8) (he : Bool) (d : Nat) (l : List UInt8)
    (hd : d ≤ 1000) (hv0 : SemCall P04 33 [.p (.agg (smC' k nm er cnt br lr a)), vi 0] [] (one (.v (.string v0)))) (hv1 : SemCall P04 33 [.p (.agg (smC' k nm er cnt br lr a)), vi 1] [] (one (.v (.string v1))))
    (hc : SemCall P04 23 [vi cnt] [] (one (.v (.string cs))))
    (hb : ∀ n, n = zn d + 1 → ∀ l : List UInt8, (l ++ bt).length ≤ 140737488355328 → SemCall P04 12 [.ptr 0 0 0, .p (.sl 7 br), vi n] (bldO (bRows l)) (bldR (bRows (l ++ bt))))
    (hel : ∀ n, n = zn d + 1 → ∀ l : List UInt8, (l ++ et).length ≤ 140737488355328 → SemCall P04 12 [.ptr 0 0 0, .p (.sl 7 lr), vi n] (bldO (bRows l)) (bldR (bRows (l ++ et))))
    (hhe : he = decide (lr ≠ []))
    (hr : (l ++ stT d k nm cs v0 v1 bt et he).length ≤ 140737488355328) (hk : ¬ k = 0 ∧ ¬ k = 1 ∧ ¬ k = 2 ∧ ¬ k = 3 ∧ ¬ k = 4 ∧ ¬ k = 5 ∧ ¬ k = 6 ∧ ¬ k = 7 ∧ ¬ k = 8) :
    SemCall P04 24 [.ptr 0 0 0, .p (.agg (smC' k nm er cnt br lr a)), vi (zn d)] (bldO (bRows l)) (bldR (bRows (l ++ stT d k nm cs v0 v1 bt et he))) := by
  obtain ⟨c0, c1, c2, c3, c4, c5, c6, c7, c8⟩ := hk
  have e : stT d k nm cs v0 v1 bt et he = lineB d [sb [111, 117, 116, 112, 117, 116, 32], v0, sb [59]] := by unfold stT; rw [if_neg c0, if_neg c1, if_neg c2, if_neg c3, if_neg c4, if_neg c5, if_neg c6, if_neg c7, if_neg c8]
  rw [e] at hr ⊢
  have hl1 := line_named l d _ hd (by simp) hr
  clear hb hel hhe e hr
  generalize bRows (l ++ lineB d [sb [111, 117, 116, 112, 117, 116, 32], v0, sb [59]]) = r1 at *
  generalize bRows l = r0 at *
  generalize zn d = dd at *
  simp only [strRows, List.map_cons, List.map_nil, sb] at hl1
  refine semCall_of_prop (fn := Tryd.f24) (T := tab) tabOk mixed04 (by rfl) (by rfl) (by kernel_rfl) ?_
  intro Q O F hQ hO hF
  have flen := lofLen hF
  have ftake := lofTake hF
  have fdrop := lofDrop hF
  have fapp := lofApp hF
  have fset := lofSet hF
  have fbytes := lofBytes hF
  have frep := lofRep hF
  unfold Tryd.f24
  cbv
  repeat' (first
    | (with_reducible refine o_call hO hQ hv0 ?_); try cbv
    | (with_reducible refine o_call hO hQ hv1 ?_); try cbv
    | (with_reducible refine o_call hO hQ hl1 ?_); try cbv
    | ((with_reducible refine k_eql_t hO ?_ ?_); (focus (first | assumption | (simp only [zn_eq, flen] at *; omega) | omega)); try cbv)
    | ((with_reducible refine k_eql_f hO ?_ ?_); (focus (first | assumption | (simp only [zn_eq, flen] at *; omega) | omega)); try cbv)
    | ((with_reducible refine k_eql hO (fun h => ?_) (fun h => ?_)) <;> try cbv)
    | ((with_reducible refine k_neq_t hO ?_ ?_); (focus (first | assumption | (simp only [zn_eq, flen] at *; omega) | omega)); try cbv)
    | ((with_reducible refine k_neq_f hO ?_ ?_); (focus (first | assumption | (simp only [zn_eq, flen] at *; omega) | omega)); try cbv)
    | ((with_reducible refine k_neq hO (fun h => ?_) (fun h => ?_)) <;> try cbv)
    | ((with_reducible refine k_lss_t hO ?_ ?_); (focus (first | assumption | (simp only [zn_eq, flen] at *; omega) | omega)); try cbv)
    | ((with_reducible refine k_lss_f hO ?_ ?_); (focus (first | assumption | (simp only [zn_eq, flen] at *; omega) | omega)); try cbv)
    | ((with_reducible refine k_lss hO (fun h => ?_) (fun h => ?_)) <;> try cbv)
    | ((with_reducible refine k_leq_t hO ?_ ?_); (focus (first | assumption | (simp only [zn_eq, flen] at *; omega) | omega)); try cbv)
    | ((with_reducible refine k_leq_f hO ?_ ?_); (focus (first | assumption | (simp only [zn_eq, flen] at *; omega) | omega)); try cbv)
    | ((with_reducible refine k_leq hO (fun h => ?_) (fun h => ?_)) <;> try cbv)
    | ((with_reducible refine k_gtr_t hO ?_ ?_); (focus (first | assumption | (simp only [zn_eq, flen] at *; omega) | omega)); try cbv)
    | ((with_reducible refine k_gtr_f hO ?_ ?_); (focus (first | assumption | (simp only [zn_eq, flen] at *; omega) | omega)); try cbv)
    | ((with_reducible refine k_gtr hO (fun h => ?_) (fun h => ?_)) <;> try cbv)
    | ((with_reducible refine k_geq_t hO ?_ ?_); (focus (first | assumption | (simp only [zn_eq, flen] at *; omega) | omega)); try cbv)
    | ((with_reducible refine k_geq_f hO ?_ ?_); (focus (first | assumption | (simp only [zn_eq, flen] at *; omega) | omega)); try cbv)
    | ((with_reducible refine k_geq hO (fun h => ?_) (fun h => ?_)) <;> try cbv)
    | ((with_reducible refine k_add_l hO ?_ ?_); (focus decide); try cbv)
    | ((with_reducible refine k_add_in hO ?_ (fun n hn => ?_)); (focus (simp only [inK, zn_eq, flen] at *; omega)); try cbv)
    | ((with_reducible refine k_add hO (fun n hn => ?_)); try cbv)
    | ((with_reducible refine k_sub_l hO ?_ ?_); (focus decide); try cbv)
    | ((with_reducible refine k_sub_in hO ?_ (fun n hn => ?_)); (focus (simp only [inK, zn_eq, flen] at *; omega)); try cbv)
    | ((with_reducible refine k_sub hO (fun n hn => ?_)); try cbv)
    | ((with_reducible refine k_mul_l hO ?_ ?_); (focus decide); try cbv)
    | ((with_reducible refine k_mul_in hO ?_ (fun n hn => ?_)); (focus (simp only [inK, zn_eq, flen] at *; omega)); try cbv)
    | ((with_reducible refine k_mul hO (fun n hn => ?_)); try cbv)
    | ((with_reducible refine k_seql_t hO ?_ ?_); (focus (first | assumption | rfl | (simp; done))); try cbv)
    | ((with_reducible refine k_seql_f hO ?_ ?_); (focus (first | assumption | decide | (simp; done))); try cbv)
    | ((with_reducible refine k_seql hO (fun h => ?_) (fun h => ?_)) <;> try cbv)
    | ((with_reducible refine k_sneq_t hO ?_ ?_); (focus (first | assumption | rfl | (simp; done))); try cbv)
    | ((with_reducible refine k_sneq_f hO ?_ ?_); (focus (first | assumption | decide | (simp; done))); try cbv)
    | ((with_reducible refine k_sneq hO (fun h => ?_) (fun h => ?_)) <;> try cbv)
    | ((with_reducible refine k_slen hO ?_ (fun n hn => ?_)); (focus (exact undOk hQ rfl)); try cbv)
    | ((with_reducible refine k_sadd hO ?_ (fun s hs hz => ?_)); (focus (first | omega | assumption | (simp only [size_lit, List.length_cons, List.length_nil] at *; omega) | (simp_all; done) | (simp_all; omega))); (try simp only [size_lit, List.length_cons, List.length_nil, Nat.reduceAdd] at hz); (try cbv))
    | ((with_reducible apply k_conv_in hO); (focus (exact undOk hQ rfl)); (focus (exact undOk hQ rfl)); (focus (simp only [inK, zn_eq, flen] at *; omega)); try cbv)
    | ((with_reducible apply k_rune hO); (focus (exact undOk hQ rfl)); (focus (exact undOk hQ rfl)); intro s hs; try cbv)
    | ((with_reducible apply k_sidx hO); (focus (exact undOk hQ rfl)); (focus assumption); (focus assumption); intro n hn; try cbv)
    | ((with_reducible refine k_min hO (fun n hn1 hn2 hn3 => ?_)); try cbv)
    | ((with_reducible refine k_max hO (fun n hn1 hn2 hn3 => ?_)); try cbv)
    | ((with_reducible refine k_rem_pos hO ?_ ?_ (fun n hn => ?_)); (focus (first | (simp only [zn_eq, flen] at *; omega) | omega)); (focus (first | (simp only [zn_eq, flen] at *; omega) | omega)); try cbv)
    | ((with_reducible refine k_rem hO ?_ (fun n hn => ?_)); (focus (first | (simp only [zn_eq, flen] at *; omega) | omega)); try cbv)
    | ((with_reducible refine k_quo_in hO ?_ ?_ ?_ (fun n hn => ?_)); (focus (first | (simp only [zn_eq, flen] at *; omega) | omega)); (focus (first | (simp only [zn_eq, flen] at *; omega) | omega)); (focus (simp only [inK, zn_eq, flen] at *; omega)); try cbv)
    | ((with_reducible refine k_quo_pos hO ?_ ?_ (fun n hn => ?_)); (focus (first | (simp only [zn_eq, flen] at *; omega) | omega)); (focus (first | (simp only [zn_eq, flen] at *; omega) | omega)); try simp (disch := omega) only [wrap_i64, wrap_u8, wrap_u64, wrap_i32, wrap_u16, wrap_u32] at hn; try cbv)
    | ((with_reducible refine k_not hO ?_); try cbv)
    | ((with_reducible refine o_ble hO ?_ ?_); (focus (first | assumption | exact Nat.le_refl _ | exact Nat.zero_le _ | (simp only [zn_eq, flen] at *; omega) | omega | decide | (simp; done) | (simp; omega) | (simp_all; done) | (simp_all [zn_eq]; omega))); try cbv)
    | ((with_reducible refine o_cut hO ?_ ?_ ?_); (focus (first | assumption | exact Nat.le_refl _ | exact Nat.zero_le _ | (simp only [zn_eq, flen] at *; omega) | omega | decide | (simp; done) | (simp; omega) | (simp_all; done) | (simp_all [zn_eq]; omega))); (focus (first | assumption | exact Nat.le_refl _ | exact Nat.zero_le _ | (simp only [zn_eq, flen] at *; omega) | omega | decide | (simp; done) | (simp; omega) | (simp_all; done) | (simp_all [zn_eq]; omega))); try cbv)
    | ((with_reducible refine o_room hO ?_ ?_ ?_); (focus (first | exact Or.inl rfl | (simp; done))); (focus (first | assumption | exact Nat.le_refl _ | exact Nat.zero_le _ | (simp only [zn_eq, flen] at *; omega) | omega | decide | (simp; done) | (simp; omega) | (simp_all; done) | (simp_all [zn_eq]; omega))); try cbv)
    | ((with_reducible refine o_nat_l hO ?_); try cbv)
    | ((with_reducible refine o_nat hO ?_ (fun j hj => ?_)); (focus (first | (simp only [zn_eq, flen] at *; omega) | omega)); try cbv)
    | ((with_reducible refine o_at_l hO ?_ ?_); (focus (first | assumption | exact Nat.le_refl _ | exact Nat.zero_le _ | (simp only [zn_eq, flen] at *; omega) | omega | decide | (simp; done) | (simp; omega) | (simp_all; done) | (simp_all [zn_eq]; omega))); try cbv)
    | ((with_reducible refine o_at hO ?_ ?_ (fun j hj => ?_)); (focus (first | (simp only [zn_eq, flen] at *; omega) | omega)); (focus (first | assumption | exact Nat.le_refl _ | exact Nat.zero_le _ | (simp only [zn_eq, flen] at *; omega) | omega | decide | (simp; done) | (simp; omega) | (simp_all; done) | (simp_all [zn_eq]; omega))); try cbv)
    | ((with_reducible apply o_len_l hO); (focus decide); try cbv)
    | ((with_reducible refine o_len hO (fun n hn => ?_)); try cbv)
    | ((with_reducible refine o_mk hO ?_ ?_ ?_ ?_ (fun j hj => ?_)); (focus (first | assumption | exact Nat.le_refl _ | exact Nat.zero_le _ | (simp only [zn_eq, flen] at *; omega) | omega | decide | (simp; done) | (simp; omega) | (simp_all; done) | (simp_all [zn_eq]; omega))); (focus (first | (simp only [zn_eq, flen] at *; omega) | omega)); (focus (first | (simp only [zn_eq, flen] at *; omega) | omega)); (focus (first | assumption | exact Nat.le_refl _ | exact Nat.zero_le _ | (simp only [zn_eq, flen] at *; omega) | omega | decide | (simp; done) | (simp; omega) | (simp_all; done) | (simp_all [zn_eq]; omega))); try cbv)
    | ((with_reducible refine o_empty hO ?_ ?_); (focus (first | rfl | assumption)); try cbv)
    | ((with_reducible apply o_elem_l hO); (focus (first | assumption | rfl | (simp; done))); try cbv)
    | ((with_reducible apply o_elem hO); (focus assumption); (focus assumption); try cbv)
    | ((with_reducible apply o_get hO); (focus (first | assumption | rfl | (simp; done))); try cbv)
    | ((with_reducible refine o_guard hO ?_ ?_); (focus (first | decide +kernel | (simp; done))); try cbv))
  all_goals (first | exact ⟨trivial, trivial⟩ | trace_state)

end Go.Proofs.YtkjglhamlnnboaaDoor.Am
