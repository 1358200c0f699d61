/-
  Contracts: expressions' texts, whole.
-/
import Derived.Test.YtkjglhamlnnboaaDoorD
set_option linter.unusedVariables false
set_option linter.unusedSimpArgs false
namespace Go.Proofs.YtkjglhamlnnboaaDoor.Am
open Go Go.Proofs Go.RowKit
attribute [local semireducible] kcell khdr

theorem kid_none (k op : Int) (nm : ByteArray) (v : Int) (ks : List (List PV)) (a i t : Int) (h : zn ks.length ≤ i) :
    SemCall P04 16 [vi i, vi t, .ptr 0 0 0] [⟨31, exO k op nm v ks a⟩] (kidRes (sb [63])) := by
  refine semCall_of_prop (fn := Tryd.f16) (T := tab) tabOk mixed04 (by rfl) (by rfl) (by kernel_rfl) ?_
  intro Q O F hQ hO hF
  have flen := lofLen hF
  have ftake := lofTake hF
  have fdrop := lofDrop hF
  have fapp := lofApp hF
  have fset := lofSet hF
  have fbytes := lofBytes hF
  have frep := lofRep hF
  unfold Tryd.f16
  cbv
  repeat' (first
    | ((with_reducible refine k_eql_t hO ?_ ?_); (focus (first | assumption | (simp only [zn_eq, flen] at *; omega) | omega)); try cbv)
    | ((with_reducible refine k_eql_f hO ?_ ?_); (focus (first | assumption | (simp only [zn_eq, flen] at *; omega) | omega)); try cbv)
    | ((with_reducible refine k_eql hO (fun h => ?_) (fun h => ?_)) <;> try cbv)
    | ((with_reducible refine k_neq_t hO ?_ ?_); (focus (first | assumption | (simp only [zn_eq, flen] at *; omega) | omega)); try cbv)
    | ((with_reducible refine k_neq_f hO ?_ ?_); (focus (first | assumption | (simp only [zn_eq, flen] at *; omega) | omega)); try cbv)
    | ((with_reducible refine k_neq hO (fun h => ?_) (fun h => ?_)) <;> try cbv)
    | ((with_reducible refine k_lss_t hO ?_ ?_); (focus (first | assumption | (simp only [zn_eq, flen] at *; omega) | omega)); try cbv)
    | ((with_reducible refine k_lss_f hO ?_ ?_); (focus (first | assumption | (simp only [zn_eq, flen] at *; omega) | omega)); try cbv)
    | ((with_reducible refine k_lss hO (fun h => ?_) (fun h => ?_)) <;> try cbv)
    | ((with_reducible refine k_leq_t hO ?_ ?_); (focus (first | assumption | (simp only [zn_eq, flen] at *; omega) | omega)); try cbv)
    | ((with_reducible refine k_leq_f hO ?_ ?_); (focus (first | assumption | (simp only [zn_eq, flen] at *; omega) | omega)); try cbv)
    | ((with_reducible refine k_leq hO (fun h => ?_) (fun h => ?_)) <;> try cbv)
    | ((with_reducible refine k_gtr_t hO ?_ ?_); (focus (first | assumption | (simp only [zn_eq, flen] at *; omega) | omega)); try cbv)
    | ((with_reducible refine k_gtr_f hO ?_ ?_); (focus (first | assumption | (simp only [zn_eq, flen] at *; omega) | omega)); try cbv)
    | ((with_reducible refine k_gtr hO (fun h => ?_) (fun h => ?_)) <;> try cbv)
    | ((with_reducible refine k_geq_t hO ?_ ?_); (focus (first | assumption | (simp only [zn_eq, flen] at *; omega) | omega)); try cbv)
    | ((with_reducible refine k_geq_f hO ?_ ?_); (focus (first | assumption | (simp only [zn_eq, flen] at *; omega) | omega)); try cbv)
    | ((with_reducible refine k_geq hO (fun h => ?_) (fun h => ?_)) <;> try cbv)
    | ((with_reducible refine k_add_l hO ?_ ?_); (focus decide); try cbv)
    | ((with_reducible refine k_add_in hO ?_ (fun n hn => ?_)); (focus (simp only [inK, zn_eq, flen] at *; omega)); try cbv)
    | ((with_reducible refine k_add hO (fun n hn => ?_)); try cbv)
    | ((with_reducible refine k_sub_l hO ?_ ?_); (focus decide); try cbv)
    | ((with_reducible refine k_sub_in hO ?_ (fun n hn => ?_)); (focus (simp only [inK, zn_eq, flen] at *; omega)); try cbv)
    | ((with_reducible refine k_sub hO (fun n hn => ?_)); try cbv)
    | ((with_reducible refine k_mul_l hO ?_ ?_); (focus decide); try cbv)
    | ((with_reducible refine k_mul_in hO ?_ (fun n hn => ?_)); (focus (simp only [inK, zn_eq, flen] at *; omega)); try cbv)
    | ((with_reducible refine k_mul hO (fun n hn => ?_)); try cbv)
    | ((with_reducible refine k_seql_t hO ?_ ?_); (focus (first | assumption | rfl | (simp; done))); try cbv)
    | ((with_reducible refine k_seql_f hO ?_ ?_); (focus (first | assumption | decide | (simp; done))); try cbv)
    | ((with_reducible refine k_seql hO (fun h => ?_) (fun h => ?_)) <;> try cbv)
    | ((with_reducible refine k_sneq_t hO ?_ ?_); (focus (first | assumption | rfl | (simp; done))); try cbv)
    | ((with_reducible refine k_sneq_f hO ?_ ?_); (focus (first | assumption | decide | (simp; done))); try cbv)
    | ((with_reducible refine k_sneq hO (fun h => ?_) (fun h => ?_)) <;> try cbv)
    | ((with_reducible refine k_slen hO ?_ (fun n hn => ?_)); (focus (exact undOk hQ rfl)); try cbv)
    | ((with_reducible refine k_sadd hO ?_ (fun s hs hz => ?_)); (focus (first | omega | assumption | (simp only [size_lit, List.length_cons, List.length_nil] at *; omega) | (simp_all; done) | (simp_all; omega))); (try simp only [size_lit, List.length_cons, List.length_nil, Nat.reduceAdd] at hz); (try cbv))
    | ((with_reducible apply k_conv_in hO); (focus (exact undOk hQ rfl)); (focus (exact undOk hQ rfl)); (focus (simp only [inK, zn_eq, flen] at *; omega)); try cbv)
    | ((with_reducible apply k_rune hO); (focus (exact undOk hQ rfl)); (focus (exact undOk hQ rfl)); intro s hs; try cbv)
    | ((with_reducible apply k_sidx hO); (focus (exact undOk hQ rfl)); (focus assumption); (focus assumption); intro n hn; try cbv)
    | ((with_reducible refine k_min hO (fun n hn1 hn2 hn3 => ?_)); try cbv)
    | ((with_reducible refine k_max hO (fun n hn1 hn2 hn3 => ?_)); try cbv)
    | ((with_reducible refine k_rem_pos hO ?_ ?_ (fun n hn => ?_)); (focus (first | (simp only [zn_eq, flen] at *; omega) | omega)); (focus (first | (simp only [zn_eq, flen] at *; omega) | omega)); try cbv)
    | ((with_reducible refine k_rem hO ?_ (fun n hn => ?_)); (focus (first | (simp only [zn_eq, flen] at *; omega) | omega)); try cbv)
    | ((with_reducible refine k_quo_in hO ?_ ?_ ?_ (fun n hn => ?_)); (focus (first | (simp only [zn_eq, flen] at *; omega) | omega)); (focus (first | (simp only [zn_eq, flen] at *; omega) | omega)); (focus (simp only [inK, zn_eq, flen] at *; omega)); try cbv)
    | ((with_reducible refine k_quo_pos hO ?_ ?_ (fun n hn => ?_)); (focus (first | (simp only [zn_eq, flen] at *; omega) | omega)); (focus (first | (simp only [zn_eq, flen] at *; omega) | omega)); try simp (disch := omega) only [wrap_i64, wrap_u8, wrap_u64, wrap_i32, wrap_u16, wrap_u32] at hn; try cbv)
    | ((with_reducible refine k_not hO ?_); try cbv)
    | ((with_reducible refine o_ble hO ?_ ?_); (focus (first | assumption | exact Nat.le_refl _ | exact Nat.zero_le _ | (simp only [zn_eq, flen] at *; omega) | omega | decide | (simp; done) | (simp; omega) | (simp_all; done) | (simp_all [zn_eq]; omega))); try cbv)
    | ((with_reducible refine o_cut hO ?_ ?_ ?_); (focus (first | assumption | exact Nat.le_refl _ | exact Nat.zero_le _ | (simp only [zn_eq, flen] at *; omega) | omega | decide | (simp; done) | (simp; omega) | (simp_all; done) | (simp_all [zn_eq]; omega))); (focus (first | assumption | exact Nat.le_refl _ | exact Nat.zero_le _ | (simp only [zn_eq, flen] at *; omega) | omega | decide | (simp; done) | (simp; omega) | (simp_all; done) | (simp_all [zn_eq]; omega))); try cbv)
    | ((with_reducible refine o_room hO ?_ ?_ ?_); (focus (first | exact Or.inl rfl | (simp; done))); (focus (first | assumption | exact Nat.le_refl _ | exact Nat.zero_le _ | (simp only [zn_eq, flen] at *; omega) | omega | decide | (simp; done) | (simp; omega) | (simp_all; done) | (simp_all [zn_eq]; omega))); try cbv)
    | ((with_reducible refine o_nat_l hO ?_); try cbv)
    | ((with_reducible refine o_nat hO ?_ (fun j hj => ?_)); (focus (first | (simp only [zn_eq, flen] at *; omega) | omega)); try cbv)
    | ((with_reducible refine o_at_l hO ?_ ?_); (focus (first | assumption | exact Nat.le_refl _ | exact Nat.zero_le _ | (simp only [zn_eq, flen] at *; omega) | omega | decide | (simp; done) | (simp; omega) | (simp_all; done) | (simp_all [zn_eq]; omega))); try cbv)
    | ((with_reducible refine o_at hO ?_ ?_ (fun j hj => ?_)); (focus (first | (simp only [zn_eq, flen] at *; omega) | omega)); (focus (first | assumption | exact Nat.le_refl _ | exact Nat.zero_le _ | (simp only [zn_eq, flen] at *; omega) | omega | decide | (simp; done) | (simp; omega) | (simp_all; done) | (simp_all [zn_eq]; omega))); try cbv)
    | ((with_reducible apply o_len_l hO); (focus decide); try cbv)
    | ((with_reducible refine o_len hO (fun n hn => ?_)); try cbv)
    | ((with_reducible refine o_mk hO ?_ ?_ ?_ ?_ (fun j hj => ?_)); (focus (first | assumption | exact Nat.le_refl _ | exact Nat.zero_le _ | (simp only [zn_eq, flen] at *; omega) | omega | decide | (simp; done) | (simp; omega) | (simp_all; done) | (simp_all [zn_eq]; omega))); (focus (first | (simp only [zn_eq, flen] at *; omega) | omega)); (focus (first | (simp only [zn_eq, flen] at *; omega) | omega)); (focus (first | assumption | exact Nat.le_refl _ | exact Nat.zero_le _ | (simp only [zn_eq, flen] at *; omega) | omega | decide | (simp; done) | (simp; omega) | (simp_all; done) | (simp_all [zn_eq]; omega))); try cbv)
    | ((with_reducible refine o_empty hO ?_ ?_); (focus (first | rfl | assumption)); try cbv)
    | ((with_reducible apply o_elem_l hO); (focus (first | assumption | rfl | (simp; done))); try cbv)
    | ((with_reducible apply o_elem hO); (focus assumption); (focus assumption); try cbv)
    | ((with_reducible apply o_get hO); (focus (first | assumption | rfl | (simp; done))); try cbv)
    | ((with_reducible refine o_guard hO ?_ ?_); (focus (first | decide +kernel | (simp; done))); try cbv))
  all_goals (first | exact ⟨rfl, trivial⟩ | (exfalso; simp only [zn_eq, flen] at *; omega) | trace_state)

theorem kid_some (k op : Int) (nm : ByteArray) (v : Int) (ks : List (List PV)) (a i t : Int) (j : Nat) (hj : zn j = i) (k1 op1 : Int) (nm1 : ByteArray) (v1 : Int) (ks1 : List (List PV)) (a1 : Int)
    (h : ks[j]? = some (exC' k1 op1 nm1 v1 ks1 a1)) (s : ByteArray) (hs : SemCall P04 9 [.p (.agg (exC' k1 op1 nm1 v1 ks1 a1)), vi t] [] (one (.v (.string s)))) :
    SemCall P04 16 [vi i, vi t, .ptr 0 0 0] [⟨31, exO k op nm v ks a⟩] (kidRes s) := by
  have hl : j < ks.length := (List.getElem?_eq_some_iff.1 h).1
  have hl2 : i < zn ks.length := by rw [zn_eq] at *; omega
  refine semCall_of_prop (fn := Tryd.f16) (T := tab) tabOk mixed04 (by rfl) (by rfl) (by kernel_rfl) ?_
  intro Q O F hQ hO hF
  have flen := lofLen hF
  have ftake := lofTake hF
  have fdrop := lofDrop hF
  have fapp := lofApp hF
  have fset := lofSet hF
  have fbytes := lofBytes hF
  have frep := lofRep hF
  unfold Tryd.f16
  cbv
  repeat' (first
    | (with_reducible refine o_call hO hQ hs ?_); try cbv
    | (with_reducible refine o_at_g hO hj ?_ ?_); (focus (simp only [flen]; omega)); try cbv
    | (with_reducible refine o_elem hO hj h ?_); try cbv
    | (with_reducible refine o_get hO h ?_); try cbv
    | ((with_reducible refine k_eql_t hO ?_ ?_); (focus (first | assumption | (simp only [zn_eq, flen] at *; omega) | omega)); try cbv)
    | ((with_reducible refine k_eql_f hO ?_ ?_); (focus (first | assumption | (simp only [zn_eq, flen] at *; omega) | omega)); try cbv)
    | ((with_reducible refine k_eql hO (fun h => ?_) (fun h => ?_)) <;> try cbv)
    | ((with_reducible refine k_neq_t hO ?_ ?_); (focus (first | assumption | (simp only [zn_eq, flen] at *; omega) | omega)); try cbv)
    | ((with_reducible refine k_neq_f hO ?_ ?_); (focus (first | assumption | (simp only [zn_eq, flen] at *; omega) | omega)); try cbv)
    | ((with_reducible refine k_neq hO (fun h => ?_) (fun h => ?_)) <;> try cbv)
    | ((with_reducible refine k_lss_t hO ?_ ?_); (focus (first | assumption | (simp only [zn_eq, flen] at *; omega) | omega)); try cbv)
    | ((with_reducible refine k_lss_f hO ?_ ?_); (focus (first | assumption | (simp only [zn_eq, flen] at *; omega) | omega)); try cbv)
    | ((with_reducible refine k_lss hO (fun h => ?_) (fun h => ?_)) <;> try cbv)
    | ((with_reducible refine k_leq_t hO ?_ ?_); (focus (first | assumption | (simp only [zn_eq, flen] at *; omega) | omega)); try cbv)
    | ((with_reducible refine k_leq_f hO ?_ ?_); (focus (first | assumption | (simp only [zn_eq, flen] at *; omega) | omega)); try cbv)
    | ((with_reducible refine k_leq hO (fun h => ?_) (fun h => ?_)) <;> try cbv)
    | ((with_reducible refine k_gtr_t hO ?_ ?_); (focus (first | assumption | (simp only [zn_eq, flen] at *; omega) | omega)); try cbv)
    | ((with_reducible refine k_gtr_f hO ?_ ?_); (focus (first | assumption | (simp only [zn_eq, flen] at *; omega) | omega)); try cbv)
    | ((with_reducible refine k_gtr hO (fun h => ?_) (fun h => ?_)) <;> try cbv)
    | ((with_reducible refine k_geq_t hO ?_ ?_); (focus (first | assumption | (simp only [zn_eq, flen] at *; omega) | omega)); try cbv)
    | ((with_reducible refine k_geq_f hO ?_ ?_); (focus (first | assumption | (simp only [zn_eq, flen] at *; omega) | omega)); try cbv)
    | ((with_reducible refine k_geq hO (fun h => ?_) (fun h => ?_)) <;> try cbv)
    | ((with_reducible refine k_add_l hO ?_ ?_); (focus decide); try cbv)
    | ((with_reducible refine k_add_in hO ?_ (fun n hn => ?_)); (focus (simp only [inK, zn_eq, flen] at *; omega)); try cbv)
    | ((with_reducible refine k_add hO (fun n hn => ?_)); try cbv)
    | ((with_reducible refine k_sub_l hO ?_ ?_); (focus decide); try cbv)
    | ((with_reducible refine k_sub_in hO ?_ (fun n hn => ?_)); (focus (simp only [inK, zn_eq, flen] at *; omega)); try cbv)
    | ((with_reducible refine k_sub hO (fun n hn => ?_)); try cbv)
    | ((with_reducible refine k_mul_l hO ?_ ?_); (focus decide); try cbv)
    | ((with_reducible refine k_mul_in hO ?_ (fun n hn => ?_)); (focus (simp only [inK, zn_eq, flen] at *; omega)); try cbv)
    | ((with_reducible refine k_mul hO (fun n hn => ?_)); try cbv)
    | ((with_reducible refine k_seql_t hO ?_ ?_); (focus (first | assumption | rfl | (simp; done))); try cbv)
    | ((with_reducible refine k_seql_f hO ?_ ?_); (focus (first | assumption | decide | (simp; done))); try cbv)
    | ((with_reducible refine k_seql hO (fun h => ?_) (fun h => ?_)) <;> try cbv)
    | ((with_reducible refine k_sneq_t hO ?_ ?_); (focus (first | assumption | rfl | (simp; done))); try cbv)
    | ((with_reducible refine k_sneq_f hO ?_ ?_); (focus (first | assumption | decide | (simp; done))); try cbv)
    | ((with_reducible refine k_sneq hO (fun h => ?_) (fun h => ?_)) <;> try cbv)
    | ((with_reducible refine k_slen hO ?_ (fun n hn => ?_)); (focus (exact undOk hQ rfl)); try cbv)
    | ((with_reducible refine k_sadd hO ?_ (fun s hs hz => ?_)); (focus (first | omega | assumption | (simp only [size_lit, List.length_cons, List.length_nil] at *; omega) | (simp_all; done) | (simp_all; omega))); (try simp only [size_lit, List.length_cons, List.length_nil, Nat.reduceAdd] at hz); (try cbv))
    | ((with_reducible apply k_conv_in hO); (focus (exact undOk hQ rfl)); (focus (exact undOk hQ rfl)); (focus (simp only [inK, zn_eq, flen] at *; omega)); try cbv)
    | ((with_reducible apply k_rune hO); (focus (exact undOk hQ rfl)); (focus (exact undOk hQ rfl)); intro s hs; try cbv)
    | ((with_reducible apply k_sidx hO); (focus (exact undOk hQ rfl)); (focus assumption); (focus assumption); intro n hn; try cbv)
    | ((with_reducible refine k_min hO (fun n hn1 hn2 hn3 => ?_)); try cbv)
    | ((with_reducible refine k_max hO (fun n hn1 hn2 hn3 => ?_)); try cbv)
    | ((with_reducible refine k_rem_pos hO ?_ ?_ (fun n hn => ?_)); (focus (first | (simp only [zn_eq, flen] at *; omega) | omega)); (focus (first | (simp only [zn_eq, flen] at *; omega) | omega)); try cbv)
    | ((with_reducible refine k_rem hO ?_ (fun n hn => ?_)); (focus (first | (simp only [zn_eq, flen] at *; omega) | omega)); try cbv)
    | ((with_reducible refine k_quo_in hO ?_ ?_ ?_ (fun n hn => ?_)); (focus (first | (simp only [zn_eq, flen] at *; omega) | omega)); (focus (first | (simp only [zn_eq, flen] at *; omega) | omega)); (focus (simp only [inK, zn_eq, flen] at *; omega)); try cbv)
    | ((with_reducible refine k_quo_pos hO ?_ ?_ (fun n hn => ?_)); (focus (first | (simp only [zn_eq, flen] at *; omega) | omega)); (focus (first | (simp only [zn_eq, flen] at *; omega) | omega)); try simp (disch := omega) only [wrap_i64, wrap_u8, wrap_u64, wrap_i32, wrap_u16, wrap_u32] at hn; try cbv)
    | ((with_reducible refine k_not hO ?_); try cbv)
    | ((with_reducible refine o_ble hO ?_ ?_); (focus (first | assumption | exact Nat.le_refl _ | exact Nat.zero_le _ | (simp only [zn_eq, flen] at *; omega) | omega | decide | (simp; done) | (simp; omega) | (simp_all; done) | (simp_all [zn_eq]; omega))); try cbv)
    | ((with_reducible refine o_cut hO ?_ ?_ ?_); (focus (first | assumption | exact Nat.le_refl _ | exact Nat.zero_le _ | (simp only [zn_eq, flen] at *; omega) | omega | decide | (simp; done) | (simp; omega) | (simp_all; done) | (simp_all [zn_eq]; omega))); (focus (first | assumption | exact Nat.le_refl _ | exact Nat.zero_le _ | (simp only [zn_eq, flen] at *; omega) | omega | decide | (simp; done) | (simp; omega) | (simp_all; done) | (simp_all [zn_eq]; omega))); try cbv)
    | ((with_reducible refine o_room hO ?_ ?_ ?_); (focus (first | exact Or.inl rfl | (simp; done))); (focus (first | assumption | exact Nat.le_refl _ | exact Nat.zero_le _ | (simp only [zn_eq, flen] at *; omega) | omega | decide | (simp; done) | (simp; omega) | (simp_all; done) | (simp_all [zn_eq]; omega))); try cbv)
    | ((with_reducible refine o_nat_l hO ?_); try cbv)
    | ((with_reducible refine o_nat hO ?_ (fun j hj => ?_)); (focus (first | (simp only [zn_eq, flen] at *; omega) | omega)); try cbv)
    | ((with_reducible refine o_at_l hO ?_ ?_); (focus (first | assumption | exact Nat.le_refl _ | exact Nat.zero_le _ | (simp only [zn_eq, flen] at *; omega) | omega | decide | (simp; done) | (simp; omega) | (simp_all; done) | (simp_all [zn_eq]; omega))); try cbv)
    | ((with_reducible refine o_at hO ?_ ?_ (fun j hj => ?_)); (focus (first | (simp only [zn_eq, flen] at *; omega) | omega)); (focus (first | assumption | exact Nat.le_refl _ | exact Nat.zero_le _ | (simp only [zn_eq, flen] at *; omega) | omega | decide | (simp; done) | (simp; omega) | (simp_all; done) | (simp_all [zn_eq]; omega))); try cbv)
    | ((with_reducible apply o_len_l hO); (focus decide); try cbv)
    | ((with_reducible refine o_len hO (fun n hn => ?_)); try cbv)
    | ((with_reducible refine o_mk hO ?_ ?_ ?_ ?_ (fun j hj => ?_)); (focus (first | assumption | exact Nat.le_refl _ | exact Nat.zero_le _ | (simp only [zn_eq, flen] at *; omega) | omega | decide | (simp; done) | (simp; omega) | (simp_all; done) | (simp_all [zn_eq]; omega))); (focus (first | (simp only [zn_eq, flen] at *; omega) | omega)); (focus (first | (simp only [zn_eq, flen] at *; omega) | omega)); (focus (first | assumption | exact Nat.le_refl _ | exact Nat.zero_le _ | (simp only [zn_eq, flen] at *; omega) | omega | decide | (simp; done) | (simp; omega) | (simp_all; done) | (simp_all [zn_eq]; omega))); try cbv)
    | ((with_reducible refine o_empty hO ?_ ?_); (focus (first | rfl | assumption)); try cbv)
    | ((with_reducible apply o_elem_l hO); (focus (first | assumption | rfl | (simp; done))); try cbv)
    | ((with_reducible apply o_elem hO); (focus assumption); (focus assumption); try cbv)
    | ((with_reducible apply o_get hO); (focus (first | assumption | rfl | (simp; done))); try cbv)
    | ((with_reducible refine o_guard hO ?_ ?_); (focus (first | decide +kernel | (simp; done))); try cbv))
  all_goals (first | exact ⟨rfl, trivial⟩ | (exfalso; simp only [zn_eq, flen] at *; omega) | trace_state)

inductive Ex where
  | mk (k op : Int) (nm : ByteArray) (v : Int) (ks : List Ex) (a : Int) : Ex
mutual
def exC : Ex → List PV
  | .mk k op nm v ks a => exC' k op nm v (exCs ks) a
def exCs : List Ex → List (List PV)
  | [] => []
  | e :: r => exC e :: exCs r
end
def kidT (fs : List (Int → ByteArray)) (i t : Int) : ByteArray := match fs[i.toNat]? with
  | some f => f t
  | none => sb [63]
mutual
def exT : Ex → Int → ByteArray
  | .mk k op nm v ks a, t => nodeT k op nm (itoaS v) (kidT (exTs ks)) t
def exTs : List Ex → List (Int → ByteArray)
  | [] => []
  | e :: r => (fun t => exT e t) :: exTs r
end
mutual
/-- No text is longer. -/
def exN : Ex → Nat
  | .mk k op nm v ks a => nm.size + (itoaS v).size + 20 + exNs ks
def exNs : List Ex → Nat
  | [] => 3
  | e :: r => exN e + exNs r
end
mutual
def exL : Ex → List Int
  | .mk k op nm v ks a => (if k = 0 then [v] else []) ++ exLs ks
def exLs : List Ex → List Int
  | [] => []
  | e :: r => exL e ++ exLs r
end

theorem exCs_get : ∀ (l : List Ex) (j : Nat), (exCs l)[j]? = l[j]?.map exC
  | [], j => by simp [exCs]
  | e :: r, 0 => by simp [exCs]
  | e :: r, j + 1 => by simpa [exCs] using exCs_get r j
theorem exTs_get : ∀ (l : List Ex) (j : Nat), (exTs l)[j]? = l[j]?.map fun e => fun t => exT e t
  | [], j => by simp [exTs]
  | e :: r, 0 => by simp [exTs]
  | e :: r, j + 1 => by simpa [exTs] using exTs_get r j
theorem exCs_len : ∀ (l : List Ex), (exCs l).length = l.length
  | [] => rfl
  | e :: r => by simp [exCs, exCs_len r]
theorem exLs_mem : ∀ {l : List Ex} {e : Ex} {v : Int}, e ∈ l → v ∈ exL e → v ∈ exLs l
  | x :: r, e, v, h, hv => by
    rcases List.mem_cons.1 h with rfl | h
    · simp [exLs, hv]
    · simp [exLs, exLs_mem h hv]
theorem exNs_mem : ∀ {l : List Ex} {e : Ex}, e ∈ l → exN e ≤ exNs l
  | x :: r, e, h => by
    rcases List.mem_cons.1 h with rfl | h
    · simp [exNs]
    · have := exNs_mem h
      simp only [exNs]; omega
theorem exNs_pos : ∀ (l : List Ex), 3 ≤ exNs l
  | [] => Nat.le_refl _
  | e :: r => by have := exNs_pos r; simp only [exNs]; omega

theorem sb_size (l : List UInt8) : (sb l).size = l.length := rfl
theorem nodeT_size (k op : Int) (nm iv : ByteArray) (kid : Int → Int → ByteArray) (t : Int) (n0 n1 n2 : Nat) (h0 : ∀ t, (kid 0 t).size ≤ n0) (h1 : ∀ t, (kid 1 t).size ≤ n1) (h2 : ∀ t, (kid 2 t).size ≤ n2) :
    (nodeT k op nm iv kid t).size ≤ nm.size + iv.size + 20 + n0 + n1 + n2 := by
  have hg : (signOf op).size ≤ 2 := by unfold signOf sb; (repeat' split) <;> decide
  have a0 := h0 0; have a1 := h1 0; have a2 := h2 0
  have b0 := h0 9; have b1 := h0 (tightOf op); have b2 := h1 (tightOf op + 1)
  unfold nodeT
  repeat' split
  all_goals (try simp only [ByteArray.size_append, sb_size, List.length_cons, List.length_nil])
  all_goals (try omega)

mutual
theorem exT_size : ∀ (e : Ex) (t : Int), (exT e t).size ≤ exN e
  | .mk k op nm v ks a, t => by
    have h := kids_size ks
    have h0 := h
    simp only [exT, exN]
    match ks, h with
    | [], h =>
      refine Nat.le_trans (nodeT_size k op nm _ _ t 1 1 1 ?_ ?_ ?_) (by simp only [exNs]; omega)
      all_goals (intro t; exact Nat.le_refl _)
    | [x], h =>
      refine Nat.le_trans (nodeT_size k op nm _ _ t (exN x) 1 1 ?_ ?_ ?_) (by simp only [exNs]; omega)
      · exact fun t => h 0 x rfl t
      all_goals (intro t; exact Nat.le_refl _)
    | [x, y], h =>
      refine Nat.le_trans (nodeT_size k op nm _ _ t (exN x) (exN y) 1 ?_ ?_ ?_) (by simp only [exNs]; omega)
      · exact fun t => h 0 x rfl t
      · exact fun t => h 1 y rfl t
      · intro t; exact Nat.le_refl _
    | x :: y :: z :: r, h =>
      refine Nat.le_trans (nodeT_size k op nm _ _ t (exN x) (exN y) (exN z) ?_ ?_ ?_) (by simp only [exNs]; omega)
      · exact fun t => h 0 x rfl t
      · exact fun t => h 1 y rfl t
      · exact fun t => h 2 z rfl t
theorem kids_size : ∀ (l : List Ex) (j : Nat) (x : Ex), l[j]? = some x → ∀ t, (exT x t).size ≤ exN x
  | [], j, x, h, t => by simp at h
  | e :: r, 0, x, h, t => by
    simp only [List.getElem?_cons_zero, Option.some.injEq] at h
    rw [← h]; exact exT_size e t
  | e :: r, j + 1, x, h, t => kids_size r j x (by simpa using h) t
end

theorem kidT_size (l : List Ex) (i t : Int) : (kidT (exTs l) i t).size ≤ exNs l := by
  unfold kidT
  rw [exTs_get]
  cases h : l[i.toNat]? with
  | none => exact Nat.le_trans (by decide : (sb [63]).size ≤ 3) (exNs_pos l)
  | some e => exact Nat.le_trans (exT_size e t) (exNs_mem (List.mem_of_getElem? h))

/-- An expression's text. -/
theorem expr_sem : ∀ (N : Nat) (e : Ex), SizeOf.sizeOf e ≤ N → (∀ v, v ∈ exL e → SemCall P04 17 [vu v, vi 10] [] (one (.v (.string (itoaS v))))) → exN e ≤ 1152921504606846976 →
    ∀ t, SemCall P04 9 [.p (.agg (exC e)), vi t] [] (one (.v (.string (exT e t)))) := by
  intro N
  induction N with
  | zero => intro e h; cases e; simp at h
  | succ N ih =>
    intro e h hl hn t
    obtain ⟨k, op, nm, v, ks, a⟩ := e
    simp only [exC, exT]
    simp only [exN] at hn
    refine expr_node k op nm v (exCs ks) a t (itoaS v) (kidT (exTs ks)) ?_ ?_ (fun i t => Nat.le_trans (kidT_size ks i t) (by omega)) (by omega)
    · intro i t h0
      cases hx : ks[i.toNat]? with
      | none =>
        have e1 : kidT (exTs ks) i t = sb [63] := by unfold kidT; rw [exTs_get, hx]; rfl
        rw [e1]
        have := List.getElem?_eq_none_iff.1 hx
        exact kid_none _ _ _ _ _ _ _ _ (by rw [zn_eq, exCs_len]; omega)
      | some x =>
        have e1 : kidT (exTs ks) i t = exT x t := by unfold kidT; rw [exTs_get, hx]; rfl
        rw [e1]
        have hm := List.mem_of_getElem? hx
        have hN : SizeOf.sizeOf x ≤ N := by
          have := List.sizeOf_lt_of_mem hm
          simp only [Ex.mk.sizeOf_spec] at h
          omega
        have hx2 := ih x hN (fun v hv => hl v (by simp only [exL]; exact List.mem_append_right _ (exLs_mem hm hv))) (by have := exNs_mem hm; omega) t
        obtain ⟨k1, op1, nm1, v1, ks1, a1⟩ := x
        refine kid_some k op nm v (exCs ks) a i t i.toNat (by rw [zn_eq]; omega) k1 op1 nm1 v1 (exCs ks1) a1 (by rw [exCs_get, hx]; simp [exC]) _ ?_
        simpa only [exC] using hx2
    · intro h0
      exact hl v (by simp [exL, h0])
end Go.Proofs.YtkjglhamlnnboaaDoor.Am
