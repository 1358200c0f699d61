/-
  Contracts: expressions' texts.
-/
import Derived.Test.YtkjglhamlnnboaaDoorC
set_option linter.unusedVariables false
set_option linter.unusedSimpArgs false
namespace Go.Proofs.YtkjglhamlnnboaaDoor.Am
open Go Go.Proofs Go.RowKit
attribute [local semireducible] kcell khdr

def tightOf (op : Int) : Int := if op = 0 then 6 else if op = 1 then 6 else if op = 2 then 7 else if op = 3 then 4 else if op = 4 then 1 else if op = 5 then 2 else if op = 6 then 5 else if op = 7 then 5 else if op = 8 then 3 else if op = 9 then 3 else 0
def noKnown (f : FuncId) (args : List AV) (imps : List ObjD) : Option CRes := none
theorem noKnown_ok : ∀ f args imps r, noKnown f args imps = some r → SemCall P04 f args imps r := fun _ _ _ _ h => by cases h

theorem tight_sem (op : Int) : SemCall P04 18 [vi op] [] (one (.v (.int .i64 (tightOf op)))) := by
  by_cases h : 0 ≤ op ∧ op ≤ 9
  · have hc : op = 0 ∨ op = 1 ∨ op = 2 ∨ op = 3 ∨ op = 4 ∨ op = 5 ∨ op = 6 ∨ op = 7 ∨ op = 8 ∨ op = 9 := by omega
    rcases hc with rfl | rfl | rfl | rfl | rfl | rfl | rfl | rfl | rfl | rfl <;> exact runO_ok (m := 1000) tabOk mixed04 noKnown_ok 3 (by kernel_rfl)
  · have e : tightOf op = 0 := by
      unfold tightOf
      repeat rw [if_neg (by omega)]
    rw [e]
    refine semCall_of_prop (fn := Tryd.f18) (T := tab) tabOk mixed04 (by rfl) (by rfl) (by kernel_rfl) ?_
    intro Q O F hQ hO hF
    have flen := lofLen hF
    have ftake := lofTake hF
    have fdrop := lofDrop hF
    have fapp := lofApp hF
    have fset := lofSet hF
    have fbytes := lofBytes hF
    have frep := lofRep hF
    unfold Tryd.f18
    cbv
    repeat' (first
      | ((with_reducible refine k_eql_t hO ?_ ?_); (focus (first | assumption | (simp only [zn_eq, flen] at *; omega) | omega)); try cbv)
      | ((with_reducible refine k_eql_f hO ?_ ?_); (focus (first | assumption | (simp only [zn_eq, flen] at *; omega) | omega)); try cbv)
      | ((with_reducible refine k_eql hO (fun h => ?_) (fun h => ?_)) <;> try cbv)
      | ((with_reducible refine k_neq_t hO ?_ ?_); (focus (first | assumption | (simp only [zn_eq, flen] at *; omega) | omega)); try cbv)
      | ((with_reducible refine k_neq_f hO ?_ ?_); (focus (first | assumption | (simp only [zn_eq, flen] at *; omega) | omega)); try cbv)
      | ((with_reducible refine k_neq hO (fun h => ?_) (fun h => ?_)) <;> try cbv)
      | ((with_reducible refine k_lss_t hO ?_ ?_); (focus (first | assumption | (simp only [zn_eq, flen] at *; omega) | omega)); try cbv)
      | ((with_reducible refine k_lss_f hO ?_ ?_); (focus (first | assumption | (simp only [zn_eq, flen] at *; omega) | omega)); try cbv)
      | ((with_reducible refine k_lss hO (fun h => ?_) (fun h => ?_)) <;> try cbv)
      | ((with_reducible refine k_leq_t hO ?_ ?_); (focus (first | assumption | (simp only [zn_eq, flen] at *; omega) | omega)); try cbv)
      | ((with_reducible refine k_leq_f hO ?_ ?_); (focus (first | assumption | (simp only [zn_eq, flen] at *; omega) | omega)); try cbv)
      | ((with_reducible refine k_leq hO (fun h => ?_) (fun h => ?_)) <;> try cbv)
      | ((with_reducible refine k_gtr_t hO ?_ ?_); (focus (first | assumption | (simp only [zn_eq, flen] at *; omega) | omega)); try cbv)
      | ((with_reducible refine k_gtr_f hO ?_ ?_); (focus (first | assumption | (simp only [zn_eq, flen] at *; omega) | omega)); try cbv)
      | ((with_reducible refine k_gtr hO (fun h => ?_) (fun h => ?_)) <;> try cbv)
      | ((with_reducible refine k_geq_t hO ?_ ?_); (focus (first | assumption | (simp only [zn_eq, flen] at *; omega) | omega)); try cbv)
      | ((with_reducible refine k_geq_f hO ?_ ?_); (focus (first | assumption | (simp only [zn_eq, flen] at *; omega) | omega)); try cbv)
      | ((with_reducible refine k_geq hO (fun h => ?_) (fun h => ?_)) <;> try cbv)
      | ((with_reducible refine k_add_l hO ?_ ?_); (focus decide); try cbv)
      | ((with_reducible refine k_add_in hO ?_ (fun n hn => ?_)); (focus (simp only [inK, zn_eq, flen] at *; omega)); try cbv)
      | ((with_reducible refine k_add hO (fun n hn => ?_)); try cbv)
      | ((with_reducible refine k_sub_l hO ?_ ?_); (focus decide); try cbv)
      | ((with_reducible refine k_sub_in hO ?_ (fun n hn => ?_)); (focus (simp only [inK, zn_eq, flen] at *; omega)); try cbv)
      | ((with_reducible refine k_sub hO (fun n hn => ?_)); try cbv)
      | ((with_reducible refine k_mul_l hO ?_ ?_); (focus decide); try cbv)
      | ((with_reducible refine k_mul_in hO ?_ (fun n hn => ?_)); (focus (simp only [inK, zn_eq, flen] at *; omega)); try cbv)
      | ((with_reducible refine k_mul hO (fun n hn => ?_)); try cbv)
      | ((with_reducible refine k_seql_t hO ?_ ?_); (focus (first | assumption | rfl | (simp; done))); try cbv)
      | ((with_reducible refine k_seql_f hO ?_ ?_); (focus (first | assumption | decide | (simp; done))); try cbv)
      | ((with_reducible refine k_seql hO (fun h => ?_) (fun h => ?_)) <;> try cbv)
      | ((with_reducible refine k_sneq_t hO ?_ ?_); (focus (first | assumption | rfl | (simp; done))); try cbv)
      | ((with_reducible refine k_sneq_f hO ?_ ?_); (focus (first | assumption | decide | (simp; done))); try cbv)
      | ((with_reducible refine k_sneq hO (fun h => ?_) (fun h => ?_)) <;> try cbv)
      | ((with_reducible refine k_slen hO ?_ (fun n hn => ?_)); (focus (exact undOk hQ rfl)); try cbv)
      | ((with_reducible refine k_sadd hO ?_ (fun s hs hz => ?_)); (focus (first | omega | assumption | (simp only [size_lit, List.length_cons, List.length_nil] at *; omega) | (simp_all; done) | (simp_all; omega))); (try simp only [size_lit, List.length_cons, List.length_nil, Nat.reduceAdd] at hz); (try cbv))
      | ((with_reducible apply k_conv_in hO); (focus (exact undOk hQ rfl)); (focus (exact undOk hQ rfl)); (focus (simp only [inK, zn_eq, flen] at *; omega)); try cbv)
      | ((with_reducible apply k_rune hO); (focus (exact undOk hQ rfl)); (focus (exact undOk hQ rfl)); intro s hs; try cbv)
      | ((with_reducible apply k_sidx hO); (focus (exact undOk hQ rfl)); (focus assumption); (focus assumption); intro n hn; try cbv)
      | ((with_reducible refine k_min hO (fun n hn1 hn2 hn3 => ?_)); try cbv)
      | ((with_reducible refine k_max hO (fun n hn1 hn2 hn3 => ?_)); try cbv)
      | ((with_reducible refine k_rem_pos hO ?_ ?_ (fun n hn => ?_)); (focus (first | (simp only [zn_eq, flen] at *; omega) | omega)); (focus (first | (simp only [zn_eq, flen] at *; omega) | omega)); try cbv)
      | ((with_reducible refine k_rem hO ?_ (fun n hn => ?_)); (focus (first | (simp only [zn_eq, flen] at *; omega) | omega)); try cbv)
      | ((with_reducible refine k_quo_in hO ?_ ?_ ?_ (fun n hn => ?_)); (focus (first | (simp only [zn_eq, flen] at *; omega) | omega)); (focus (first | (simp only [zn_eq, flen] at *; omega) | omega)); (focus (simp only [inK, zn_eq, flen] at *; omega)); try cbv)
      | ((with_reducible refine k_quo_pos hO ?_ ?_ (fun n hn => ?_)); (focus (first | (simp only [zn_eq, flen] at *; omega) | omega)); (focus (first | (simp only [zn_eq, flen] at *; omega) | omega)); try simp (disch := omega) only [wrap_i64, wrap_u8, wrap_u64, wrap_i32, wrap_u16, wrap_u32] at hn; try cbv)
      | ((with_reducible refine k_not hO ?_); try cbv)
      | ((with_reducible refine o_ble hO ?_ ?_); (focus (first | assumption | exact Nat.le_refl _ | exact Nat.zero_le _ | (simp only [zn_eq, flen] at *; omega) | omega | decide | (simp; done) | (simp; omega) | (simp_all; done) | (simp_all [zn_eq]; omega))); try cbv)
      | ((with_reducible refine o_cut hO ?_ ?_ ?_); (focus (first | assumption | exact Nat.le_refl _ | exact Nat.zero_le _ | (simp only [zn_eq, flen] at *; omega) | omega | decide | (simp; done) | (simp; omega) | (simp_all; done) | (simp_all [zn_eq]; omega))); (focus (first | assumption | exact Nat.le_refl _ | exact Nat.zero_le _ | (simp only [zn_eq, flen] at *; omega) | omega | decide | (simp; done) | (simp; omega) | (simp_all; done) | (simp_all [zn_eq]; omega))); try cbv)
      | ((with_reducible refine o_room hO ?_ ?_ ?_); (focus (first | exact Or.inl rfl | (simp; done))); (focus (first | assumption | exact Nat.le_refl _ | exact Nat.zero_le _ | (simp only [zn_eq, flen] at *; omega) | omega | decide | (simp; done) | (simp; omega) | (simp_all; done) | (simp_all [zn_eq]; omega))); try cbv)
      | ((with_reducible refine o_nat_l hO ?_); try cbv)
      | ((with_reducible refine o_nat hO ?_ (fun j hj => ?_)); (focus (first | (simp only [zn_eq, flen] at *; omega) | omega)); try cbv)
      | ((with_reducible refine o_at_l hO ?_ ?_); (focus (first | assumption | exact Nat.le_refl _ | exact Nat.zero_le _ | (simp only [zn_eq, flen] at *; omega) | omega | decide | (simp; done) | (simp; omega) | (simp_all; done) | (simp_all [zn_eq]; omega))); try cbv)
      | ((with_reducible refine o_at hO ?_ ?_ (fun j hj => ?_)); (focus (first | (simp only [zn_eq, flen] at *; omega) | omega)); (focus (first | assumption | exact Nat.le_refl _ | exact Nat.zero_le _ | (simp only [zn_eq, flen] at *; omega) | omega | decide | (simp; done) | (simp; omega) | (simp_all; done) | (simp_all [zn_eq]; omega))); try cbv)
      | ((with_reducible apply o_len_l hO); (focus decide); try cbv)
      | ((with_reducible refine o_len hO (fun n hn => ?_)); try cbv)
      | ((with_reducible refine o_mk hO ?_ ?_ ?_ ?_ (fun j hj => ?_)); (focus (first | assumption | exact Nat.le_refl _ | exact Nat.zero_le _ | (simp only [zn_eq, flen] at *; omega) | omega | decide | (simp; done) | (simp; omega) | (simp_all; done) | (simp_all [zn_eq]; omega))); (focus (first | (simp only [zn_eq, flen] at *; omega) | omega)); (focus (first | (simp only [zn_eq, flen] at *; omega) | omega)); (focus (first | assumption | exact Nat.le_refl _ | exact Nat.zero_le _ | (simp only [zn_eq, flen] at *; omega) | omega | decide | (simp; done) | (simp; omega) | (simp_all; done) | (simp_all [zn_eq]; omega))); try cbv)
      | ((with_reducible refine o_empty hO ?_ ?_); (focus (first | rfl | assumption)); try cbv)
      | ((with_reducible apply o_elem_l hO); (focus (first | assumption | rfl | (simp; done))); try cbv)
      | ((with_reducible apply o_elem hO); (focus assumption); (focus assumption); try cbv)
      | ((with_reducible apply o_get hO); (focus (first | assumption | rfl | (simp; done))); try cbv)
      | ((with_reducible refine o_guard hO ?_ ?_); (focus (first | decide +kernel | (simp; done))); try cbv))
    all_goals (exfalso; simp only [zn_eq, flen, List.length_cons, List.length_nil] at *; omega)

theorem signs_sem : SemCall P04 19 [] [] ⟨.own 9 1 (strRows [sb [43], sb [45], sb [42], sb [38], sb [124], sb [94], sb [60, 60], sb [62, 62], sb [61, 61], sb [60]]) false, [], []⟩ := runO_ok (m := 1000) tabOk mixed04 noKnown_ok 3 (by kernel_rfl)

theorem o_at_g {Q : Program} {O : Ora Prop} (hO : Asks Q O) {i : Int} {len j : Nat} {K : Nat → Prop} (hj : zn j = i) (h2 : j < len) (k : K j) : O.opt (fun _ => inO i len) K := by
  subst hj
  exact hO.opt ⟨j, by simp [inO, natO, zn, h2], k⟩

def signOf (op : Int) : ByteArray := if op = 0 then sb [43] else if op = 1 then sb [45] else if op = 2 then sb [42] else if op = 3 then sb [38] else if op = 4 then sb [124] else if op = 5 then sb [94] else if op = 6 then sb [60, 60] else if op = 7 then sb [62, 62] else if op = 8 then sb [61, 61] else sb [60]
abbrev exO (k op : Int) (nm : ByteArray) (v : Int) (ks : List (List PV)) (a : Int) : List AV := [vi k, vi op, vs nm, vu v, .p (.sl 6 ks), vi a]
abbrev exC' (k op : Int) (nm : ByteArray) (v : Int) (ks : List (List PV)) (a : Int) : List PV := [.v (.int .i64 k), .v (.int .i64 op), .v (.string nm), .v (.int .u64 v), .sl 6 ks, .v (.int .i64 a)]
def nodeT (k op : Int) (nm iv : ByteArray) (kid : Int → Int → ByteArray) (t : Int) : ByteArray :=
  if k = 0 then iv else if k = 1 then nm else if k = 2 then ((nm ++ sb [91]) ++ kid 0 0) ++ sb [93] else if k = 4 then sb [126] ++ kid 0 9 else
    if k = 5 then (((((sb [112, 105, 99, 107, 40] ++ kid 0 0) ++ sb [44, 32]) ++ kid 1 0) ++ sb [44, 32]) ++ kid 2 0) ++ sb [41] else
      if tightOf op = 0 then sb [63] else if k = 3 then
        (if tightOf op < t then (sb [40] ++ ((((kid 0 (tightOf op) ++ sb [32]) ++ signOf op) ++ sb [32]) ++ kid 1 (tightOf op + 1))) ++ sb [41] else (((kid 0 (tightOf op) ++ sb [32]) ++ signOf op) ++ sb [32]) ++ kid 1 (tightOf op + 1)) else sb [63]

def kidRes (s : ByteArray) : CRes := ⟨.p (.v (.string s)), [[none, none, none, none, none, none]], []⟩
set_option maxHeartbeats 2000000 in
theorem expr_node (k op : Int) (nm : ByteArray) (v : Int) (ks : List (List PV)) (a t : Int) (iv : ByteArray) (kid : Int → Int → ByteArray)
    (hk : ∀ i t, 0 ≤ i → SemCall P04 16 [vi i, vi t, .ptr 0 0 0] [⟨31, exO k op nm v ks a⟩] (kidRes (kid i t)))
    (hl : k = 0 → SemCall P04 17 [vu v, vi 10] [] (one (.v (.string iv))))
    (hs : ∀ i t, (kid i t).size ≤ 1152921504606846976) (hn : nm.size ≤ 1152921504606846976) :
    SemCall P04 9 [.p (.agg (exC' k op nm v ks a)), vi t] [] (one (.v (.string (nodeT k op nm iv kid t)))) := by
  by_cases c0 : k = 0
  · have hl := hl c0
    have e : nodeT k op nm iv kid t = iv := by unfold nodeT; rw [if_pos c0]
    rw [e]
    clear hk e
    refine semCall_of_prop (fn := Tryd.f9) (T := tab) tabOk mixed04 (by rfl) (by rfl) (by kernel_rfl) ?_
    intro Q O F hQ hO hF
    have flen := lofLen hF
    have ftake := lofTake hF
    have fdrop := lofDrop hF
    have fapp := lofApp hF
    have fset := lofSet hF
    have fbytes := lofBytes hF
    have frep := lofRep hF
    unfold Tryd.f9
    cbv
    repeat' (first
      | (with_reducible refine o_call hO hQ hl ?_); try cbv
      | ((with_reducible refine k_eql_t hO ?_ ?_); (focus (first | assumption | (simp only [zn_eq, flen] at *; omega) | omega)); try cbv)
      | ((with_reducible refine k_eql_f hO ?_ ?_); (focus (first | assumption | (simp only [zn_eq, flen] at *; omega) | omega)); try cbv)
      | ((with_reducible refine k_eql hO (fun h => ?_) (fun h => ?_)) <;> try cbv)
      | ((with_reducible refine k_neq_t hO ?_ ?_); (focus (first | assumption | (simp only [zn_eq, flen] at *; omega) | omega)); try cbv)
      | ((with_reducible refine k_neq_f hO ?_ ?_); (focus (first | assumption | (simp only [zn_eq, flen] at *; omega) | omega)); try cbv)
      | ((with_reducible refine k_neq hO (fun h => ?_) (fun h => ?_)) <;> try cbv)
      | ((with_reducible refine k_lss_t hO ?_ ?_); (focus (first | assumption | (simp only [zn_eq, flen] at *; omega) | omega)); try cbv)
      | ((with_reducible refine k_lss_f hO ?_ ?_); (focus (first | assumption | (simp only [zn_eq, flen] at *; omega) | omega)); try cbv)
      | ((with_reducible refine k_lss hO (fun h => ?_) (fun h => ?_)) <;> try cbv)
      | ((with_reducible refine k_leq_t hO ?_ ?_); (focus (first | assumption | (simp only [zn_eq, flen] at *; omega) | omega)); try cbv)
      | ((with_reducible refine k_leq_f hO ?_ ?_); (focus (first | assumption | (simp only [zn_eq, flen] at *; omega) | omega)); try cbv)
      | ((with_reducible refine k_leq hO (fun h => ?_) (fun h => ?_)) <;> try cbv)
      | ((with_reducible refine k_gtr_t hO ?_ ?_); (focus (first | assumption | (simp only [zn_eq, flen] at *; omega) | omega)); try cbv)
      | ((with_reducible refine k_gtr_f hO ?_ ?_); (focus (first | assumption | (simp only [zn_eq, flen] at *; omega) | omega)); try cbv)
      | ((with_reducible refine k_gtr hO (fun h => ?_) (fun h => ?_)) <;> try cbv)
      | ((with_reducible refine k_geq_t hO ?_ ?_); (focus (first | assumption | (simp only [zn_eq, flen] at *; omega) | omega)); try cbv)
      | ((with_reducible refine k_geq_f hO ?_ ?_); (focus (first | assumption | (simp only [zn_eq, flen] at *; omega) | omega)); try cbv)
      | ((with_reducible refine k_geq hO (fun h => ?_) (fun h => ?_)) <;> try cbv)
      | ((with_reducible refine k_add_l hO ?_ ?_); (focus decide); try cbv)
      | ((with_reducible refine k_add_in hO ?_ (fun n hn => ?_)); (focus (simp only [inK, zn_eq, flen] at *; omega)); try cbv)
      | ((with_reducible refine k_add hO (fun n hn => ?_)); try cbv)
      | ((with_reducible refine k_sub_l hO ?_ ?_); (focus decide); try cbv)
      | ((with_reducible refine k_sub_in hO ?_ (fun n hn => ?_)); (focus (simp only [inK, zn_eq, flen] at *; omega)); try cbv)
      | ((with_reducible refine k_sub hO (fun n hn => ?_)); try cbv)
      | ((with_reducible refine k_mul_l hO ?_ ?_); (focus decide); try cbv)
      | ((with_reducible refine k_mul_in hO ?_ (fun n hn => ?_)); (focus (simp only [inK, zn_eq, flen] at *; omega)); try cbv)
      | ((with_reducible refine k_mul hO (fun n hn => ?_)); try cbv)
      | ((with_reducible refine k_seql_t hO ?_ ?_); (focus (first | assumption | rfl | (simp; done))); try cbv)
      | ((with_reducible refine k_seql_f hO ?_ ?_); (focus (first | assumption | decide | (simp; done))); try cbv)
      | ((with_reducible refine k_seql hO (fun h => ?_) (fun h => ?_)) <;> try cbv)
      | ((with_reducible refine k_sneq_t hO ?_ ?_); (focus (first | assumption | rfl | (simp; done))); try cbv)
      | ((with_reducible refine k_sneq_f hO ?_ ?_); (focus (first | assumption | decide | (simp; done))); try cbv)
      | ((with_reducible refine k_sneq hO (fun h => ?_) (fun h => ?_)) <;> try cbv)
      | ((with_reducible refine k_slen hO ?_ (fun n hn => ?_)); (focus (exact undOk hQ rfl)); try cbv)
      | ((with_reducible refine k_sadd hO ?_ (fun s hs hz => ?_)); (focus (first | omega | assumption | (simp only [size_lit, List.length_cons, List.length_nil] at *; omega) | (simp_all; done) | (simp_all; omega))); (try simp only [size_lit, List.length_cons, List.length_nil, Nat.reduceAdd] at hz); (try cbv))
      | ((with_reducible apply k_conv_in hO); (focus (exact undOk hQ rfl)); (focus (exact undOk hQ rfl)); (focus (simp only [inK, zn_eq, flen] at *; omega)); try cbv)
      | ((with_reducible apply k_rune hO); (focus (exact undOk hQ rfl)); (focus (exact undOk hQ rfl)); intro s hs; try cbv)
      | ((with_reducible apply k_sidx hO); (focus (exact undOk hQ rfl)); (focus assumption); (focus assumption); intro n hn; try cbv)
      | ((with_reducible refine k_min hO (fun n hn1 hn2 hn3 => ?_)); try cbv)
      | ((with_reducible refine k_max hO (fun n hn1 hn2 hn3 => ?_)); try cbv)
      | ((with_reducible refine k_rem_pos hO ?_ ?_ (fun n hn => ?_)); (focus (first | (simp only [zn_eq, flen] at *; omega) | omega)); (focus (first | (simp only [zn_eq, flen] at *; omega) | omega)); try cbv)
      | ((with_reducible refine k_rem hO ?_ (fun n hn => ?_)); (focus (first | (simp only [zn_eq, flen] at *; omega) | omega)); try cbv)
      | ((with_reducible refine k_quo_in hO ?_ ?_ ?_ (fun n hn => ?_)); (focus (first | (simp only [zn_eq, flen] at *; omega) | omega)); (focus (first | (simp only [zn_eq, flen] at *; omega) | omega)); (focus (simp only [inK, zn_eq, flen] at *; omega)); try cbv)
      | ((with_reducible refine k_quo_pos hO ?_ ?_ (fun n hn => ?_)); (focus (first | (simp only [zn_eq, flen] at *; omega) | omega)); (focus (first | (simp only [zn_eq, flen] at *; omega) | omega)); try simp (disch := omega) only [wrap_i64, wrap_u8, wrap_u64, wrap_i32, wrap_u16, wrap_u32] at hn; try cbv)
      | ((with_reducible refine k_not hO ?_); try cbv)
      | ((with_reducible refine o_ble hO ?_ ?_); (focus (first | assumption | exact Nat.le_refl _ | exact Nat.zero_le _ | (simp only [zn_eq, flen] at *; omega) | omega | decide | (simp; done) | (simp; omega) | (simp_all; done) | (simp_all [zn_eq]; omega))); try cbv)
      | ((with_reducible refine o_cut hO ?_ ?_ ?_); (focus (first | assumption | exact Nat.le_refl _ | exact Nat.zero_le _ | (simp only [zn_eq, flen] at *; omega) | omega | decide | (simp; done) | (simp; omega) | (simp_all; done) | (simp_all [zn_eq]; omega))); (focus (first | assumption | exact Nat.le_refl _ | exact Nat.zero_le _ | (simp only [zn_eq, flen] at *; omega) | omega | decide | (simp; done) | (simp; omega) | (simp_all; done) | (simp_all [zn_eq]; omega))); try cbv)
      | ((with_reducible refine o_room hO ?_ ?_ ?_); (focus (first | exact Or.inl rfl | (simp; done))); (focus (first | assumption | exact Nat.le_refl _ | exact Nat.zero_le _ | (simp only [zn_eq, flen] at *; omega) | omega | decide | (simp; done) | (simp; omega) | (simp_all; done) | (simp_all [zn_eq]; omega))); try cbv)
      | ((with_reducible refine o_nat_l hO ?_); try cbv)
      | ((with_reducible refine o_nat hO ?_ (fun j hj => ?_)); (focus (first | (simp only [zn_eq, flen] at *; omega) | omega)); try cbv)
      | ((with_reducible refine o_at_l hO ?_ ?_); (focus (first | assumption | exact Nat.le_refl _ | exact Nat.zero_le _ | (simp only [zn_eq, flen] at *; omega) | omega | decide | (simp; done) | (simp; omega) | (simp_all; done) | (simp_all [zn_eq]; omega))); try cbv)
      | ((with_reducible refine o_at hO ?_ ?_ (fun j hj => ?_)); (focus (first | (simp only [zn_eq, flen] at *; omega) | omega)); (focus (first | assumption | exact Nat.le_refl _ | exact Nat.zero_le _ | (simp only [zn_eq, flen] at *; omega) | omega | decide | (simp; done) | (simp; omega) | (simp_all; done) | (simp_all [zn_eq]; omega))); try cbv)
      | ((with_reducible apply o_len_l hO); (focus decide); try cbv)
      | ((with_reducible refine o_len hO (fun n hn => ?_)); try cbv)
      | ((with_reducible refine o_mk hO ?_ ?_ ?_ ?_ (fun j hj => ?_)); (focus (first | assumption | exact Nat.le_refl _ | exact Nat.zero_le _ | (simp only [zn_eq, flen] at *; omega) | omega | decide | (simp; done) | (simp; omega) | (simp_all; done) | (simp_all [zn_eq]; omega))); (focus (first | (simp only [zn_eq, flen] at *; omega) | omega)); (focus (first | (simp only [zn_eq, flen] at *; omega) | omega)); (focus (first | assumption | exact Nat.le_refl _ | exact Nat.zero_le _ | (simp only [zn_eq, flen] at *; omega) | omega | decide | (simp; done) | (simp; omega) | (simp_all; done) | (simp_all [zn_eq]; omega))); try cbv)
      | ((with_reducible refine o_empty hO ?_ ?_); (focus (first | rfl | assumption)); try cbv)
      | ((with_reducible apply o_elem_l hO); (focus (first | assumption | rfl | (simp; done))); try cbv)
      | ((with_reducible apply o_elem hO); (focus assumption); (focus assumption); try cbv)
      | ((with_reducible apply o_get hO); (focus (first | assumption | rfl | (simp; done))); try cbv)
      | ((with_reducible refine o_guard hO ?_ ?_); (focus (first | decide +kernel | (simp; done))); try cbv))
  by_cases c1 : k = 1
  · have e : nodeT k op nm iv kid t = nm := by unfold nodeT; rw [if_neg c0, if_pos c1]
    rw [e]
    clear hk e hl hs
    refine semCall_of_prop (fn := Tryd.f9) (T := tab) tabOk mixed04 (by rfl) (by rfl) (by kernel_rfl) ?_
    intro Q O F hQ hO hF
    have flen := lofLen hF
    have ftake := lofTake hF
    have fdrop := lofDrop hF
    have fapp := lofApp hF
    have fset := lofSet hF
    have fbytes := lofBytes hF
    have frep := lofRep hF
    unfold Tryd.f9
    cbv
    repeat' (first
      | ((with_reducible refine k_eql_t hO ?_ ?_); (focus (first | assumption | (simp only [zn_eq, flen] at *; omega) | omega)); try cbv)
      | ((with_reducible refine k_eql_f hO ?_ ?_); (focus (first | assumption | (simp only [zn_eq, flen] at *; omega) | omega)); try cbv)
      | ((with_reducible refine k_eql hO (fun h => ?_) (fun h => ?_)) <;> try cbv)
      | ((with_reducible refine k_neq_t hO ?_ ?_); (focus (first | assumption | (simp only [zn_eq, flen] at *; omega) | omega)); try cbv)
      | ((with_reducible refine k_neq_f hO ?_ ?_); (focus (first | assumption | (simp only [zn_eq, flen] at *; omega) | omega)); try cbv)
      | ((with_reducible refine k_neq hO (fun h => ?_) (fun h => ?_)) <;> try cbv)
      | ((with_reducible refine k_lss_t hO ?_ ?_); (focus (first | assumption | (simp only [zn_eq, flen] at *; omega) | omega)); try cbv)
      | ((with_reducible refine k_lss_f hO ?_ ?_); (focus (first | assumption | (simp only [zn_eq, flen] at *; omega) | omega)); try cbv)
      | ((with_reducible refine k_lss hO (fun h => ?_) (fun h => ?_)) <;> try cbv)
      | ((with_reducible refine k_leq_t hO ?_ ?_); (focus (first | assumption | (simp only [zn_eq, flen] at *; omega) | omega)); try cbv)
      | ((with_reducible refine k_leq_f hO ?_ ?_); (focus (first | assumption | (simp only [zn_eq, flen] at *; omega) | omega)); try cbv)
      | ((with_reducible refine k_leq hO (fun h => ?_) (fun h => ?_)) <;> try cbv)
      | ((with_reducible refine k_gtr_t hO ?_ ?_); (focus (first | assumption | (simp only [zn_eq, flen] at *; omega) | omega)); try cbv)
      | ((with_reducible refine k_gtr_f hO ?_ ?_); (focus (first | assumption | (simp only [zn_eq, flen] at *; omega) | omega)); try cbv)
      | ((with_reducible refine k_gtr hO (fun h => ?_) (fun h => ?_)) <;> try cbv)
      | ((with_reducible refine k_geq_t hO ?_ ?_); (focus (first | assumption | (simp only [zn_eq, flen] at *; omega) | omega)); try cbv)
      | ((with_reducible refine k_geq_f hO ?_ ?_); (focus (first | assumption | (simp only [zn_eq, flen] at *; omega) | omega)); try cbv)
      | ((with_reducible refine k_geq hO (fun h => ?_) (fun h => ?_)) <;> try cbv)
      | ((with_reducible refine k_add_l hO ?_ ?_); (focus decide); try cbv)
      | ((with_reducible refine k_add_in hO ?_ (fun n hn => ?_)); (focus (simp only [inK, zn_eq, flen] at *; omega)); try cbv)
      | ((with_reducible refine k_add hO (fun n hn => ?_)); try cbv)
      | ((with_reducible refine k_sub_l hO ?_ ?_); (focus decide); try cbv)
      | ((with_reducible refine k_sub_in hO ?_ (fun n hn => ?_)); (focus (simp only [inK, zn_eq, flen] at *; omega)); try cbv)
      | ((with_reducible refine k_sub hO (fun n hn => ?_)); try cbv)
      | ((with_reducible refine k_mul_l hO ?_ ?_); (focus decide); try cbv)
      | ((with_reducible refine k_mul_in hO ?_ (fun n hn => ?_)); (focus (simp only [inK, zn_eq, flen] at *; omega)); try cbv)
      | ((with_reducible refine k_mul hO (fun n hn => ?_)); try cbv)
      | ((with_reducible refine k_seql_t hO ?_ ?_); (focus (first | assumption | rfl | (simp; done))); try cbv)
      | ((with_reducible refine k_seql_f hO ?_ ?_); (focus (first | assumption | decide | (simp; done))); try cbv)
      | ((with_reducible refine k_seql hO (fun h => ?_) (fun h => ?_)) <;> try cbv)
      | ((with_reducible refine k_sneq_t hO ?_ ?_); (focus (first | assumption | rfl | (simp; done))); try cbv)
      | ((with_reducible refine k_sneq_f hO ?_ ?_); (focus (first | assumption | decide | (simp; done))); try cbv)
      | ((with_reducible refine k_sneq hO (fun h => ?_) (fun h => ?_)) <;> try cbv)
      | ((with_reducible refine k_slen hO ?_ (fun n hn => ?_)); (focus (exact undOk hQ rfl)); try cbv)
      | ((with_reducible refine k_sadd hO ?_ (fun s hs hz => ?_)); (focus (first | omega | assumption | (simp only [size_lit, List.length_cons, List.length_nil] at *; omega) | (simp_all; done) | (simp_all; omega))); (try simp only [size_lit, List.length_cons, List.length_nil, Nat.reduceAdd] at hz); (try cbv))
      | ((with_reducible apply k_conv_in hO); (focus (exact undOk hQ rfl)); (focus (exact undOk hQ rfl)); (focus (simp only [inK, zn_eq, flen] at *; omega)); try cbv)
      | ((with_reducible apply k_rune hO); (focus (exact undOk hQ rfl)); (focus (exact undOk hQ rfl)); intro s hs; try cbv)
      | ((with_reducible apply k_sidx hO); (focus (exact undOk hQ rfl)); (focus assumption); (focus assumption); intro n hn; try cbv)
      | ((with_reducible refine k_min hO (fun n hn1 hn2 hn3 => ?_)); try cbv)
      | ((with_reducible refine k_max hO (fun n hn1 hn2 hn3 => ?_)); try cbv)
      | ((with_reducible refine k_rem_pos hO ?_ ?_ (fun n hn => ?_)); (focus (first | (simp only [zn_eq, flen] at *; omega) | omega)); (focus (first | (simp only [zn_eq, flen] at *; omega) | omega)); try cbv)
      | ((with_reducible refine k_rem hO ?_ (fun n hn => ?_)); (focus (first | (simp only [zn_eq, flen] at *; omega) | omega)); try cbv)
      | ((with_reducible refine k_quo_in hO ?_ ?_ ?_ (fun n hn => ?_)); (focus (first | (simp only [zn_eq, flen] at *; omega) | omega)); (focus (first | (simp only [zn_eq, flen] at *; omega) | omega)); (focus (simp only [inK, zn_eq, flen] at *; omega)); try cbv)
      | ((with_reducible refine k_quo_pos hO ?_ ?_ (fun n hn => ?_)); (focus (first | (simp only [zn_eq, flen] at *; omega) | omega)); (focus (first | (simp only [zn_eq, flen] at *; omega) | omega)); try simp (disch := omega) only [wrap_i64, wrap_u8, wrap_u64, wrap_i32, wrap_u16, wrap_u32] at hn; try cbv)
      | ((with_reducible refine k_not hO ?_); try cbv)
      | ((with_reducible refine o_ble hO ?_ ?_); (focus (first | assumption | exact Nat.le_refl _ | exact Nat.zero_le _ | (simp only [zn_eq, flen] at *; omega) | omega | decide | (simp; done) | (simp; omega) | (simp_all; done) | (simp_all [zn_eq]; omega))); try cbv)
      | ((with_reducible refine o_cut hO ?_ ?_ ?_); (focus (first | assumption | exact Nat.le_refl _ | exact Nat.zero_le _ | (simp only [zn_eq, flen] at *; omega) | omega | decide | (simp; done) | (simp; omega) | (simp_all; done) | (simp_all [zn_eq]; omega))); (focus (first | assumption | exact Nat.le_refl _ | exact Nat.zero_le _ | (simp only [zn_eq, flen] at *; omega) | omega | decide | (simp; done) | (simp; omega) | (simp_all; done) | (simp_all [zn_eq]; omega))); try cbv)
      | ((with_reducible refine o_room hO ?_ ?_ ?_); (focus (first | exact Or.inl rfl | (simp; done))); (focus (first | assumption | exact Nat.le_refl _ | exact Nat.zero_le _ | (simp only [zn_eq, flen] at *; omega) | omega | decide | (simp; done) | (simp; omega) | (simp_all; done) | (simp_all [zn_eq]; omega))); try cbv)
      | ((with_reducible refine o_nat_l hO ?_); try cbv)
      | ((with_reducible refine o_nat hO ?_ (fun j hj => ?_)); (focus (first | (simp only [zn_eq, flen] at *; omega) | omega)); try cbv)
      | ((with_reducible refine o_at_l hO ?_ ?_); (focus (first | assumption | exact Nat.le_refl _ | exact Nat.zero_le _ | (simp only [zn_eq, flen] at *; omega) | omega | decide | (simp; done) | (simp; omega) | (simp_all; done) | (simp_all [zn_eq]; omega))); try cbv)
      | ((with_reducible refine o_at hO ?_ ?_ (fun j hj => ?_)); (focus (first | (simp only [zn_eq, flen] at *; omega) | omega)); (focus (first | assumption | exact Nat.le_refl _ | exact Nat.zero_le _ | (simp only [zn_eq, flen] at *; omega) | omega | decide | (simp; done) | (simp; omega) | (simp_all; done) | (simp_all [zn_eq]; omega))); try cbv)
      | ((with_reducible apply o_len_l hO); (focus decide); try cbv)
      | ((with_reducible refine o_len hO (fun n hn => ?_)); try cbv)
      | ((with_reducible refine o_mk hO ?_ ?_ ?_ ?_ (fun j hj => ?_)); (focus (first | assumption | exact Nat.le_refl _ | exact Nat.zero_le _ | (simp only [zn_eq, flen] at *; omega) | omega | decide | (simp; done) | (simp; omega) | (simp_all; done) | (simp_all [zn_eq]; omega))); (focus (first | (simp only [zn_eq, flen] at *; omega) | omega)); (focus (first | (simp only [zn_eq, flen] at *; omega) | omega)); (focus (first | assumption | exact Nat.le_refl _ | exact Nat.zero_le _ | (simp only [zn_eq, flen] at *; omega) | omega | decide | (simp; done) | (simp; omega) | (simp_all; done) | (simp_all [zn_eq]; omega))); try cbv)
      | ((with_reducible refine o_empty hO ?_ ?_); (focus (first | rfl | assumption)); try cbv)
      | ((with_reducible apply o_elem_l hO); (focus (first | assumption | rfl | (simp; done))); try cbv)
      | ((with_reducible apply o_elem hO); (focus assumption); (focus assumption); try cbv)
      | ((with_reducible apply o_get hO); (focus (first | assumption | rfl | (simp; done))); try cbv)
      | ((with_reducible refine o_guard hO ?_ ?_); (focus (first | decide +kernel | (simp; done))); try cbv))
  by_cases c2 : k = 2
  · have e : nodeT k op nm iv kid t = ((nm ++ sb [91]) ++ kid 0 0) ++ sb [93] := by unfold nodeT; rw [if_neg c0, if_neg c1, if_pos c2]
    rw [e]
    have hk0 := hk 0 0 (by omega)
    have hs0 := hs 0 0
    clear hk hs e hl
    generalize kid 0 0 = s0 at *
    generalize hr : ((nm ++ sb [91]) ++ s0) ++ sb [93] = r
    refine semCall_of_prop (fn := Tryd.f9) (T := tab) tabOk mixed04 (by rfl) (by rfl) (by kernel_rfl) ?_
    intro Q O F hQ hO hF
    have flen := lofLen hF
    have ftake := lofTake hF
    have fdrop := lofDrop hF
    have fapp := lofApp hF
    have fset := lofSet hF
    have fbytes := lofBytes hF
    have frep := lofRep hF
    unfold Tryd.f9
    cbv
    repeat' (first
      | (with_reducible refine o_call hO hQ hk0 ?_); try cbv
      | ((with_reducible refine k_eql_t hO ?_ ?_); (focus (first | assumption | (simp only [zn_eq, flen] at *; omega) | omega)); try cbv)
      | ((with_reducible refine k_eql_f hO ?_ ?_); (focus (first | assumption | (simp only [zn_eq, flen] at *; omega) | omega)); try cbv)
      | ((with_reducible refine k_eql hO (fun h => ?_) (fun h => ?_)) <;> try cbv)
      | ((with_reducible refine k_neq_t hO ?_ ?_); (focus (first | assumption | (simp only [zn_eq, flen] at *; omega) | omega)); try cbv)
      | ((with_reducible refine k_neq_f hO ?_ ?_); (focus (first | assumption | (simp only [zn_eq, flen] at *; omega) | omega)); try cbv)
      | ((with_reducible refine k_neq hO (fun h => ?_) (fun h => ?_)) <;> try cbv)
      | ((with_reducible refine k_lss_t hO ?_ ?_); (focus (first | assumption | (simp only [zn_eq, flen] at *; omega) | omega)); try cbv)
      | ((with_reducible refine k_lss_f hO ?_ ?_); (focus (first | assumption | (simp only [zn_eq, flen] at *; omega) | omega)); try cbv)
      | ((with_reducible refine k_lss hO (fun h => ?_) (fun h => ?_)) <;> try cbv)
      | ((with_reducible refine k_leq_t hO ?_ ?_); (focus (first | assumption | (simp only [zn_eq, flen] at *; omega) | omega)); try cbv)
      | ((with_reducible refine k_leq_f hO ?_ ?_); (focus (first | assumption | (simp only [zn_eq, flen] at *; omega) | omega)); try cbv)
      | ((with_reducible refine k_leq hO (fun h => ?_) (fun h => ?_)) <;> try cbv)
      | ((with_reducible refine k_gtr_t hO ?_ ?_); (focus (first | assumption | (simp only [zn_eq, flen] at *; omega) | omega)); try cbv)
      | ((with_reducible refine k_gtr_f hO ?_ ?_); (focus (first | assumption | (simp only [zn_eq, flen] at *; omega) | omega)); try cbv)
      | ((with_reducible refine k_gtr hO (fun h => ?_) (fun h => ?_)) <;> try cbv)
      | ((with_reducible refine k_geq_t hO ?_ ?_); (focus (first | assumption | (simp only [zn_eq, flen] at *; omega) | omega)); try cbv)
      | ((with_reducible refine k_geq_f hO ?_ ?_); (focus (first | assumption | (simp only [zn_eq, flen] at *; omega) | omega)); try cbv)
      | ((with_reducible refine k_geq hO (fun h => ?_) (fun h => ?_)) <;> try cbv)
      | ((with_reducible refine k_add_l hO ?_ ?_); (focus decide); try cbv)
      | ((with_reducible refine k_add_in hO ?_ (fun n hn => ?_)); (focus (simp only [inK, zn_eq, flen] at *; omega)); try cbv)
      | ((with_reducible refine k_add hO (fun n hn => ?_)); try cbv)
      | ((with_reducible refine k_sub_l hO ?_ ?_); (focus decide); try cbv)
      | ((with_reducible refine k_sub_in hO ?_ (fun n hn => ?_)); (focus (simp only [inK, zn_eq, flen] at *; omega)); try cbv)
      | ((with_reducible refine k_sub hO (fun n hn => ?_)); try cbv)
      | ((with_reducible refine k_mul_l hO ?_ ?_); (focus decide); try cbv)
      | ((with_reducible refine k_mul_in hO ?_ (fun n hn => ?_)); (focus (simp only [inK, zn_eq, flen] at *; omega)); try cbv)
      | ((with_reducible refine k_mul hO (fun n hn => ?_)); try cbv)
      | ((with_reducible refine k_seql_t hO ?_ ?_); (focus (first | assumption | rfl | (simp; done))); try cbv)
      | ((with_reducible refine k_seql_f hO ?_ ?_); (focus (first | assumption | decide | (simp; done))); try cbv)
      | ((with_reducible refine k_seql hO (fun h => ?_) (fun h => ?_)) <;> try cbv)
      | ((with_reducible refine k_sneq_t hO ?_ ?_); (focus (first | assumption | rfl | (simp; done))); try cbv)
      | ((with_reducible refine k_sneq_f hO ?_ ?_); (focus (first | assumption | decide | (simp; done))); try cbv)
      | ((with_reducible refine k_sneq hO (fun h => ?_) (fun h => ?_)) <;> try cbv)
      | ((with_reducible refine k_slen hO ?_ (fun n hn => ?_)); (focus (exact undOk hQ rfl)); try cbv)
      | ((with_reducible refine k_sadd hO ?_ (fun s hs hz => ?_)); (focus (first | omega | assumption | (simp only [size_lit, List.length_cons, List.length_nil] at *; omega) | (simp_all; done) | (simp_all; omega))); (try simp only [size_lit, List.length_cons, List.length_nil, Nat.reduceAdd] at hz); (try cbv))
      | ((with_reducible apply k_conv_in hO); (focus (exact undOk hQ rfl)); (focus (exact undOk hQ rfl)); (focus (simp only [inK, zn_eq, flen] at *; omega)); try cbv)
      | ((with_reducible apply k_rune hO); (focus (exact undOk hQ rfl)); (focus (exact undOk hQ rfl)); intro s hs; try cbv)
      | ((with_reducible apply k_sidx hO); (focus (exact undOk hQ rfl)); (focus assumption); (focus assumption); intro n hn; try cbv)
      | ((with_reducible refine k_min hO (fun n hn1 hn2 hn3 => ?_)); try cbv)
      | ((with_reducible refine k_max hO (fun n hn1 hn2 hn3 => ?_)); try cbv)
      | ((with_reducible refine k_rem_pos hO ?_ ?_ (fun n hn => ?_)); (focus (first | (simp only [zn_eq, flen] at *; omega) | omega)); (focus (first | (simp only [zn_eq, flen] at *; omega) | omega)); try cbv)
      | ((with_reducible refine k_rem hO ?_ (fun n hn => ?_)); (focus (first | (simp only [zn_eq, flen] at *; omega) | omega)); try cbv)
      | ((with_reducible refine k_quo_in hO ?_ ?_ ?_ (fun n hn => ?_)); (focus (first | (simp only [zn_eq, flen] at *; omega) | omega)); (focus (first | (simp only [zn_eq, flen] at *; omega) | omega)); (focus (simp only [inK, zn_eq, flen] at *; omega)); try cbv)
      | ((with_reducible refine k_quo_pos hO ?_ ?_ (fun n hn => ?_)); (focus (first | (simp only [zn_eq, flen] at *; omega) | omega)); (focus (first | (simp only [zn_eq, flen] at *; omega) | omega)); try simp (disch := omega) only [wrap_i64, wrap_u8, wrap_u64, wrap_i32, wrap_u16, wrap_u32] at hn; try cbv)
      | ((with_reducible refine k_not hO ?_); try cbv)
      | ((with_reducible refine o_ble hO ?_ ?_); (focus (first | assumption | exact Nat.le_refl _ | exact Nat.zero_le _ | (simp only [zn_eq, flen] at *; omega) | omega | decide | (simp; done) | (simp; omega) | (simp_all; done) | (simp_all [zn_eq]; omega))); try cbv)
      | ((with_reducible refine o_cut hO ?_ ?_ ?_); (focus (first | assumption | exact Nat.le_refl _ | exact Nat.zero_le _ | (simp only [zn_eq, flen] at *; omega) | omega | decide | (simp; done) | (simp; omega) | (simp_all; done) | (simp_all [zn_eq]; omega))); (focus (first | assumption | exact Nat.le_refl _ | exact Nat.zero_le _ | (simp only [zn_eq, flen] at *; omega) | omega | decide | (simp; done) | (simp; omega) | (simp_all; done) | (simp_all [zn_eq]; omega))); try cbv)
      | ((with_reducible refine o_room hO ?_ ?_ ?_); (focus (first | exact Or.inl rfl | (simp; done))); (focus (first | assumption | exact Nat.le_refl _ | exact Nat.zero_le _ | (simp only [zn_eq, flen] at *; omega) | omega | decide | (simp; done) | (simp; omega) | (simp_all; done) | (simp_all [zn_eq]; omega))); try cbv)
      | ((with_reducible refine o_nat_l hO ?_); try cbv)
      | ((with_reducible refine o_nat hO ?_ (fun j hj => ?_)); (focus (first | (simp only [zn_eq, flen] at *; omega) | omega)); try cbv)
      | ((with_reducible refine o_at_l hO ?_ ?_); (focus (first | assumption | exact Nat.le_refl _ | exact Nat.zero_le _ | (simp only [zn_eq, flen] at *; omega) | omega | decide | (simp; done) | (simp; omega) | (simp_all; done) | (simp_all [zn_eq]; omega))); try cbv)
      | ((with_reducible refine o_at hO ?_ ?_ (fun j hj => ?_)); (focus (first | (simp only [zn_eq, flen] at *; omega) | omega)); (focus (first | assumption | exact Nat.le_refl _ | exact Nat.zero_le _ | (simp only [zn_eq, flen] at *; omega) | omega | decide | (simp; done) | (simp; omega) | (simp_all; done) | (simp_all [zn_eq]; omega))); try cbv)
      | ((with_reducible apply o_len_l hO); (focus decide); try cbv)
      | ((with_reducible refine o_len hO (fun n hn => ?_)); try cbv)
      | ((with_reducible refine o_mk hO ?_ ?_ ?_ ?_ (fun j hj => ?_)); (focus (first | assumption | exact Nat.le_refl _ | exact Nat.zero_le _ | (simp only [zn_eq, flen] at *; omega) | omega | decide | (simp; done) | (simp; omega) | (simp_all; done) | (simp_all [zn_eq]; omega))); (focus (first | (simp only [zn_eq, flen] at *; omega) | omega)); (focus (first | (simp only [zn_eq, flen] at *; omega) | omega)); (focus (first | assumption | exact Nat.le_refl _ | exact Nat.zero_le _ | (simp only [zn_eq, flen] at *; omega) | omega | decide | (simp; done) | (simp; omega) | (simp_all; done) | (simp_all [zn_eq]; omega))); try cbv)
      | ((with_reducible refine o_empty hO ?_ ?_); (focus (first | rfl | assumption)); try cbv)
      | ((with_reducible apply o_elem_l hO); (focus (first | assumption | rfl | (simp; done))); try cbv)
      | ((with_reducible apply o_elem hO); (focus assumption); (focus assumption); try cbv)
      | ((with_reducible apply o_get hO); (focus (first | assumption | rfl | (simp; done))); try cbv)
      | ((with_reducible refine o_guard hO ?_ ?_); (focus (first | decide +kernel | (simp; done))); try cbv))
    exact ⟨congrArg (fun q => AV.p (PV.v (Value.string q))) (by subst_vars; rfl), trivial⟩
  by_cases c4 : k = 4
  · have e : nodeT k op nm iv kid t = sb [126] ++ kid 0 9 := by unfold nodeT; rw [if_neg c0, if_neg c1, if_neg c2, if_pos c4]
    rw [e]
    have hk0 := hk 0 9 (by omega)
    have hs0 := hs 0 9
    clear hk hs e hl
    generalize kid 0 9 = s0 at *
    generalize hr : sb [126] ++ s0 = r
    refine semCall_of_prop (fn := Tryd.f9) (T := tab) tabOk mixed04 (by rfl) (by rfl) (by kernel_rfl) ?_
    intro Q O F hQ hO hF
    have flen := lofLen hF
    have ftake := lofTake hF
    have fdrop := lofDrop hF
    have fapp := lofApp hF
    have fset := lofSet hF
    have fbytes := lofBytes hF
    have frep := lofRep hF
    unfold Tryd.f9
    cbv
    repeat' (first
      | (with_reducible refine o_call hO hQ hk0 ?_); try cbv
      | ((with_reducible refine k_eql_t hO ?_ ?_); (focus (first | assumption | (simp only [zn_eq, flen] at *; omega) | omega)); try cbv)
      | ((with_reducible refine k_eql_f hO ?_ ?_); (focus (first | assumption | (simp only [zn_eq, flen] at *; omega) | omega)); try cbv)
      | ((with_reducible refine k_eql hO (fun h => ?_) (fun h => ?_)) <;> try cbv)
      | ((with_reducible refine k_neq_t hO ?_ ?_); (focus (first | assumption | (simp only [zn_eq, flen] at *; omega) | omega)); try cbv)
      | ((with_reducible refine k_neq_f hO ?_ ?_); (focus (first | assumption | (simp only [zn_eq, flen] at *; omega) | omega)); try cbv)
      | ((with_reducible refine k_neq hO (fun h => ?_) (fun h => ?_)) <;> try cbv)
      | ((with_reducible refine k_lss_t hO ?_ ?_); (focus (first | assumption | (simp only [zn_eq, flen] at *; omega) | omega)); try cbv)
      | ((with_reducible refine k_lss_f hO ?_ ?_); (focus (first | assumption | (simp only [zn_eq, flen] at *; omega) | omega)); try cbv)
      | ((with_reducible refine k_lss hO (fun h => ?_) (fun h => ?_)) <;> try cbv)
      | ((with_reducible refine k_leq_t hO ?_ ?_); (focus (first | assumption | (simp only [zn_eq, flen] at *; omega) | omega)); try cbv)
      | ((with_reducible refine k_leq_f hO ?_ ?_); (focus (first | assumption | (simp only [zn_eq, flen] at *; omega) | omega)); try cbv)
      | ((with_reducible refine k_leq hO (fun h => ?_) (fun h => ?_)) <;> try cbv)
      | ((with_reducible refine k_gtr_t hO ?_ ?_); (focus (first | assumption | (simp only [zn_eq, flen] at *; omega) | omega)); try cbv)
      | ((with_reducible refine k_gtr_f hO ?_ ?_); (focus (first | assumption | (simp only [zn_eq, flen] at *; omega) | omega)); try cbv)
      | ((with_reducible refine k_gtr hO (fun h => ?_) (fun h => ?_)) <;> try cbv)
      | ((with_reducible refine k_geq_t hO ?_ ?_); (focus (first | assumption | (simp only [zn_eq, flen] at *; omega) | omega)); try cbv)
      | ((with_reducible refine k_geq_f hO ?_ ?_); (focus (first | assumption | (simp only [zn_eq, flen] at *; omega) | omega)); try cbv)
      | ((with_reducible refine k_geq hO (fun h => ?_) (fun h => ?_)) <;> try cbv)
      | ((with_reducible refine k_add_l hO ?_ ?_); (focus decide); try cbv)
      | ((with_reducible refine k_add_in hO ?_ (fun n hn => ?_)); (focus (simp only [inK, zn_eq, flen] at *; omega)); try cbv)
      | ((with_reducible refine k_add hO (fun n hn => ?_)); try cbv)
      | ((with_reducible refine k_sub_l hO ?_ ?_); (focus decide); try cbv)
      | ((with_reducible refine k_sub_in hO ?_ (fun n hn => ?_)); (focus (simp only [inK, zn_eq, flen] at *; omega)); try cbv)
      | ((with_reducible refine k_sub hO (fun n hn => ?_)); try cbv)
      | ((with_reducible refine k_mul_l hO ?_ ?_); (focus decide); try cbv)
      | ((with_reducible refine k_mul_in hO ?_ (fun n hn => ?_)); (focus (simp only [inK, zn_eq, flen] at *; omega)); try cbv)
      | ((with_reducible refine k_mul hO (fun n hn => ?_)); try cbv)
      | ((with_reducible refine k_seql_t hO ?_ ?_); (focus (first | assumption | rfl | (simp; done))); try cbv)
      | ((with_reducible refine k_seql_f hO ?_ ?_); (focus (first | assumption | decide | (simp; done))); try cbv)
      | ((with_reducible refine k_seql hO (fun h => ?_) (fun h => ?_)) <;> try cbv)
      | ((with_reducible refine k_sneq_t hO ?_ ?_); (focus (first | assumption | rfl | (simp; done))); try cbv)
      | ((with_reducible refine k_sneq_f hO ?_ ?_); (focus (first | assumption | decide | (simp; done))); try cbv)
      | ((with_reducible refine k_sneq hO (fun h => ?_) (fun h => ?_)) <;> try cbv)
      | ((with_reducible refine k_slen hO ?_ (fun n hn => ?_)); (focus (exact undOk hQ rfl)); try cbv)
      | ((with_reducible refine k_sadd hO ?_ (fun s hs hz => ?_)); (focus (first | omega | assumption | (simp only [size_lit, List.length_cons, List.length_nil] at *; omega) | (simp_all; done) | (simp_all; omega))); (try simp only [size_lit, List.length_cons, List.length_nil, Nat.reduceAdd] at hz); (try cbv))
      | ((with_reducible apply k_conv_in hO); (focus (exact undOk hQ rfl)); (focus (exact undOk hQ rfl)); (focus (simp only [inK, zn_eq, flen] at *; omega)); try cbv)
      | ((with_reducible apply k_rune hO); (focus (exact undOk hQ rfl)); (focus (exact undOk hQ rfl)); intro s hs; try cbv)
      | ((with_reducible apply k_sidx hO); (focus (exact undOk hQ rfl)); (focus assumption); (focus assumption); intro n hn; try cbv)
      | ((with_reducible refine k_min hO (fun n hn1 hn2 hn3 => ?_)); try cbv)
      | ((with_reducible refine k_max hO (fun n hn1 hn2 hn3 => ?_)); try cbv)
      | ((with_reducible refine k_rem_pos hO ?_ ?_ (fun n hn => ?_)); (focus (first | (simp only [zn_eq, flen] at *; omega) | omega)); (focus (first | (simp only [zn_eq, flen] at *; omega) | omega)); try cbv)
      | ((with_reducible refine k_rem hO ?_ (fun n hn => ?_)); (focus (first | (simp only [zn_eq, flen] at *; omega) | omega)); try cbv)
      | ((with_reducible refine k_quo_in hO ?_ ?_ ?_ (fun n hn => ?_)); (focus (first | (simp only [zn_eq, flen] at *; omega) | omega)); (focus (first | (simp only [zn_eq, flen] at *; omega) | omega)); (focus (simp only [inK, zn_eq, flen] at *; omega)); try cbv)
      | ((with_reducible refine k_quo_pos hO ?_ ?_ (fun n hn => ?_)); (focus (first | (simp only [zn_eq, flen] at *; omega) | omega)); (focus (first | (simp only [zn_eq, flen] at *; omega) | omega)); try simp (disch := omega) only [wrap_i64, wrap_u8, wrap_u64, wrap_i32, wrap_u16, wrap_u32] at hn; try cbv)
      | ((with_reducible refine k_not hO ?_); try cbv)
      | ((with_reducible refine o_ble hO ?_ ?_); (focus (first | assumption | exact Nat.le_refl _ | exact Nat.zero_le _ | (simp only [zn_eq, flen] at *; omega) | omega | decide | (simp; done) | (simp; omega) | (simp_all; done) | (simp_all [zn_eq]; omega))); try cbv)
      | ((with_reducible refine o_cut hO ?_ ?_ ?_); (focus (first | assumption | exact Nat.le_refl _ | exact Nat.zero_le _ | (simp only [zn_eq, flen] at *; omega) | omega | decide | (simp; done) | (simp; omega) | (simp_all; done) | (simp_all [zn_eq]; omega))); (focus (first | assumption | exact Nat.le_refl _ | exact Nat.zero_le _ | (simp only [zn_eq, flen] at *; omega) | omega | decide | (simp; done) | (simp; omega) | (simp_all; done) | (simp_all [zn_eq]; omega))); try cbv)
      | ((with_reducible refine o_room hO ?_ ?_ ?_); (focus (first | exact Or.inl rfl | (simp; done))); (focus (first | assumption | exact Nat.le_refl _ | exact Nat.zero_le _ | (simp only [zn_eq, flen] at *; omega) | omega | decide | (simp; done) | (simp; omega) | (simp_all; done) | (simp_all [zn_eq]; omega))); try cbv)
      | ((with_reducible refine o_nat_l hO ?_); try cbv)
      | ((with_reducible refine o_nat hO ?_ (fun j hj => ?_)); (focus (first | (simp only [zn_eq, flen] at *; omega) | omega)); try cbv)
      | ((with_reducible refine o_at_l hO ?_ ?_); (focus (first | assumption | exact Nat.le_refl _ | exact Nat.zero_le _ | (simp only [zn_eq, flen] at *; omega) | omega | decide | (simp; done) | (simp; omega) | (simp_all; done) | (simp_all [zn_eq]; omega))); try cbv)
      | ((with_reducible refine o_at hO ?_ ?_ (fun j hj => ?_)); (focus (first | (simp only [zn_eq, flen] at *; omega) | omega)); (focus (first | assumption | exact Nat.le_refl _ | exact Nat.zero_le _ | (simp only [zn_eq, flen] at *; omega) | omega | decide | (simp; done) | (simp; omega) | (simp_all; done) | (simp_all [zn_eq]; omega))); try cbv)
      | ((with_reducible apply o_len_l hO); (focus decide); try cbv)
      | ((with_reducible refine o_len hO (fun n hn => ?_)); try cbv)
      | ((with_reducible refine o_mk hO ?_ ?_ ?_ ?_ (fun j hj => ?_)); (focus (first | assumption | exact Nat.le_refl _ | exact Nat.zero_le _ | (simp only [zn_eq, flen] at *; omega) | omega | decide | (simp; done) | (simp; omega) | (simp_all; done) | (simp_all [zn_eq]; omega))); (focus (first | (simp only [zn_eq, flen] at *; omega) | omega)); (focus (first | (simp only [zn_eq, flen] at *; omega) | omega)); (focus (first | assumption | exact Nat.le_refl _ | exact Nat.zero_le _ | (simp only [zn_eq, flen] at *; omega) | omega | decide | (simp; done) | (simp; omega) | (simp_all; done) | (simp_all [zn_eq]; omega))); try cbv)
      | ((with_reducible refine o_empty hO ?_ ?_); (focus (first | rfl | assumption)); try cbv)
      | ((with_reducible apply o_elem_l hO); (focus (first | assumption | rfl | (simp; done))); try cbv)
      | ((with_reducible apply o_elem hO); (focus assumption); (focus assumption); try cbv)
      | ((with_reducible apply o_get hO); (focus (first | assumption | rfl | (simp; done))); try cbv)
      | ((with_reducible refine o_guard hO ?_ ?_); (focus (first | decide +kernel | (simp; done))); try cbv))
    exact ⟨congrArg (fun q => AV.p (PV.v (Value.string q))) (by subst_vars; rfl), trivial⟩
  by_cases c5 : k = 5
  · have e : nodeT k op nm iv kid t = (((((sb [112, 105, 99, 107, 40] ++ kid 0 0) ++ sb [44, 32]) ++ kid 1 0) ++ sb [44, 32]) ++ kid 2 0) ++ sb [41] := by unfold nodeT; rw [if_neg c0, if_neg c1, if_neg c2, if_neg c4, if_pos c5]
    rw [e]
    have hk0 := hk 0 0 (by omega)
    have hs0 := hs 0 0
    have hk1 := hk 1 0 (by omega)
    have hs1 := hs 1 0
    have hk2 := hk 2 0 (by omega)
    have hs2 := hs 2 0
    clear hk hs e hl
    generalize kid 0 0 = s0 at *
    generalize kid 1 0 = s1 at *
    generalize kid 2 0 = s2 at *
    generalize hr : (((((sb [112, 105, 99, 107, 40] ++ s0) ++ sb [44, 32]) ++ s1) ++ sb [44, 32]) ++ s2) ++ sb [41] = r
    refine semCall_of_prop (fn := Tryd.f9) (T := tab) tabOk mixed04 (by rfl) (by rfl) (by kernel_rfl) ?_
    intro Q O F hQ hO hF
    have flen := lofLen hF
    have ftake := lofTake hF
    have fdrop := lofDrop hF
    have fapp := lofApp hF
    have fset := lofSet hF
    have fbytes := lofBytes hF
    have frep := lofRep hF
    unfold Tryd.f9
    cbv
    repeat' (first
      | (with_reducible refine o_call hO hQ hk0 ?_); try cbv
      | (with_reducible refine o_call hO hQ hk1 ?_); try cbv
      | (with_reducible refine o_call hO hQ hk2 ?_); try cbv
      | ((with_reducible refine k_eql_t hO ?_ ?_); (focus (first | assumption | (simp only [zn_eq, flen] at *; omega) | omega)); try cbv)
      | ((with_reducible refine k_eql_f hO ?_ ?_); (focus (first | assumption | (simp only [zn_eq, flen] at *; omega) | omega)); try cbv)
      | ((with_reducible refine k_eql hO (fun h => ?_) (fun h => ?_)) <;> try cbv)
      | ((with_reducible refine k_neq_t hO ?_ ?_); (focus (first | assumption | (simp only [zn_eq, flen] at *; omega) | omega)); try cbv)
      | ((with_reducible refine k_neq_f hO ?_ ?_); (focus (first | assumption | (simp only [zn_eq, flen] at *; omega) | omega)); try cbv)
      | ((with_reducible refine k_neq hO (fun h => ?_) (fun h => ?_)) <;> try cbv)
      | ((with_reducible refine k_lss_t hO ?_ ?_); (focus (first | assumption | (simp only [zn_eq, flen] at *; omega) | omega)); try cbv)
      | ((with_reducible refine k_lss_f hO ?_ ?_); (focus (first | assumption | (simp only [zn_eq, flen] at *; omega) | omega)); try cbv)
      | ((with_reducible refine k_lss hO (fun h => ?_) (fun h => ?_)) <;> try cbv)
      | ((with_reducible refine k_leq_t hO ?_ ?_); (focus (first | assumption | (simp only [zn_eq, flen] at *; omega) | omega)); try cbv)
      | ((with_reducible refine k_leq_f hO ?_ ?_); (focus (first | assumption | (simp only [zn_eq, flen] at *; omega) | omega)); try cbv)
      | ((with_reducible refine k_leq hO (fun h => ?_) (fun h => ?_)) <;> try cbv)
      | ((with_reducible refine k_gtr_t hO ?_ ?_); (focus (first | assumption | (simp only [zn_eq, flen] at *; omega) | omega)); try cbv)
      | ((with_reducible refine k_gtr_f hO ?_ ?_); (focus (first | assumption | (simp only [zn_eq, flen] at *; omega) | omega)); try cbv)
      | ((with_reducible refine k_gtr hO (fun h => ?_) (fun h => ?_)) <;> try cbv)
      | ((with_reducible refine k_geq_t hO ?_ ?_); (focus (first | assumption | (simp only [zn_eq, flen] at *; omega) | omega)); try cbv)
      | ((with_reducible refine k_geq_f hO ?_ ?_); (focus (first | assumption | (simp only [zn_eq, flen] at *; omega) | omega)); try cbv)
      | ((with_reducible refine k_geq hO (fun h => ?_) (fun h => ?_)) <;> try cbv)
      | ((with_reducible refine k_add_l hO ?_ ?_); (focus decide); try cbv)
      | ((with_reducible refine k_add_in hO ?_ (fun n hn => ?_)); (focus (simp only [inK, zn_eq, flen] at *; omega)); try cbv)
      | ((with_reducible refine k_add hO (fun n hn => ?_)); try cbv)
      | ((with_reducible refine k_sub_l hO ?_ ?_); (focus decide); try cbv)
      | ((with_reducible refine k_sub_in hO ?_ (fun n hn => ?_)); (focus (simp only [inK, zn_eq, flen] at *; omega)); try cbv)
      | ((with_reducible refine k_sub hO (fun n hn => ?_)); try cbv)
      | ((with_reducible refine k_mul_l hO ?_ ?_); (focus decide); try cbv)
      | ((with_reducible refine k_mul_in hO ?_ (fun n hn => ?_)); (focus (simp only [inK, zn_eq, flen] at *; omega)); try cbv)
      | ((with_reducible refine k_mul hO (fun n hn => ?_)); try cbv)
      | ((with_reducible refine k_seql_t hO ?_ ?_); (focus (first | assumption | rfl | (simp; done))); try cbv)
      | ((with_reducible refine k_seql_f hO ?_ ?_); (focus (first | assumption | decide | (simp; done))); try cbv)
      | ((with_reducible refine k_seql hO (fun h => ?_) (fun h => ?_)) <;> try cbv)
      | ((with_reducible refine k_sneq_t hO ?_ ?_); (focus (first | assumption | rfl | (simp; done))); try cbv)
      | ((with_reducible refine k_sneq_f hO ?_ ?_); (focus (first | assumption | decide | (simp; done))); try cbv)
      | ((with_reducible refine k_sneq hO (fun h => ?_) (fun h => ?_)) <;> try cbv)
      | ((with_reducible refine k_slen hO ?_ (fun n hn => ?_)); (focus (exact undOk hQ rfl)); try cbv)
      | ((with_reducible refine k_sadd hO ?_ (fun s hs hz => ?_)); (focus (first | omega | assumption | (simp only [size_lit, List.length_cons, List.length_nil] at *; omega) | (simp_all; done) | (simp_all; omega))); (try simp only [size_lit, List.length_cons, List.length_nil, Nat.reduceAdd] at hz); (try cbv))
      | ((with_reducible apply k_conv_in hO); (focus (exact undOk hQ rfl)); (focus (exact undOk hQ rfl)); (focus (simp only [inK, zn_eq, flen] at *; omega)); try cbv)
      | ((with_reducible apply k_rune hO); (focus (exact undOk hQ rfl)); (focus (exact undOk hQ rfl)); intro s hs; try cbv)
      | ((with_reducible apply k_sidx hO); (focus (exact undOk hQ rfl)); (focus assumption); (focus assumption); intro n hn; try cbv)
      | ((with_reducible refine k_min hO (fun n hn1 hn2 hn3 => ?_)); try cbv)
      | ((with_reducible refine k_max hO (fun n hn1 hn2 hn3 => ?_)); try cbv)
      | ((with_reducible refine k_rem_pos hO ?_ ?_ (fun n hn => ?_)); (focus (first | (simp only [zn_eq, flen] at *; omega) | omega)); (focus (first | (simp only [zn_eq, flen] at *; omega) | omega)); try cbv)
      | ((with_reducible refine k_rem hO ?_ (fun n hn => ?_)); (focus (first | (simp only [zn_eq, flen] at *; omega) | omega)); try cbv)
      | ((with_reducible refine k_quo_in hO ?_ ?_ ?_ (fun n hn => ?_)); (focus (first | (simp only [zn_eq, flen] at *; omega) | omega)); (focus (first | (simp only [zn_eq, flen] at *; omega) | omega)); (focus (simp only [inK, zn_eq, flen] at *; omega)); try cbv)
      | ((with_reducible refine k_quo_pos hO ?_ ?_ (fun n hn => ?_)); (focus (first | (simp only [zn_eq, flen] at *; omega) | omega)); (focus (first | (simp only [zn_eq, flen] at *; omega) | omega)); try simp (disch := omega) only [wrap_i64, wrap_u8, wrap_u64, wrap_i32, wrap_u16, wrap_u32] at hn; try cbv)
      | ((with_reducible refine k_not hO ?_); try cbv)
      | ((with_reducible refine o_ble hO ?_ ?_); (focus (first | assumption | exact Nat.le_refl _ | exact Nat.zero_le _ | (simp only [zn_eq, flen] at *; omega) | omega | decide | (simp; done) | (simp; omega) | (simp_all; done) | (simp_all [zn_eq]; omega))); try cbv)
      | ((with_reducible refine o_cut hO ?_ ?_ ?_); (focus (first | assumption | exact Nat.le_refl _ | exact Nat.zero_le _ | (simp only [zn_eq, flen] at *; omega) | omega | decide | (simp; done) | (simp; omega) | (simp_all; done) | (simp_all [zn_eq]; omega))); (focus (first | assumption | exact Nat.le_refl _ | exact Nat.zero_le _ | (simp only [zn_eq, flen] at *; omega) | omega | decide | (simp; done) | (simp; omega) | (simp_all; done) | (simp_all [zn_eq]; omega))); try cbv)
      | ((with_reducible refine o_room hO ?_ ?_ ?_); (focus (first | exact Or.inl rfl | (simp; done))); (focus (first | assumption | exact Nat.le_refl _ | exact Nat.zero_le _ | (simp only [zn_eq, flen] at *; omega) | omega | decide | (simp; done) | (simp; omega) | (simp_all; done) | (simp_all [zn_eq]; omega))); try cbv)
      | ((with_reducible refine o_nat_l hO ?_); try cbv)
      | ((with_reducible refine o_nat hO ?_ (fun j hj => ?_)); (focus (first | (simp only [zn_eq, flen] at *; omega) | omega)); try cbv)
      | ((with_reducible refine o_at_l hO ?_ ?_); (focus (first | assumption | exact Nat.le_refl _ | exact Nat.zero_le _ | (simp only [zn_eq, flen] at *; omega) | omega | decide | (simp; done) | (simp; omega) | (simp_all; done) | (simp_all [zn_eq]; omega))); try cbv)
      | ((with_reducible refine o_at hO ?_ ?_ (fun j hj => ?_)); (focus (first | (simp only [zn_eq, flen] at *; omega) | omega)); (focus (first | assumption | exact Nat.le_refl _ | exact Nat.zero_le _ | (simp only [zn_eq, flen] at *; omega) | omega | decide | (simp; done) | (simp; omega) | (simp_all; done) | (simp_all [zn_eq]; omega))); try cbv)
      | ((with_reducible apply o_len_l hO); (focus decide); try cbv)
      | ((with_reducible refine o_len hO (fun n hn => ?_)); try cbv)
      | ((with_reducible refine o_mk hO ?_ ?_ ?_ ?_ (fun j hj => ?_)); (focus (first | assumption | exact Nat.le_refl _ | exact Nat.zero_le _ | (simp only [zn_eq, flen] at *; omega) | omega | decide | (simp; done) | (simp; omega) | (simp_all; done) | (simp_all [zn_eq]; omega))); (focus (first | (simp only [zn_eq, flen] at *; omega) | omega)); (focus (first | (simp only [zn_eq, flen] at *; omega) | omega)); (focus (first | assumption | exact Nat.le_refl _ | exact Nat.zero_le _ | (simp only [zn_eq, flen] at *; omega) | omega | decide | (simp; done) | (simp; omega) | (simp_all; done) | (simp_all [zn_eq]; omega))); try cbv)
      | ((with_reducible refine o_empty hO ?_ ?_); (focus (first | rfl | assumption)); try cbv)
      | ((with_reducible apply o_elem_l hO); (focus (first | assumption | rfl | (simp; done))); try cbv)
      | ((with_reducible apply o_elem hO); (focus assumption); (focus assumption); try cbv)
      | ((with_reducible apply o_get hO); (focus (first | assumption | rfl | (simp; done))); try cbv)
      | ((with_reducible refine o_guard hO ?_ ?_); (focus (first | decide +kernel | (simp; done))); try cbv))
    exact ⟨congrArg (fun q => AV.p (PV.v (Value.string q))) (by subst_vars; rfl), trivial⟩
  have ht := tight_sem op
  by_cases c6 : tightOf op = 0 ∨ k ≠ 3
  · have e : nodeT k op nm iv kid t = sb [63] := by
      unfold nodeT; rw [if_neg c0, if_neg c1, if_neg c2, if_neg c4, if_neg c5]
      by_cases c7 : tightOf op = 0
      · rw [if_pos c7]
      · rw [if_neg c7, if_neg (by omega)]
    rw [e]
    clear hk hs e hl
    generalize tightOf op = own at *
    refine semCall_of_prop (fn := Tryd.f9) (T := tab) tabOk mixed04 (by rfl) (by rfl) (by kernel_rfl) ?_
    intro Q O F hQ hO hF
    have flen := lofLen hF
    have ftake := lofTake hF
    have fdrop := lofDrop hF
    have fapp := lofApp hF
    have fset := lofSet hF
    have fbytes := lofBytes hF
    have frep := lofRep hF
    unfold Tryd.f9
    cbv
    repeat' (first
      | (with_reducible refine o_call hO hQ ht ?_); try cbv
      | ((with_reducible refine k_eql_t hO ?_ ?_); (focus (first | assumption | (simp only [zn_eq, flen] at *; omega) | omega)); try cbv)
      | ((with_reducible refine k_eql_f hO ?_ ?_); (focus (first | assumption | (simp only [zn_eq, flen] at *; omega) | omega)); try cbv)
      | ((with_reducible refine k_eql hO (fun h => ?_) (fun h => ?_)) <;> try cbv)
      | ((with_reducible refine k_neq_t hO ?_ ?_); (focus (first | assumption | (simp only [zn_eq, flen] at *; omega) | omega)); try cbv)
      | ((with_reducible refine k_neq_f hO ?_ ?_); (focus (first | assumption | (simp only [zn_eq, flen] at *; omega) | omega)); try cbv)
      | ((with_reducible refine k_neq hO (fun h => ?_) (fun h => ?_)) <;> try cbv)
      | ((with_reducible refine k_lss_t hO ?_ ?_); (focus (first | assumption | (simp only [zn_eq, flen] at *; omega) | omega)); try cbv)
      | ((with_reducible refine k_lss_f hO ?_ ?_); (focus (first | assumption | (simp only [zn_eq, flen] at *; omega) | omega)); try cbv)
      | ((with_reducible refine k_lss hO (fun h => ?_) (fun h => ?_)) <;> try cbv)
      | ((with_reducible refine k_leq_t hO ?_ ?_); (focus (first | assumption | (simp only [zn_eq, flen] at *; omega) | omega)); try cbv)
      | ((with_reducible refine k_leq_f hO ?_ ?_); (focus (first | assumption | (simp only [zn_eq, flen] at *; omega) | omega)); try cbv)
      | ((with_reducible refine k_leq hO (fun h => ?_) (fun h => ?_)) <;> try cbv)
      | ((with_reducible refine k_gtr_t hO ?_ ?_); (focus (first | assumption | (simp only [zn_eq, flen] at *; omega) | omega)); try cbv)
      | ((with_reducible refine k_gtr_f hO ?_ ?_); (focus (first | assumption | (simp only [zn_eq, flen] at *; omega) | omega)); try cbv)
      | ((with_reducible refine k_gtr hO (fun h => ?_) (fun h => ?_)) <;> try cbv)
      | ((with_reducible refine k_geq_t hO ?_ ?_); (focus (first | assumption | (simp only [zn_eq, flen] at *; omega) | omega)); try cbv)
      | ((with_reducible refine k_geq_f hO ?_ ?_); (focus (first | assumption | (simp only [zn_eq, flen] at *; omega) | omega)); try cbv)
      | ((with_reducible refine k_geq hO (fun h => ?_) (fun h => ?_)) <;> try cbv)
      | ((with_reducible refine k_add_l hO ?_ ?_); (focus decide); try cbv)
      | ((with_reducible refine k_add_in hO ?_ (fun n hn => ?_)); (focus (simp only [inK, zn_eq, flen] at *; omega)); try cbv)
      | ((with_reducible refine k_add hO (fun n hn => ?_)); try cbv)
      | ((with_reducible refine k_sub_l hO ?_ ?_); (focus decide); try cbv)
      | ((with_reducible refine k_sub_in hO ?_ (fun n hn => ?_)); (focus (simp only [inK, zn_eq, flen] at *; omega)); try cbv)
      | ((with_reducible refine k_sub hO (fun n hn => ?_)); try cbv)
      | ((with_reducible refine k_mul_l hO ?_ ?_); (focus decide); try cbv)
      | ((with_reducible refine k_mul_in hO ?_ (fun n hn => ?_)); (focus (simp only [inK, zn_eq, flen] at *; omega)); try cbv)
      | ((with_reducible refine k_mul hO (fun n hn => ?_)); try cbv)
      | ((with_reducible refine k_seql_t hO ?_ ?_); (focus (first | assumption | rfl | (simp; done))); try cbv)
      | ((with_reducible refine k_seql_f hO ?_ ?_); (focus (first | assumption | decide | (simp; done))); try cbv)
      | ((with_reducible refine k_seql hO (fun h => ?_) (fun h => ?_)) <;> try cbv)
      | ((with_reducible refine k_sneq_t hO ?_ ?_); (focus (first | assumption | rfl | (simp; done))); try cbv)
      | ((with_reducible refine k_sneq_f hO ?_ ?_); (focus (first | assumption | decide | (simp; done))); try cbv)
      | ((with_reducible refine k_sneq hO (fun h => ?_) (fun h => ?_)) <;> try cbv)
      | ((with_reducible refine k_slen hO ?_ (fun n hn => ?_)); (focus (exact undOk hQ rfl)); try cbv)
      | ((with_reducible refine k_sadd hO ?_ (fun s hs hz => ?_)); (focus (first | omega | assumption | (simp only [size_lit, List.length_cons, List.length_nil] at *; omega) | (simp_all; done) | (simp_all; omega))); (try simp only [size_lit, List.length_cons, List.length_nil, Nat.reduceAdd] at hz); (try cbv))
      | ((with_reducible apply k_conv_in hO); (focus (exact undOk hQ rfl)); (focus (exact undOk hQ rfl)); (focus (simp only [inK, zn_eq, flen] at *; omega)); try cbv)
      | ((with_reducible apply k_rune hO); (focus (exact undOk hQ rfl)); (focus (exact undOk hQ rfl)); intro s hs; try cbv)
      | ((with_reducible apply k_sidx hO); (focus (exact undOk hQ rfl)); (focus assumption); (focus assumption); intro n hn; try cbv)
      | ((with_reducible refine k_min hO (fun n hn1 hn2 hn3 => ?_)); try cbv)
      | ((with_reducible refine k_max hO (fun n hn1 hn2 hn3 => ?_)); try cbv)
      | ((with_reducible refine k_rem_pos hO ?_ ?_ (fun n hn => ?_)); (focus (first | (simp only [zn_eq, flen] at *; omega) | omega)); (focus (first | (simp only [zn_eq, flen] at *; omega) | omega)); try cbv)
      | ((with_reducible refine k_rem hO ?_ (fun n hn => ?_)); (focus (first | (simp only [zn_eq, flen] at *; omega) | omega)); try cbv)
      | ((with_reducible refine k_quo_in hO ?_ ?_ ?_ (fun n hn => ?_)); (focus (first | (simp only [zn_eq, flen] at *; omega) | omega)); (focus (first | (simp only [zn_eq, flen] at *; omega) | omega)); (focus (simp only [inK, zn_eq, flen] at *; omega)); try cbv)
      | ((with_reducible refine k_quo_pos hO ?_ ?_ (fun n hn => ?_)); (focus (first | (simp only [zn_eq, flen] at *; omega) | omega)); (focus (first | (simp only [zn_eq, flen] at *; omega) | omega)); try simp (disch := omega) only [wrap_i64, wrap_u8, wrap_u64, wrap_i32, wrap_u16, wrap_u32] at hn; try cbv)
      | ((with_reducible refine k_not hO ?_); try cbv)
      | ((with_reducible refine o_ble hO ?_ ?_); (focus (first | assumption | exact Nat.le_refl _ | exact Nat.zero_le _ | (simp only [zn_eq, flen] at *; omega) | omega | decide | (simp; done) | (simp; omega) | (simp_all; done) | (simp_all [zn_eq]; omega))); try cbv)
      | ((with_reducible refine o_cut hO ?_ ?_ ?_); (focus (first | assumption | exact Nat.le_refl _ | exact Nat.zero_le _ | (simp only [zn_eq, flen] at *; omega) | omega | decide | (simp; done) | (simp; omega) | (simp_all; done) | (simp_all [zn_eq]; omega))); (focus (first | assumption | exact Nat.le_refl _ | exact Nat.zero_le _ | (simp only [zn_eq, flen] at *; omega) | omega | decide | (simp; done) | (simp; omega) | (simp_all; done) | (simp_all [zn_eq]; omega))); try cbv)
      | ((with_reducible refine o_room hO ?_ ?_ ?_); (focus (first | exact Or.inl rfl | (simp; done))); (focus (first | assumption | exact Nat.le_refl _ | exact Nat.zero_le _ | (simp only [zn_eq, flen] at *; omega) | omega | decide | (simp; done) | (simp; omega) | (simp_all; done) | (simp_all [zn_eq]; omega))); try cbv)
      | ((with_reducible refine o_nat_l hO ?_); try cbv)
      | ((with_reducible refine o_nat hO ?_ (fun j hj => ?_)); (focus (first | (simp only [zn_eq, flen] at *; omega) | omega)); try cbv)
      | ((with_reducible refine o_at_l hO ?_ ?_); (focus (first | assumption | exact Nat.le_refl _ | exact Nat.zero_le _ | (simp only [zn_eq, flen] at *; omega) | omega | decide | (simp; done) | (simp; omega) | (simp_all; done) | (simp_all [zn_eq]; omega))); try cbv)
      | ((with_reducible refine o_at hO ?_ ?_ (fun j hj => ?_)); (focus (first | (simp only [zn_eq, flen] at *; omega) | omega)); (focus (first | assumption | exact Nat.le_refl _ | exact Nat.zero_le _ | (simp only [zn_eq, flen] at *; omega) | omega | decide | (simp; done) | (simp; omega) | (simp_all; done) | (simp_all [zn_eq]; omega))); try cbv)
      | ((with_reducible apply o_len_l hO); (focus decide); try cbv)
      | ((with_reducible refine o_len hO (fun n hn => ?_)); try cbv)
      | ((with_reducible refine o_mk hO ?_ ?_ ?_ ?_ (fun j hj => ?_)); (focus (first | assumption | exact Nat.le_refl _ | exact Nat.zero_le _ | (simp only [zn_eq, flen] at *; omega) | omega | decide | (simp; done) | (simp; omega) | (simp_all; done) | (simp_all [zn_eq]; omega))); (focus (first | (simp only [zn_eq, flen] at *; omega) | omega)); (focus (first | (simp only [zn_eq, flen] at *; omega) | omega)); (focus (first | assumption | exact Nat.le_refl _ | exact Nat.zero_le _ | (simp only [zn_eq, flen] at *; omega) | omega | decide | (simp; done) | (simp; omega) | (simp_all; done) | (simp_all [zn_eq]; omega))); try cbv)
      | ((with_reducible refine o_empty hO ?_ ?_); (focus (first | rfl | assumption)); try cbv)
      | ((with_reducible apply o_elem_l hO); (focus (first | assumption | rfl | (simp; done))); try cbv)
      | ((with_reducible apply o_elem hO); (focus assumption); (focus assumption); try cbv)
      | ((with_reducible apply o_get hO); (focus (first | assumption | rfl | (simp; done))); try cbv)
      | ((with_reducible refine o_guard hO ?_ ?_); (focus (first | decide +kernel | (simp; done))); try cbv))
    all_goals (first | (exfalso; omega) | exact ⟨rfl, trivial⟩)
  have c3 : k = 3 := by omega
  have c7 : ¬ tightOf op = 0 := by omega
  have hop : 0 ≤ op ∧ op ≤ 9 := by
    refine Classical.byContradiction fun h => c7 ?_
    unfold tightOf
    repeat rw [if_neg (by omega)]
  have e : nodeT k op nm iv kid t = if tightOf op < t then (sb [40] ++ ((((kid 0 (tightOf op) ++ sb [32]) ++ signOf op) ++ sb [32]) ++ kid 1 (tightOf op + 1))) ++ sb [41] else (((kid 0 (tightOf op) ++ sb [32]) ++ signOf op) ++ sb [32]) ++ kid 1 (tightOf op + 1) := by
    unfold nodeT; rw [if_neg c0, if_neg c1, if_neg c2, if_neg c4, if_neg c5, if_neg c7, if_pos c3]
  rw [e]
  have hown : 1 ≤ tightOf op ∧ tightOf op ≤ 7 := by
    unfold tightOf at c7 ⊢
    omega
  have hk0 := hk 0 (tightOf op) (by omega)
  have hs0 := hs 0 (tightOf op)
  have hk1 : ∀ n, n = tightOf op + 1 → SemCall P04 16 [vi 1, vi n, .ptr 0 0 0] [⟨31, exO k op nm v ks a⟩] (kidRes (kid 1 (tightOf op + 1))) := fun n hn => hn ▸ hk 1 (tightOf op + 1) (by omega)
  have hs1 := hs 1 (tightOf op + 1)
  have hsg := signs_sem
  obtain ⟨j, hj⟩ : ∃ j : Nat, zn j = op := ⟨op.toNat, by rw [zn_eq]; omega⟩
  have e1 : (strRows [sb [43], sb [45], sb [42], sb [38], sb [124], sb [94], sb [60, 60], sb [62, 62], sb [61, 61], sb [60]])[j]? = some [.v (.string (signOf op))] := by
    rw [zn_eq] at hj
    obtain rfl : j = op.toNat := by omega
    have hc : op = 0 ∨ op = 1 ∨ op = 2 ∨ op = 3 ∨ op = 4 ∨ op = 5 ∨ op = 6 ∨ op = 7 ∨ op = 8 ∨ op = 9 := by omega
    clear hk hs e hl hk0 hk1 hsg ht
    rcases hc with rfl | rfl | rfl | rfl | rfl | rfl | rfl | rfl | rfl | rfl <;> rfl
  have hjl : j < 10 := by rw [zn_eq] at hj; omega
  have hxl : (strRows [sb [43], sb [45], sb [42], sb [38], sb [124], sb [94], sb [60, 60], sb [62, 62], sb [61, 61], sb [60]]).length = 10 := rfl
  have hgs : (signOf op).size ≤ 2 := by unfold signOf sb; (repeat' split) <;> decide
  generalize strRows [sb [43], sb [45], sb [42], sb [38], sb [124], sb [94], sb [60, 60], sb [62, 62], sb [61, 61], sb [60]] = xs at *
  clear hk hs e hl
  generalize kid 0 (tightOf op) = s0 at *
  generalize kid 1 (tightOf op + 1) = s1 at *
  generalize tightOf op = own at *
  generalize signOf op = sg at *
  by_cases c8 : own < t
  · rw [if_pos c8]
    generalize hr : (sb [40] ++ ((((s0 ++ sb [32]) ++ sg) ++ sb [32]) ++ s1)) ++ sb [41] = r
    refine semCall_of_prop (fn := Tryd.f9) (T := tab) tabOk mixed04 (by rfl) (by rfl) (by kernel_rfl) ?_
    intro Q O F hQ hO hF
    have flen := lofLen hF
    have ftake := lofTake hF
    have fdrop := lofDrop hF
    have fapp := lofApp hF
    have fset := lofSet hF
    have fbytes := lofBytes hF
    have frep := lofRep hF
    unfold Tryd.f9
    cbv
    repeat' (first
      | (with_reducible refine o_at_g hO hj ?_ ?_); (focus (simp only [flen, hxl]; omega)); try cbv
      | (with_reducible refine o_call hO hQ ht ?_); try cbv
      | (with_reducible refine o_call hO hQ hk0 ?_); try cbv
      | (with_reducible refine o_call hO hQ (hk1 _ (by assumption)) ?_); try cbv
      | (with_reducible refine o_call hO hQ hsg ?_); try cbv
      | ((with_reducible refine k_eql_t hO ?_ ?_); (focus (first | assumption | (simp only [zn_eq, flen] at *; omega) | omega)); try cbv)
      | ((with_reducible refine k_eql_f hO ?_ ?_); (focus (first | assumption | (simp only [zn_eq, flen] at *; omega) | omega)); try cbv)
      | ((with_reducible refine k_eql hO (fun h => ?_) (fun h => ?_)) <;> try cbv)
      | ((with_reducible refine k_neq_t hO ?_ ?_); (focus (first | assumption | (simp only [zn_eq, flen] at *; omega) | omega)); try cbv)
      | ((with_reducible refine k_neq_f hO ?_ ?_); (focus (first | assumption | (simp only [zn_eq, flen] at *; omega) | omega)); try cbv)
      | ((with_reducible refine k_neq hO (fun h => ?_) (fun h => ?_)) <;> try cbv)
      | ((with_reducible refine k_lss_t hO ?_ ?_); (focus (first | assumption | (simp only [zn_eq, flen] at *; omega) | omega)); try cbv)
      | ((with_reducible refine k_lss_f hO ?_ ?_); (focus (first | assumption | (simp only [zn_eq, flen] at *; omega) | omega)); try cbv)
      | ((with_reducible refine k_lss hO (fun h => ?_) (fun h => ?_)) <;> try cbv)
      | ((with_reducible refine k_leq_t hO ?_ ?_); (focus (first | assumption | (simp only [zn_eq, flen] at *; omega) | omega)); try cbv)
      | ((with_reducible refine k_leq_f hO ?_ ?_); (focus (first | assumption | (simp only [zn_eq, flen] at *; omega) | omega)); try cbv)
      | ((with_reducible refine k_leq hO (fun h => ?_) (fun h => ?_)) <;> try cbv)
      | ((with_reducible refine k_gtr_t hO ?_ ?_); (focus (first | assumption | (simp only [zn_eq, flen] at *; omega) | omega)); try cbv)
      | ((with_reducible refine k_gtr_f hO ?_ ?_); (focus (first | assumption | (simp only [zn_eq, flen] at *; omega) | omega)); try cbv)
      | ((with_reducible refine k_gtr hO (fun h => ?_) (fun h => ?_)) <;> try cbv)
      | ((with_reducible refine k_geq_t hO ?_ ?_); (focus (first | assumption | (simp only [zn_eq, flen] at *; omega) | omega)); try cbv)
      | ((with_reducible refine k_geq_f hO ?_ ?_); (focus (first | assumption | (simp only [zn_eq, flen] at *; omega) | omega)); try cbv)
      | ((with_reducible refine k_geq hO (fun h => ?_) (fun h => ?_)) <;> try cbv)
      | ((with_reducible refine k_add_l hO ?_ ?_); (focus decide); try cbv)
      | ((with_reducible refine k_add_in hO ?_ (fun n hn => ?_)); (focus (simp only [inK, zn_eq, flen] at *; omega)); try cbv)
      | ((with_reducible refine k_add hO (fun n hn => ?_)); try cbv)
      | ((with_reducible refine k_sub_l hO ?_ ?_); (focus decide); try cbv)
      | ((with_reducible refine k_sub_in hO ?_ (fun n hn => ?_)); (focus (simp only [inK, zn_eq, flen] at *; omega)); try cbv)
      | ((with_reducible refine k_sub hO (fun n hn => ?_)); try cbv)
      | ((with_reducible refine k_mul_l hO ?_ ?_); (focus decide); try cbv)
      | ((with_reducible refine k_mul_in hO ?_ (fun n hn => ?_)); (focus (simp only [inK, zn_eq, flen] at *; omega)); try cbv)
      | ((with_reducible refine k_mul hO (fun n hn => ?_)); try cbv)
      | ((with_reducible refine k_seql_t hO ?_ ?_); (focus (first | assumption | rfl | (simp; done))); try cbv)
      | ((with_reducible refine k_seql_f hO ?_ ?_); (focus (first | assumption | decide | (simp; done))); try cbv)
      | ((with_reducible refine k_seql hO (fun h => ?_) (fun h => ?_)) <;> try cbv)
      | ((with_reducible refine k_sneq_t hO ?_ ?_); (focus (first | assumption | rfl | (simp; done))); try cbv)
      | ((with_reducible refine k_sneq_f hO ?_ ?_); (focus (first | assumption | decide | (simp; done))); try cbv)
      | ((with_reducible refine k_sneq hO (fun h => ?_) (fun h => ?_)) <;> try cbv)
      | ((with_reducible refine k_slen hO ?_ (fun n hn => ?_)); (focus (exact undOk hQ rfl)); try cbv)
      | ((with_reducible refine k_sadd hO ?_ (fun s hs hz => ?_)); (focus (first | omega | assumption | (simp only [size_lit, List.length_cons, List.length_nil] at *; omega) | (simp_all; done) | (simp_all; omega))); (try simp only [size_lit, List.length_cons, List.length_nil, Nat.reduceAdd] at hz); (try cbv))
      | ((with_reducible apply k_conv_in hO); (focus (exact undOk hQ rfl)); (focus (exact undOk hQ rfl)); (focus (simp only [inK, zn_eq, flen] at *; omega)); try cbv)
      | ((with_reducible apply k_rune hO); (focus (exact undOk hQ rfl)); (focus (exact undOk hQ rfl)); intro s hs; try cbv)
      | ((with_reducible apply k_sidx hO); (focus (exact undOk hQ rfl)); (focus assumption); (focus assumption); intro n hn; try cbv)
      | ((with_reducible refine k_min hO (fun n hn1 hn2 hn3 => ?_)); try cbv)
      | ((with_reducible refine k_max hO (fun n hn1 hn2 hn3 => ?_)); try cbv)
      | ((with_reducible refine k_rem_pos hO ?_ ?_ (fun n hn => ?_)); (focus (first | (simp only [zn_eq, flen] at *; omega) | omega)); (focus (first | (simp only [zn_eq, flen] at *; omega) | omega)); try cbv)
      | ((with_reducible refine k_rem hO ?_ (fun n hn => ?_)); (focus (first | (simp only [zn_eq, flen] at *; omega) | omega)); try cbv)
      | ((with_reducible refine k_quo_in hO ?_ ?_ ?_ (fun n hn => ?_)); (focus (first | (simp only [zn_eq, flen] at *; omega) | omega)); (focus (first | (simp only [zn_eq, flen] at *; omega) | omega)); (focus (simp only [inK, zn_eq, flen] at *; omega)); try cbv)
      | ((with_reducible refine k_quo_pos hO ?_ ?_ (fun n hn => ?_)); (focus (first | (simp only [zn_eq, flen] at *; omega) | omega)); (focus (first | (simp only [zn_eq, flen] at *; omega) | omega)); try simp (disch := omega) only [wrap_i64, wrap_u8, wrap_u64, wrap_i32, wrap_u16, wrap_u32] at hn; try cbv)
      | ((with_reducible refine k_not hO ?_); try cbv)
      | ((with_reducible refine o_ble hO ?_ ?_); (focus (first | assumption | exact Nat.le_refl _ | exact Nat.zero_le _ | (simp only [zn_eq, flen] at *; omega) | omega | decide | (simp; done) | (simp; omega) | (simp_all; done) | (simp_all [zn_eq]; omega))); try cbv)
      | ((with_reducible refine o_cut hO ?_ ?_ ?_); (focus (first | assumption | exact Nat.le_refl _ | exact Nat.zero_le _ | (simp only [zn_eq, flen] at *; omega) | omega | decide | (simp; done) | (simp; omega) | (simp_all; done) | (simp_all [zn_eq]; omega))); (focus (first | assumption | exact Nat.le_refl _ | exact Nat.zero_le _ | (simp only [zn_eq, flen] at *; omega) | omega | decide | (simp; done) | (simp; omega) | (simp_all; done) | (simp_all [zn_eq]; omega))); try cbv)
      | ((with_reducible refine o_room hO ?_ ?_ ?_); (focus (first | exact Or.inl rfl | (simp; done))); (focus (first | assumption | exact Nat.le_refl _ | exact Nat.zero_le _ | (simp only [zn_eq, flen] at *; omega) | omega | decide | (simp; done) | (simp; omega) | (simp_all; done) | (simp_all [zn_eq]; omega))); try cbv)
      | ((with_reducible refine o_nat_l hO ?_); try cbv)
      | ((with_reducible refine o_nat hO ?_ (fun j hj => ?_)); (focus (first | (simp only [zn_eq, flen] at *; omega) | omega)); try cbv)
      | ((with_reducible refine o_at_l hO ?_ ?_); (focus (first | assumption | exact Nat.le_refl _ | exact Nat.zero_le _ | (simp only [zn_eq, flen] at *; omega) | omega | decide | (simp; done) | (simp; omega) | (simp_all; done) | (simp_all [zn_eq]; omega))); try cbv)
      | ((with_reducible refine o_at hO ?_ ?_ (fun j hj => ?_)); (focus (first | (simp only [zn_eq, flen] at *; omega) | omega)); (focus (first | assumption | exact Nat.le_refl _ | exact Nat.zero_le _ | (simp only [zn_eq, flen] at *; omega) | omega | decide | (simp; done) | (simp; omega) | (simp_all; done) | (simp_all [zn_eq]; omega))); try cbv)
      | ((with_reducible apply o_len_l hO); (focus decide); try cbv)
      | ((with_reducible refine o_len hO (fun n hn => ?_)); try cbv)
      | ((with_reducible refine o_mk hO ?_ ?_ ?_ ?_ (fun j hj => ?_)); (focus (first | assumption | exact Nat.le_refl _ | exact Nat.zero_le _ | (simp only [zn_eq, flen] at *; omega) | omega | decide | (simp; done) | (simp; omega) | (simp_all; done) | (simp_all [zn_eq]; omega))); (focus (first | (simp only [zn_eq, flen] at *; omega) | omega)); (focus (first | (simp only [zn_eq, flen] at *; omega) | omega)); (focus (first | assumption | exact Nat.le_refl _ | exact Nat.zero_le _ | (simp only [zn_eq, flen] at *; omega) | omega | decide | (simp; done) | (simp; omega) | (simp_all; done) | (simp_all [zn_eq]; omega))); try cbv)
      | ((with_reducible refine o_empty hO ?_ ?_); (focus (first | rfl | assumption)); try cbv)
      | ((with_reducible apply o_elem_l hO); (focus (first | assumption | rfl | (simp; done))); try cbv)
      | ((with_reducible apply o_elem hO); (focus assumption); (focus assumption); try cbv)
      | ((with_reducible apply o_get hO); (focus (first | assumption | rfl | (simp; done))); try cbv)
      | ((with_reducible refine o_guard hO ?_ ?_); (focus (first | decide +kernel | (simp; done))); try cbv))
    exact ⟨congrArg (fun q => AV.p (PV.v (Value.string q))) (by subst_vars; rfl), trivial⟩
  · rw [if_neg c8]
    generalize hr : (((s0 ++ sb [32]) ++ sg) ++ sb [32]) ++ s1 = r
    refine semCall_of_prop (fn := Tryd.f9) (T := tab) tabOk mixed04 (by rfl) (by rfl) (by kernel_rfl) ?_
    intro Q O F hQ hO hF
    have flen := lofLen hF
    have ftake := lofTake hF
    have fdrop := lofDrop hF
    have fapp := lofApp hF
    have fset := lofSet hF
    have fbytes := lofBytes hF
    have frep := lofRep hF
    unfold Tryd.f9
    cbv
    repeat' (first
      | (with_reducible refine o_at_g hO hj ?_ ?_); (focus (simp only [flen, hxl]; omega)); try cbv
      | (with_reducible refine o_call hO hQ ht ?_); try cbv
      | (with_reducible refine o_call hO hQ hk0 ?_); try cbv
      | (with_reducible refine o_call hO hQ (hk1 _ (by assumption)) ?_); try cbv
      | (with_reducible refine o_call hO hQ hsg ?_); try cbv
      | ((with_reducible refine k_eql_t hO ?_ ?_); (focus (first | assumption | (simp only [zn_eq, flen] at *; omega) | omega)); try cbv)
      | ((with_reducible refine k_eql_f hO ?_ ?_); (focus (first | assumption | (simp only [zn_eq, flen] at *; omega) | omega)); try cbv)
      | ((with_reducible refine k_eql hO (fun h => ?_) (fun h => ?_)) <;> try cbv)
      | ((with_reducible refine k_neq_t hO ?_ ?_); (focus (first | assumption | (simp only [zn_eq, flen] at *; omega) | omega)); try cbv)
      | ((with_reducible refine k_neq_f hO ?_ ?_); (focus (first | assumption | (simp only [zn_eq, flen] at *; omega) | omega)); try cbv)
      | ((with_reducible refine k_neq hO (fun h => ?_) (fun h => ?_)) <;> try cbv)
      | ((with_reducible refine k_lss_t hO ?_ ?_); (focus (first | assumption | (simp only [zn_eq, flen] at *; omega) | omega)); try cbv)
      | ((with_reducible refine k_lss_f hO ?_ ?_); (focus (first | assumption | (simp only [zn_eq, flen] at *; omega) | omega)); try cbv)
      | ((with_reducible refine k_lss hO (fun h => ?_) (fun h => ?_)) <;> try cbv)
      | ((with_reducible refine k_leq_t hO ?_ ?_); (focus (first | assumption | (simp only [zn_eq, flen] at *; omega) | omega)); try cbv)
      | ((with_reducible refine k_leq_f hO ?_ ?_); (focus (first | assumption | (simp only [zn_eq, flen] at *; omega) | omega)); try cbv)
      | ((with_reducible refine k_leq hO (fun h => ?_) (fun h => ?_)) <;> try cbv)
      | ((with_reducible refine k_gtr_t hO ?_ ?_); (focus (first | assumption | (simp only [zn_eq, flen] at *; omega) | omega)); try cbv)
      | ((with_reducible refine k_gtr_f hO ?_ ?_); (focus (first | assumption | (simp only [zn_eq, flen] at *; omega) | omega)); try cbv)
      | ((with_reducible refine k_gtr hO (fun h => ?_) (fun h => ?_)) <;> try cbv)
      | ((with_reducible refine k_geq_t hO ?_ ?_); (focus (first | assumption | (simp only [zn_eq, flen] at *; omega) | omega)); try cbv)
      | ((with_reducible refine k_geq_f hO ?_ ?_); (focus (first | assumption | (simp only [zn_eq, flen] at *; omega) | omega)); try cbv)
      | ((with_reducible refine k_geq hO (fun h => ?_) (fun h => ?_)) <;> try cbv)
      | ((with_reducible refine k_add_l hO ?_ ?_); (focus decide); try cbv)
      | ((with_reducible refine k_add_in hO ?_ (fun n hn => ?_)); (focus (simp only [inK, zn_eq, flen] at *; omega)); try cbv)
      | ((with_reducible refine k_add hO (fun n hn => ?_)); try cbv)
      | ((with_reducible refine k_sub_l hO ?_ ?_); (focus decide); try cbv)
      | ((with_reducible refine k_sub_in hO ?_ (fun n hn => ?_)); (focus (simp only [inK, zn_eq, flen] at *; omega)); try cbv)
      | ((with_reducible refine k_sub hO (fun n hn => ?_)); try cbv)
      | ((with_reducible refine k_mul_l hO ?_ ?_); (focus decide); try cbv)
      | ((with_reducible refine k_mul_in hO ?_ (fun n hn => ?_)); (focus (simp only [inK, zn_eq, flen] at *; omega)); try cbv)
      | ((with_reducible refine k_mul hO (fun n hn => ?_)); try cbv)
      | ((with_reducible refine k_seql_t hO ?_ ?_); (focus (first | assumption | rfl | (simp; done))); try cbv)
      | ((with_reducible refine k_seql_f hO ?_ ?_); (focus (first | assumption | decide | (simp; done))); try cbv)
      | ((with_reducible refine k_seql hO (fun h => ?_) (fun h => ?_)) <;> try cbv)
      | ((with_reducible refine k_sneq_t hO ?_ ?_); (focus (first | assumption | rfl | (simp; done))); try cbv)
      | ((with_reducible refine k_sneq_f hO ?_ ?_); (focus (first | assumption | decide | (simp; done))); try cbv)
      | ((with_reducible refine k_sneq hO (fun h => ?_) (fun h => ?_)) <;> try cbv)
      | ((with_reducible refine k_slen hO ?_ (fun n hn => ?_)); (focus (exact undOk hQ rfl)); try cbv)
      | ((with_reducible refine k_sadd hO ?_ (fun s hs hz => ?_)); (focus (first | omega | assumption | (simp only [size_lit, List.length_cons, List.length_nil] at *; omega) | (simp_all; done) | (simp_all; omega))); (try simp only [size_lit, List.length_cons, List.length_nil, Nat.reduceAdd] at hz); (try cbv))
      | ((with_reducible apply k_conv_in hO); (focus (exact undOk hQ rfl)); (focus (exact undOk hQ rfl)); (focus (simp only [inK, zn_eq, flen] at *; omega)); try cbv)
      | ((with_reducible apply k_rune hO); (focus (exact undOk hQ rfl)); (focus (exact undOk hQ rfl)); intro s hs; try cbv)
      | ((with_reducible apply k_sidx hO); (focus (exact undOk hQ rfl)); (focus assumption); (focus assumption); intro n hn; try cbv)
      | ((with_reducible refine k_min hO (fun n hn1 hn2 hn3 => ?_)); try cbv)
      | ((with_reducible refine k_max hO (fun n hn1 hn2 hn3 => ?_)); try cbv)
      | ((with_reducible refine k_rem_pos hO ?_ ?_ (fun n hn => ?_)); (focus (first | (simp only [zn_eq, flen] at *; omega) | omega)); (focus (first | (simp only [zn_eq, flen] at *; omega) | omega)); try cbv)
      | ((with_reducible refine k_rem hO ?_ (fun n hn => ?_)); (focus (first | (simp only [zn_eq, flen] at *; omega) | omega)); try cbv)
      | ((with_reducible refine k_quo_in hO ?_ ?_ ?_ (fun n hn => ?_)); (focus (first | (simp only [zn_eq, flen] at *; omega) | omega)); (focus (first | (simp only [zn_eq, flen] at *; omega) | omega)); (focus (simp only [inK, zn_eq, flen] at *; omega)); try cbv)
      | ((with_reducible refine k_quo_pos hO ?_ ?_ (fun n hn => ?_)); (focus (first | (simp only [zn_eq, flen] at *; omega) | omega)); (focus (first | (simp only [zn_eq, flen] at *; omega) | omega)); try simp (disch := omega) only [wrap_i64, wrap_u8, wrap_u64, wrap_i32, wrap_u16, wrap_u32] at hn; try cbv)
      | ((with_reducible refine k_not hO ?_); try cbv)
      | ((with_reducible refine o_ble hO ?_ ?_); (focus (first | assumption | exact Nat.le_refl _ | exact Nat.zero_le _ | (simp only [zn_eq, flen] at *; omega) | omega | decide | (simp; done) | (simp; omega) | (simp_all; done) | (simp_all [zn_eq]; omega))); try cbv)
      | ((with_reducible refine o_cut hO ?_ ?_ ?_); (focus (first | assumption | exact Nat.le_refl _ | exact Nat.zero_le _ | (simp only [zn_eq, flen] at *; omega) | omega | decide | (simp; done) | (simp; omega) | (simp_all; done) | (simp_all [zn_eq]; omega))); (focus (first | assumption | exact Nat.le_refl _ | exact Nat.zero_le _ | (simp only [zn_eq, flen] at *; omega) | omega | decide | (simp; done) | (simp; omega) | (simp_all; done) | (simp_all [zn_eq]; omega))); try cbv)
      | ((with_reducible refine o_room hO ?_ ?_ ?_); (focus (first | exact Or.inl rfl | (simp; done))); (focus (first | assumption | exact Nat.le_refl _ | exact Nat.zero_le _ | (simp only [zn_eq, flen] at *; omega) | omega | decide | (simp; done) | (simp; omega) | (simp_all; done) | (simp_all [zn_eq]; omega))); try cbv)
      | ((with_reducible refine o_nat_l hO ?_); try cbv)
      | ((with_reducible refine o_nat hO ?_ (fun j hj => ?_)); (focus (first | (simp only [zn_eq, flen] at *; omega) | omega)); try cbv)
      | ((with_reducible refine o_at_l hO ?_ ?_); (focus (first | assumption | exact Nat.le_refl _ | exact Nat.zero_le _ | (simp only [zn_eq, flen] at *; omega) | omega | decide | (simp; done) | (simp; omega) | (simp_all; done) | (simp_all [zn_eq]; omega))); try cbv)
      | ((with_reducible refine o_at hO ?_ ?_ (fun j hj => ?_)); (focus (first | (simp only [zn_eq, flen] at *; omega) | omega)); (focus (first | assumption | exact Nat.le_refl _ | exact Nat.zero_le _ | (simp only [zn_eq, flen] at *; omega) | omega | decide | (simp; done) | (simp; omega) | (simp_all; done) | (simp_all [zn_eq]; omega))); try cbv)
      | ((with_reducible apply o_len_l hO); (focus decide); try cbv)
      | ((with_reducible refine o_len hO (fun n hn => ?_)); try cbv)
      | ((with_reducible refine o_mk hO ?_ ?_ ?_ ?_ (fun j hj => ?_)); (focus (first | assumption | exact Nat.le_refl _ | exact Nat.zero_le _ | (simp only [zn_eq, flen] at *; omega) | omega | decide | (simp; done) | (simp; omega) | (simp_all; done) | (simp_all [zn_eq]; omega))); (focus (first | (simp only [zn_eq, flen] at *; omega) | omega)); (focus (first | (simp only [zn_eq, flen] at *; omega) | omega)); (focus (first | assumption | exact Nat.le_refl _ | exact Nat.zero_le _ | (simp only [zn_eq, flen] at *; omega) | omega | decide | (simp; done) | (simp; omega) | (simp_all; done) | (simp_all [zn_eq]; omega))); try cbv)
      | ((with_reducible refine o_empty hO ?_ ?_); (focus (first | rfl | assumption)); try cbv)
      | ((with_reducible apply o_elem_l hO); (focus (first | assumption | rfl | (simp; done))); try cbv)
      | ((with_reducible apply o_elem hO); (focus assumption); (focus assumption); try cbv)
      | ((with_reducible apply o_get hO); (focus (first | assumption | rfl | (simp; done))); try cbv)
      | ((with_reducible refine o_guard hO ?_ ?_); (focus (first | decide +kernel | (simp; done))); try cbv))
    exact ⟨congrArg (fun q => AV.p (PV.v (Value.string q))) (by subst_vars; rfl), trivial⟩
end Go.Proofs.YtkjglhamlnnboaaDoor.Am
