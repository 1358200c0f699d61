/-
  TreeText: the law's walk.
-/
import Derived.Test.YtkjglhamlnnboaaDoorU
set_option linter.unusedVariables false
set_option linter.unusedSimpArgs false
namespace Go.Proofs.YtkjglhamlnnboaaDoor.Am
open Go Go.Proofs Go.RowKit
attribute [local semireducible] kcell khdr

theorem firstT_size (label : Int) (name : ByteArray) (z : Int) (by_ : ByteArray) (iz : ByteArray) : (firstT label name z by_ iz).size ≤ name.size + by_.size + iz.size + 20 := by
  simp only [firstT]
  repeat' split
  all_goals (simp only [ByteArray.size_append, sb_size, List.length_cons, List.length_nil]; omega)
theorem lnT_size (ic : ByteArray) (n : Int) : (lnT' ic n).size ≤ ic.size + 50 := by
  unfold lnT'
  repeat' split
  all_goals (simp only [ByteArray.size_append, sb_size, List.length_cons, List.length_nil]; try omega)
theorem itoaS_size (n : Int) (h0 : -9223372036854775808 ≤ n) (h1 : n ≤ 9223372036854775807) : (itoaS n).size ≤ 21 := Lib.itoa_length_le n h0 h1

theorem exV_ok : ExOk exV := by
  refine ⟨fun v hv => ?_, ?_⟩
  · simp [exL, exLs] at hv
  · simp only [exN, exNs]
    have := itoaS_size 0 (by decide) (by decide)
    have : (sb [118]).size = 1 := rfl
    omega
theorem smF_ok : SmOk smF := by
  unfold smF
  simp [SmOk, SmsOk]
theorem smS_ok (n c : Int) (h0 : 0 ≤ c) (h1 : c ≤ 9) : SmsOk [smS n c] := by
  have hf : SmsOk [smF] := by unfold SmsOk; exact ⟨smF_ok, by unfold SmsOk; trivial⟩
  unfold smS SmsOk SmOk
  refine ⟨⟨fun e he => ?_, ⟨by omega, by omega⟩, hf, by unfold SmsOk; trivial⟩, by unfold SmsOk; trivial⟩
  have : e = exV := by simpa using he
  rw [this]; exact exV_ok

theorem text_call (label : Int) (name : ByteArray) (z : Int) (by_ : ByteArray) (n c : Int) (hz : 0 ≤ z ∧ z ≤ 2) (hn : 0 ≤ n ∧ n ≤ 10) (hc : 0 ≤ c ∧ c ≤ 9) (hb : name.size + by_.size ≤ 1100000) :
    SemCall P04 7 [.p (.agg [.sl 6 [dcC false label name z by_ 0, dcC true 0 (sb [108]) 0 (sb []) 0], .sl 1 [[.sl 7 (smCs [smS n c])]]])] [] (one (.v (.string ⟨(resL label name z by_ n c).toArray⟩))) := by
  have h47 : (resL label name z by_ n c).length ≤ 140737488355328 ∧ resL label name z by_ n c ≠ [] := by
    have e := congrArg ByteArray.size (resL_is label name z by_ n c hn.1 hn.2)
    have e2 : (⟨(resL label name z by_ n c).toArray⟩ : ByteArray).size = (resL label name z by_ n c).length := rfl
    rw [e2] at e
    simp only [ByteArray.size_append, sb_size, List.length_cons, List.length_nil, lnT] at e
    have h1 := firstT_size label name z by_ (itoaS z)
    have h2 := lnT_size (itoaS c) n
    have h3 := itoaS_size z (by omega) (by omega)
    have h4 := itoaS_size c (by omega) (by omega)
    refine ⟨by omega, fun h => ?_⟩
    rw [h] at e
    simp only [List.length_nil] at e
    omega
  unfold resL at h47 ⊢
  refine text_node [dcC false label name z by_ 0, dcC true 0 (sb [108]) 0 (sb []) 0] [[.sl 7 (smCs [smS n c])]] (fun j => if j = 0 then declT false label name z by_ else declT true 0 (sb [108]) 0 (sb [])) (fun _ => smTs [smS n c] 1) ?_ ?_ h47.2 (by simp) (by simp) h47.1
  · intro j hj
    have h3 := itoaS_size z (by omega) (by omega)
    match j, hj with
    | 0, _ => exact ⟨false, label, name, z, by_, 0, rfl, decl_sem false label name z by_ 0 (by omega) (by omega) (by omega)⟩
    | 1, _ => exact ⟨true, 0, sb [108], 0, sb [], 0, rfl, decl_sem true 0 (sb [108]) 0 (sb []) 0 (by omega) (by omega) (by have := itoaS_size 0 (by decide) (by decide); simp only [sb_size, List.length_cons, List.length_nil]; omega)⟩
  · intro j hj
    have hj0 : j = 0 := by simpa using hj
    subst hj0
    refine ⟨smCs [smS n c], rfl, fun l hl => block_sem [smS n c] (smS_ok n c hc.1 hc.2) 1 (by simp [smDs, smD]) l hl⟩

theorem o_lines {Q : Program} {O : Ora Prop} (hO : Asks Q O) {n : Int} {j : Nat} (hj : zn j = n) (hn : 0 ≤ n ∧ n ≤ 10) {a b ic : ByteArray} (ha : a = ⟨⟨[9, 108, 111, 111, 112, 32, 109, 32]⟩⟩ ++ ic) (hb : b = a ++ ⟨⟨[32, 123, 10, 9, 9, 102, 101, 110, 99, 101, 59, 10, 9, 125, 10]⟩⟩) (hi : ic.size ≤ 100) {K : List PV → Prop}
    (k : ∀ ln, ln = lnT' ic n → ln.size ≤ 150 → K [.v (.string ln)]) :
    O.opt (fun _ => getO [[.v (.string ⟨⟨[9, 108, 111, 99, 97, 108, 32, 109, 32, 61, 32, 118, 59, 10]⟩⟩)], [.v (.string ⟨⟨[9, 109, 32, 61, 32, 118, 59, 10]⟩⟩)], [.v (.string ⟨⟨[9, 109, 91, 118, 93, 32, 61, 32, 118, 59, 10]⟩⟩)], [.v (.string ⟨⟨[9, 105, 102, 32, 40, 118, 41, 32, 123, 10, 9, 9, 102, 101, 110, 99, 101, 59, 10, 9, 125, 10]⟩⟩)], [.v (.string b)], [.v (.string ⟨⟨[9, 116, 97, 107, 101, 32, 109, 59, 10]⟩⟩)], [.v (.string ⟨⟨[9, 103, 105, 118, 101, 32, 109, 59, 10]⟩⟩)], [.v (.string ⟨⟨[9, 97, 100, 100, 32, 109, 32, 118, 59, 10]⟩⟩)], [.v (.string ⟨⟨[9, 102, 101, 110, 99, 101, 59, 10]⟩⟩)], [.v (.string ⟨⟨[9, 111, 117, 116, 112, 117, 116, 32, 118, 59, 10]⟩⟩)], [.v (.string ⟨⟨[9, 111, 117, 116, 112, 117, 116, 32, 118, 59, 10]⟩⟩)]] j) K := by
  have h0 := k _ rfl (Nat.le_trans (lnT_size ic n) (by omega))
  refine o_get hO ?_ h0
  rw [zn_eq] at hj
  have hc : n = 0 ∨ n = 1 ∨ n = 2 ∨ n = 3 ∨ n = 4 ∨ n = 5 ∨ n = 6 ∨ n = 7 ∨ n = 8 ∨ n = 9 ∨ n = 10 := by omega
  obtain rfl : j = n.toNat := by omega
  clear h0 k
  subst hb ha
  rcases hc with rfl | rfl | rfl | rfl | rfl | rfl | rfl | rfl | rfl | rfl | rfl <;> rfl

set_option maxHeartbeats 2000000 in
theorem law_walk (label : Int) (name by_ : ByteArray) (size count kind : Int) (iz ic res : ByteArray) (hs : 0 ≤ size ∧ size ≤ 255) (hc : 0 ≤ count ∧ count ≤ 255) (hk : 0 ≤ kind ∧ kind ≤ 255)
    (hdz : ∀ z, z = size % 3 → SemCall P04 6 [vi z] [] (one (.v (.string iz)))) (hdc : ∀ c, c = count % 10 → SemCall P04 6 [vi c] [] (one (.v (.string ic))))
    (ht : ∀ z n c, z = size % 3 → n = kind % 11 → c = count % 10 → SemCall P04 7 [.p (.agg [.sl 6 [[.v (.bool false), .v (.int .i64 label), .v (.string name), .v (.int .i64 z), .v (.string by_), .v (.int .i64 0)], [.v (.bool true), .v (.int .i64 0), .v (.string ⟨⟨[108]⟩⟩), .v (.int .i64 0), .v (.string ⟨⟨[]⟩⟩), .v (.int .i64 0)]],
      .sl 1 [[.sl 7 [[.v (.int .i64 n), .v (.string ⟨⟨[109]⟩⟩), .sl 6 [[.v (.int .i64 1), .v (.int .i64 0), .v (.string ⟨⟨[118]⟩⟩), .v (.int .u64 0), .sl 6 [], .v (.int .i64 0)], [.v (.int .i64 1), .v (.int .i64 0), .v (.string ⟨⟨[118]⟩⟩), .v (.int .u64 0), .sl 6 [], .v (.int .i64 0)]], .v (.int .i64 c),
        .sl 7 [[.v (.int .i64 8), .v (.string ⟨⟨[]⟩⟩), .sl 6 [], .v (.int .i64 0), .sl 7 [], .sl 7 [], .v (.int .i64 0)]], .sl 7 [], .v (.int .i64 0)]]]]])] [] (one (.v (.string res))))
    (hn1 : name.size ≤ 1100000) (hn2 : by_.size ≤ 1100000) (hn3 : iz.size ≤ 100) (hn4 : ic.size ≤ 100)
    (hres : res = ((firstT label name (size % 3) by_ iz ++ sb [59, 10, 108, 111, 99, 107, 32, 108, 59, 10, 116, 104, 114, 101, 97, 100, 32, 123, 10]) ++ lnT' ic (kind % 11)) ++ sb [125, 10]) :
    SemCall P04 3 [vi label, vs name, vs by_, .p (.v (.int .u8 size)), .p (.v (.int .u8 count)), .p (.v (.int .u8 kind))] [] ⟨vb true, [], []⟩ := by
  have haw := awake_sem
  refine semCall_of_prop (fn := Tryd.f3) (T := tab) tabOk mixed04 (by rfl) (by rfl) (by kernel_rfl) ?_
  intro Q O F hQ hO hF
  have flen := lofLen hF
  have ftake := lofTake hF
  have fdrop := lofDrop hF
  have fapp := lofApp hF
  have fset := lofSet hF
  have fbytes := lofBytes hF
  have frep := lofRep hF
  unfold Tryd.f3
  cbv
  repeat' (first
    | (with_reducible refine o_lines hO (by assumption) (by omega) (by assumption) (by assumption) hn4 (fun s hs hz => ?_)); try cbv
    | (with_reducible refine k_seql_t hO ?_ ?_); rotate_left; try cbv
    | (with_reducible refine o_call hO hQ haw ?_); try cbv
    | (with_reducible refine o_call hO hQ (hdz _ (by assumption)) ?_); try cbv
    | (with_reducible refine o_call hO hQ (hdc _ (by assumption)) ?_); try cbv
    | (with_reducible refine o_call hO hQ (ht _ _ _ (by assumption) (by assumption) (by assumption)) ?_); try cbv
    | ((with_reducible refine k_eql_t hO ?_ ?_); (focus (first | assumption | (simp only [zn_eq, flen] at *; omega) | omega)); try cbv)
    | ((with_reducible refine k_eql_f hO ?_ ?_); (focus (first | assumption | (simp only [zn_eq, flen] at *; omega) | omega)); try cbv)
    | ((with_reducible refine k_eql hO (fun h => ?_) (fun h => ?_)) <;> try cbv)
    | ((with_reducible refine k_neq_t hO ?_ ?_); (focus (first | assumption | (simp only [zn_eq, flen] at *; omega) | omega)); try cbv)
    | ((with_reducible refine k_neq_f hO ?_ ?_); (focus (first | assumption | (simp only [zn_eq, flen] at *; omega) | omega)); try cbv)
    | ((with_reducible refine k_neq hO (fun h => ?_) (fun h => ?_)) <;> try cbv)
    | ((with_reducible refine k_lss_t hO ?_ ?_); (focus (first | assumption | (simp only [zn_eq, flen] at *; omega) | omega)); try cbv)
    | ((with_reducible refine k_lss_f hO ?_ ?_); (focus (first | assumption | (simp only [zn_eq, flen] at *; omega) | omega)); try cbv)
    | ((with_reducible refine k_lss hO (fun h => ?_) (fun h => ?_)) <;> try cbv)
    | ((with_reducible refine k_leq_t hO ?_ ?_); (focus (first | assumption | (simp only [zn_eq, flen] at *; omega) | omega)); try cbv)
    | ((with_reducible refine k_leq_f hO ?_ ?_); (focus (first | assumption | (simp only [zn_eq, flen] at *; omega) | omega)); try cbv)
    | ((with_reducible refine k_leq hO (fun h => ?_) (fun h => ?_)) <;> try cbv)
    | ((with_reducible refine k_gtr_t hO ?_ ?_); (focus (first | assumption | (simp only [zn_eq, flen] at *; omega) | omega)); try cbv)
    | ((with_reducible refine k_gtr_f hO ?_ ?_); (focus (first | assumption | (simp only [zn_eq, flen] at *; omega) | omega)); try cbv)
    | ((with_reducible refine k_gtr hO (fun h => ?_) (fun h => ?_)) <;> try cbv)
    | ((with_reducible refine k_geq_t hO ?_ ?_); (focus (first | assumption | (simp only [zn_eq, flen] at *; omega) | omega)); try cbv)
    | ((with_reducible refine k_geq_f hO ?_ ?_); (focus (first | assumption | (simp only [zn_eq, flen] at *; omega) | omega)); try cbv)
    | ((with_reducible refine k_geq hO (fun h => ?_) (fun h => ?_)) <;> try cbv)
    | ((with_reducible refine k_add_l hO ?_ ?_); (focus decide); try cbv)
    | ((with_reducible refine k_add_in hO ?_ (fun n hn => ?_)); (focus (simp only [inK, zn_eq, flen] at *; omega)); try cbv)
    | ((with_reducible refine k_add hO (fun n hn => ?_)); try cbv)
    | ((with_reducible refine k_sub_l hO ?_ ?_); (focus decide); try cbv)
    | ((with_reducible refine k_sub_in hO ?_ (fun n hn => ?_)); (focus (simp only [inK, zn_eq, flen] at *; omega)); try cbv)
    | ((with_reducible refine k_sub hO (fun n hn => ?_)); try cbv)
    | ((with_reducible refine k_mul_l hO ?_ ?_); (focus decide); try cbv)
    | ((with_reducible refine k_mul_in hO ?_ (fun n hn => ?_)); (focus (simp only [inK, zn_eq, flen] at *; omega)); try cbv)
    | ((with_reducible refine k_mul hO (fun n hn => ?_)); try cbv)
    | ((with_reducible refine k_seql_t hO ?_ ?_); (focus (first | assumption | rfl | (simp; done))); try cbv)
    | ((with_reducible refine k_seql_f hO ?_ ?_); (focus (first | assumption | decide | (simp; done))); try cbv)
    | ((with_reducible refine k_seql hO (fun h => ?_) (fun h => ?_)) <;> try cbv)
    | ((with_reducible refine k_sneq_t hO ?_ ?_); (focus (first | assumption | rfl | (simp; done))); try cbv)
    | ((with_reducible refine k_sneq_f hO ?_ ?_); (focus (first | assumption | decide | (simp; done))); try cbv)
    | ((with_reducible refine k_sneq hO (fun h => ?_) (fun h => ?_)) <;> try cbv)
    | ((with_reducible refine k_slen hO ?_ (fun n hn => ?_)); (focus (exact undOk hQ rfl)); try cbv)
    | ((with_reducible refine k_sadd hO ?_ (fun s hs hz => ?_)); (focus (first | omega | assumption | (simp only [size_lit, List.length_cons, List.length_nil] at *; omega) | (simp_all; done) | (simp_all; omega))); (try simp only [size_lit, List.length_cons, List.length_nil, Nat.reduceAdd] at hz); (try cbv))
    | ((with_reducible apply k_conv_in hO); (focus (exact undOk hQ rfl)); (focus (exact undOk hQ rfl)); (focus (simp only [inK, zn_eq, flen] at *; omega)); try cbv)
    | ((with_reducible apply k_rune hO); (focus (exact undOk hQ rfl)); (focus (exact undOk hQ rfl)); intro s hs; try cbv)
    | ((with_reducible apply k_sidx hO); (focus (exact undOk hQ rfl)); (focus assumption); (focus assumption); intro n hn; try cbv)
    | ((with_reducible refine k_min hO (fun n hn1 hn2 hn3 => ?_)); try cbv)
    | ((with_reducible refine k_max hO (fun n hn1 hn2 hn3 => ?_)); try cbv)
    | ((with_reducible refine k_rem_pos hO ?_ ?_ (fun n hn => ?_)); (focus (first | (simp only [zn_eq, flen] at *; omega) | omega)); (focus (first | (simp only [zn_eq, flen] at *; omega) | omega)); try cbv)
    | ((with_reducible refine k_rem hO ?_ (fun n hn => ?_)); (focus (first | (simp only [zn_eq, flen] at *; omega) | omega)); try cbv)
    | ((with_reducible refine k_quo_in hO ?_ ?_ ?_ (fun n hn => ?_)); (focus (first | (simp only [zn_eq, flen] at *; omega) | omega)); (focus (first | (simp only [zn_eq, flen] at *; omega) | omega)); (focus (simp only [inK, zn_eq, flen] at *; omega)); try cbv)
    | ((with_reducible refine k_quo_pos hO ?_ ?_ (fun n hn => ?_)); (focus (first | (simp only [zn_eq, flen] at *; omega) | omega)); (focus (first | (simp only [zn_eq, flen] at *; omega) | omega)); try simp (disch := omega) only [wrap_i64, wrap_u8, wrap_u64, wrap_i32, wrap_u16, wrap_u32] at hn; try cbv)
    | ((with_reducible refine k_not hO ?_); try cbv)
    | ((with_reducible refine o_ble hO ?_ ?_); (focus (first | assumption | exact Nat.le_refl _ | exact Nat.zero_le _ | (simp only [zn_eq, flen] at *; omega) | omega | decide | (simp; done) | (simp; omega) | (simp_all; done) | (simp_all [zn_eq]; omega))); try cbv)
    | ((with_reducible refine o_cut hO ?_ ?_ ?_); (focus (first | assumption | exact Nat.le_refl _ | exact Nat.zero_le _ | (simp only [zn_eq, flen] at *; omega) | omega | decide | (simp; done) | (simp; omega) | (simp_all; done) | (simp_all [zn_eq]; omega))); (focus (first | assumption | exact Nat.le_refl _ | exact Nat.zero_le _ | (simp only [zn_eq, flen] at *; omega) | omega | decide | (simp; done) | (simp; omega) | (simp_all; done) | (simp_all [zn_eq]; omega))); try cbv)
    | ((with_reducible refine o_room hO ?_ ?_ ?_); (focus (first | exact Or.inl rfl | (simp; done))); (focus (first | assumption | exact Nat.le_refl _ | exact Nat.zero_le _ | (simp only [zn_eq, flen] at *; omega) | omega | decide | (simp; done) | (simp; omega) | (simp_all; done) | (simp_all [zn_eq]; omega))); try cbv)
    | ((with_reducible refine o_nat_l hO ?_); try cbv)
    | ((with_reducible refine o_nat hO ?_ (fun j hj => ?_)); (focus (first | (simp only [zn_eq, flen] at *; omega) | omega)); try cbv)
    | ((with_reducible refine o_at_l hO ?_ ?_); (focus (first | assumption | exact Nat.le_refl _ | exact Nat.zero_le _ | (simp only [zn_eq, flen] at *; omega) | omega | decide | (simp; done) | (simp; omega) | (simp_all; done) | (simp_all [zn_eq]; omega))); try cbv)
    | ((with_reducible refine o_at hO ?_ ?_ (fun j hj => ?_)); (focus (first | (simp only [zn_eq, flen] at *; omega) | omega)); (focus (first | assumption | exact Nat.le_refl _ | exact Nat.zero_le _ | (simp only [zn_eq, flen] at *; omega) | omega | decide | (simp; done) | (simp; omega) | (simp_all; done) | (simp_all [zn_eq]; omega))); try cbv)
    | ((with_reducible apply o_len_l hO); (focus decide); try cbv)
    | ((with_reducible refine o_len hO (fun n hn => ?_)); try cbv)
    | ((with_reducible refine o_mk hO ?_ ?_ ?_ ?_ (fun j hj => ?_)); (focus (first | assumption | exact Nat.le_refl _ | exact Nat.zero_le _ | (simp only [zn_eq, flen] at *; omega) | omega | decide | (simp; done) | (simp; omega) | (simp_all; done) | (simp_all [zn_eq]; omega))); (focus (first | (simp only [zn_eq, flen] at *; omega) | omega)); (focus (first | (simp only [zn_eq, flen] at *; omega) | omega)); (focus (first | assumption | exact Nat.le_refl _ | exact Nat.zero_le _ | (simp only [zn_eq, flen] at *; omega) | omega | decide | (simp; done) | (simp; omega) | (simp_all; done) | (simp_all [zn_eq]; omega))); try cbv)
    | ((with_reducible refine o_empty hO ?_ ?_); (focus (first | rfl | assumption)); try cbv)
    | ((with_reducible apply o_elem_l hO); (focus (first | assumption | rfl | (simp; done))); try cbv)
    | ((with_reducible apply o_elem hO); (focus assumption); (focus assumption); try cbv)
    | ((with_reducible apply o_get hO); (focus (first | assumption | rfl | (simp; done))); try cbv)
    | ((with_reducible refine o_guard hO ?_ ?_); (focus (first | decide +kernel | (simp; done))); try cbv))
  all_goals
    rw [hres]
    simp only [firstT]
    first | rw [if_pos (show label = 0 from ‹_›)] | rw [if_neg (show ¬ label = 0 from ‹_›)]
    first | rw [if_pos (show 0 < size % 3 by omega)] | rw [if_neg (show ¬ 0 < size % 3 by omega)]
    first | rw [if_pos (show by_ = ⟨⟨[]⟩⟩ from ‹_›)] | rw [if_neg (show ¬ by_ = ⟨⟨[]⟩⟩ from ‹_›)]
    subst_vars
    rfl

theorem law_sem (label : Int) (name by_ : ByteArray) (size count kind : Int) (hs : 0 ≤ size ∧ size ≤ 255) (hc : 0 ≤ count ∧ count ≤ 255) (hk : 0 ≤ kind ∧ kind ≤ 255) (hb : name.size + by_.size ≤ 1100000) :
    SemCall P04 3 [vi label, vs name, vs by_, .p (.v (.int .u8 size)), .p (.v (.int .u8 count)), .p (.v (.int .u8 kind))] [] (one (.v (.bool true))) := by
  have h1 := itoaS_size (size % 3) (by omega) (by omega)
  have h2 := itoaS_size (count % 10) (by omega) (by omega)
  refine law_walk label name by_ size count kind (itoaS (size % 3)) (itoaS (count % 10)) ⟨(resL label name (size % 3) by_ (kind % 11) (count % 10)).toArray⟩ hs hc hk ?_ ?_ ?_ (by omega) (by omega) (by omega) (by omega) ?_
  · rintro z rfl; exact digit_sem _ (by omega) (by omega)
  · rintro z rfl; exact digit_sem _ (by omega) (by omega)
  · rintro z n c rfl rfl rfl
    exact text_call label name (size % 3) by_ (kind % 11) (count % 10) (by omega) (by omega) (by omega) hb
  · exact resL_is label name (size % 3) by_ (kind % 11) (count % 10) (by omega) (by omega)
end Go.Proofs.YtkjglhamlnnboaaDoor.Am
