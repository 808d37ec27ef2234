/-
  Each body comes to its function (printed by a program of this work).
-/
import Derived.Test.YtppmkhgpljkljaaE
set_option linter.unusedVariables false
set_option maxRecDepth 100000
namespace Go.Proofs.Ytppmkhgpljkljaa
open Go.Gx
theorem Z30_body (N : Nat) (c0 : stringslite_IndexByte_Ty) : BodyOK Try.prog (E_Z30_TG c0) Try.f52 pn (Z30_F) N (Z30_W (Z30_T N c0)) := fun _ t u K => by kernel_rfl
theorem Z15_v0_0_round (N : Nat) (c0 : Z9_Ty) (w0 : Z15_l0_Ty) : RoundOK Try.prog (E_Z15_TG c0) (cx 0 Try.f40 (Z15_F w0) N []) (bodyAt Try.f40 3) (Z15_F0 w0) (Z15_v0_0 (fun k0 k1 n x0 x1 x2 => Z15_l0_T0 N c0 (fun x0 x1 x2 => w0 k0 k1 n x0 x1 x2) k0 k1 x0 x1 x2)) := fun _ n t u K => by kernel_rfl
theorem Z21_body (N : Nat) (c0 : Z23_Ty) : BodyOK Try.prog (E_Z21_TG c0) Try.f41 pn (Z21_F) N (Z21_W (Z21_T N c0)) := fun _ t u K => by kernel_rfl
theorem Z14_body (N : Nat) (c0 : Z18_Ty) (c1 : Z20_Ty) (c2 : Z10_Ty) (c3 : Z21_Ty) : BodyOK Try.prog (E_Z13_TG c0 c1 c2 c3) Try.f31 ⟨[], [], [0, 1]⟩ (Z14_F) N (Z14_W (Z14_T N c0 c1 c2 c3)) := fun _ t u K => by kernel_rfl
theorem Z6_body (N : Nat) (c0 : Z19_Ty) (c1 : Z22_Ty) : BodyOK Try.prog (E_Z6_TG c0 c1) Try.f45 pn (Z6_F) N (Z6_W (Z6_T N c0 c1)) := fun _ t u K => by kernel_rfl
theorem Z17_v1_0_round (N : Nat) (c0 : Z12_Ty) (c1 : Z11_Ty) (c2 : Z6_Ty) (w0 : Z17_l0_Ty) (w1 : Z17_l1_Ty) (w2 : Z17_l2_Ty) (w3 : Z17_l3_Ty) : RoundOK Try.prog (E_Z16_TG c0 c1 c2) (cx 2 Try.f32 (Z17_F w0 w1 w2 w3) N [0, 1]) (bodyAt Try.f32 10) (Z17_F1 w1) (Z17_v1_0 (fun k0 n x0 x1 x2 x3 x4 x5 => Z17_l1_T0 N c0 c1 c2 w2 w3 (fun x0 x1 x2 x3 x4 x5 => w1 k0 n x0 x1 x2 x3 x4 x5) k0 x0 x1 x2 x3 x4 x5)) := fun _ n t u K => by kernel_rfl
theorem Z16_v0_0_round (N : Nat) (c0 : Z12_Ty) (c1 : Z11_Ty) (c2 : Z6_Ty) (w0 : Z16_l0_Ty) (w1 : Z16_l1_Ty) (w2 : Z16_l2_Ty) (w3 : Z16_l3_Ty) : RoundOK Try.prog (E_Z16_TG c0 c1 c2) (cx 0 Try.f32 (Z16_F w0 w1 w2 w3) N []) (bodyAt Try.f32 5) (Z16_F0 w0) (Z16_v0_0 (fun k0 n x0 x1 x2 x3 => Z16_l0_T0 N c0 c1 c2 w1 w2 w3 (fun x0 x1 x2 x3 => w0 k0 n x0 x1 x2 x3) k0 x0 x1 x2 x3)) := fun _ n t u K => by kernel_rfl
theorem Z16_body (N : Nat) (c0 : Z12_Ty) (c1 : Z11_Ty) (c2 : Z6_Ty) (w0 : Z16_l0_Ty) (w1 : Z16_l1_Ty) (w2 : Z16_l2_Ty) (w3 : Z16_l3_Ty) : BodyOK Try.prog (E_Z16_TG c0 c1 c2) Try.f32 pn (Z16_F w0 w1 w2 w3) N (Z16_W (Z16_T N c0 c1 c2 w0 w1 w2 w3)) := fun _ t u K => by kernel_rfl
theorem Z8_body (N : Nat) (c0 : Z6_Ty) (w0 : Z8_l0_Ty) : BodyOK Try.prog (E_check_height_TG c0) Try.f33 pn (Z8_F w0) N (Z8_W (Z8_T N c0 w0)) := fun _ t u K => by kernel_rfl
theorem Z4_body (N : Nat) (c0 : Z7_Ty) (c1 : Z8_Ty) (c2 : Z17_Ty) (c3 : Z16_Ty) (c4 : Z14_Ty) (c5 : Z13_Ty) (c6 : Z2_Ty) (w0 : Z4_l0_Ty) (w1 : Z4_l1_Ty) (w2 : Z4_l2_Ty) : BodyOK Try.prog (E_Z3_TG c0 c1 c2 c3 c4 c5 c6) Try.f18 ⟨[], [], [0]⟩ (Z4_F w0 w1 w2) N (Z4_W (Z4_T N c0 c1 c2 c3 c4 c5 c6 w0 w1 w2)) := fun _ t u K => by kernel_rfl
theorem Z5_body (N : Nat) (c0 : Z7_Ty) (c1 : Z8_Ty) (c2 : Z17_Ty) (c3 : Z16_Ty) (c4 : Z14_Ty) (c5 : Z13_Ty) (c6 : Z2_Ty) (w0 : Z5_l0_Ty) (w1 : Z5_l1_Ty) (w2 : Z5_l2_Ty) : BodyOK Try.prog (E_Z3_TG c0 c1 c2 c3 c4 c5 c6) Try.f18 ⟨[], [], [0, 1]⟩ (Z5_F w0 w1 w2) N (Z5_W (Z5_T N c0 c1 c2 c3 c4 c5 c6 w0 w1 w2)) := fun _ t u K => by kernel_rfl
theorem Z3_body (N : Nat) (c0 : Z7_Ty) (c1 : Z8_Ty) (c2 : Z17_Ty) (c3 : Z16_Ty) (c4 : Z14_Ty) (c5 : Z13_Ty) (c6 : Z2_Ty) (w0 : Z3_l0_Ty) (w1 : Z3_l1_Ty) (w2 : Z3_l2_Ty) : BodyOK Try.prog (E_Z3_TG c0 c1 c2 c3 c4 c5 c6) Try.f18 pn (Z3_F w0 w1 w2) N (Z3_W (Z3_T N c0 c1 c2 c3 c4 c5 c6 w0 w1 w2)) := fun _ t u K => by kernel_rfl
theorem Z0_body (N : Nat) (c0 : Z7_Ty) (c1 : Z8_Ty) (c2 : Z17_Ty) (c3 : Z16_Ty) (c4 : Z4_Ty) (c5 : Z5_Ty) (c6 : Z3_Ty) (w0 : Z0_l0_Ty) : BodyOK Try.prog (E_Z0_TG c0 c1 c2 c3 c4 c5 c6) Try.f21 ⟨[], [(0, false, (.int .i64))], []⟩ (Z0_F w0) N (Z0_W (Z0_T N c0 c1 c2 c3 c4 c5 c6 w0)) := fun _ t u K => by kernel_rfl
theorem Z25_body (N : Nat) : BodyOK Try.prog (E_Z24_1_TG) Try.f22 ⟨[], [], [0]⟩ (Z25_F) N (Z25_W (Z25_T N)) := fun _ t u K => by kernel_rfl
end Go.Proofs.Ytppmkhgpljkljaa
