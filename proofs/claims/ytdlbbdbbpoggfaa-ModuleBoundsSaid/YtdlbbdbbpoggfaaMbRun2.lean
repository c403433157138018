import Derived.Test.YtdlbbdbbpoggfaaMbFixB
open Go Go.Ab Go.Proofs
set_option linter.unusedVariables false
set_option maxRecDepth 20000
namespace Sx
noncomputable section
def qcd_E (n : Nat) : aC := ⟨(SN [0] pD HA), [SY [0] (u1 (.tup (u2 (.agg (u3 hA hA hA)) .bool))) HA], fun d => qcd n d.1 d.2⟩
def qcd_ls (n : Nat) : List (Nat × aL) := [(0, ⟨[SN [0, 2, 4, 6, 20, 21] (u6 hQ hR hA hU hA hA) P4], [SY [2, 3] (u2 hR .bool) P4, SX 0 [2, 4, 6] (u3 hR hA hU) P4], qcd_W0 n⟩)]
theorem qcd_ok (n : Nat) : aW Try.prog 122 (qcd_E n) :=
 aW.bS n zz Try.f122 { live := [(0, [0, 2, 4, 6, 20, 21])] } (qcd_ls n) (.k (qag_ok n) (.k (qbv_ok n) (.k (qbc_ok n) (.k (qaz_ok n) .e)))) (.k (fun _ => rfl) (fun _ => by kernel_rfl) .e) (by kernel_rfl) (by kernel_rfl) fun _ => by kernel_rfl
def qj_E (n : Nat) : aC := ⟨(SN [0] pD Io), [SY [0] Qe Io], fun d => qj n d.1.1 d.1.2 d.2.1 d.2.2⟩
theorem qj_ok (n : Nat) : aW Try.prog 119 (qj_E n) :=
 aW.bS n zz Try.f119 {} [] (.k (qcd_ok n) .e) .e (by kernel_rfl) (by kernel_rfl) fun _ => by kernel_rfl
def qe_E (n : Nat) : aC := ⟨(SN [0, 1, 2] (u3 hQ hA (.fn 119 pD .nil)) Io), [SY [0] (u1 (.sl false true yE)) Io], fun d => qe n d.1 d.2.1.1 d.2.1.2 d.2.2.1 d.2.2.2⟩
def qe_ls (n : Nat) : List (Nat × aL) := [(0, ⟨[SN [0, 2, 7, 10, 11] (u5 hQ (.fn 119 pD .nil) hC hA hA) Qn], [SX 0 [7] (u1 hC) Qn], qe_W0 n⟩)]
theorem qe_ok (n : Nat) : aW Try.prog 118 (qe_E n) :=
 aW.bS n zz Try.f118 { live := [(0, [0, 2, 7, 10, 11])], boxed := [(1, 0), (5, 4)] } (qe_ls n) (.k (qo_ok n) (.k (qj_ok n) .e)) (.k (fun _ => rfl) (fun _ => by kernel_rfl) .e) (by kernel_rfl) (by kernel_rfl) fun _ => by kernel_rfl
def qa_E (n : Nat) : aC := ⟨(SN [0] pD Io), [SY [0] (u1 (.agg (u5 hP hA hA hP (.sl false true yE)))) Io], fun d => qa n d.1.1 d.1.2 d.2.1 d.2.2⟩
theorem qa_ok (n : Nat) : aW Try.prog 86 (qa_E n) :=
 aW.bS n zz Try.f86 {} [] (.k (qd_ok n) (.k (qaa_ok n) (.k (qe_ok n) .e))) .e (by kernel_rfl) (by kernel_rfl) fun _ => by kernel_rfl
def qm_E (n : Nat) : aC := ⟨(SN [0, 1, 2] (u3 hQ hA (.fn 86 pD .nil)) Io), [SY [0] (u1 hN) Io], fun d => qm n d.1 d.2.1.1 d.2.1.2 d.2.2.1 d.2.2.2⟩
def qm_ls (n : Nat) : List (Nat × aL) := [(0, ⟨[SN [0, 2, 7, 10, 11] (u5 hQ (.fn 86 pD .nil) hC hA hA) (u3 Pc C9 hW)], [SX 0 [7] (u1 hC) (u3 Pc C9 hW)], qm_W0 n⟩)]
theorem qm_ok (n : Nat) : aW Try.prog 85 (qm_E n) :=
 aW.bS n zz Try.f85 { live := [(0, [0, 2, 7, 10, 11])], boxed := [(1, 0), (5, 4)] } (qm_ls n) (.k (qo_ok n) (.k (qa_ok n) .e)) (.k (fun _ => rfl) (fun _ => by kernel_rfl) .e) (by kernel_rfl) (by kernel_rfl) fun _ => by kernel_rfl
def qad_E (n : Nat) : aC := ⟨(SN [0, 1, 2] PH (u2 Ok Qo)), [SY [0] (u1 hU) (u4 Ok Qo PE C9)], fun d => qad n d.1 d.2.1 d.2.2.1 d.2.2.2⟩
theorem qad_ok (n : Nat) : aW Try.prog 78 (qad_E n) :=
 aW.bS n zz Try.f78 {} [] (.k (qba_ok n) .e) .e (by kernel_rfl) (by kernel_rfl) fun _ => by kernel_rfl
def qs_E (n : Nat) : aC := ⟨(SN [0] pD Io), [SY [0] (u1 (.agg (u3 hP hA hA))) Io], fun d => qs n d.1.1 d.1.2 d.2.1 d.2.2⟩
theorem qs_ok (n : Nat) : aW Try.prog 88 (qs_E n) :=
 aW.bS n zz Try.f88 {} [] (.k (qd_ok n) (.k (qaa_ok n) .e)) .e (by kernel_rfl) (by kernel_rfl) fun _ => by kernel_rfl
def qc_E (n : Nat) : aC := ⟨(SN [0, 1, 2] (u3 hQ hA (.fn 88 pD .nil)) Io), [SY [0] (u1 hO) Io], fun d => qc n d.1 d.2.1.1 d.2.1.2 d.2.2.1 d.2.2.2⟩
def qc_ls (n : Nat) : List (Nat × aL) := [(0, ⟨[SN [0, 2, 7, 10, 11] (u5 hQ (.fn 88 pD .nil) hC hA hA) (u3 Pc C9 Qc)], [SX 0 [7] (u1 hC) (u3 Pc C9 Qc)], qc_W0 n⟩)]
theorem qc_ok (n : Nat) : aW Try.prog 87 (qc_E n) :=
 aW.bS n zz Try.f87 { live := [(0, [0, 2, 7, 10, 11])], boxed := [(1, 0), (5, 4)] } (qc_ls n) (.k (qo_ok n) (.k (qs_ok n) .e)) (.k (fun _ => rfl) (fun _ => by kernel_rfl) .e) (by kernel_rfl) (by kernel_rfl) fun _ => by kernel_rfl
def qab_E (n : Nat) : aC := ⟨(SN [0, 1, 2] PH (u2 Ok QC)), [SY [0] (u1 hU) (u4 Ok QC PE C9)], fun d => qab n d.1 d.2.1 d.2.2.1 d.2.2.2.1 d.2.2.2.2⟩
theorem qab_ok (n : Nat) : aW Try.prog 78 (qab_E n) :=
 aW.bS n zz Try.f78 {} [] (.k (qba_ok n) .e) .e (by kernel_rfl) (by kernel_rfl) fun _ => by kernel_rfl
def qax_E (n : Nat) : aC := ⟨(SN [0] pD PB), [SY [0] (u1 hB) PB], fun d => qax n d.1.1 d.1.2 d.2.1 d.2.2⟩
theorem qax_ok (n : Nat) : aW Try.prog 90 (qax_E n) :=
 aW.bS n zz Try.f90 {} [] (.k (qag_ok n) .e) .e (by kernel_rfl) (by kernel_rfl) fun _ => by kernel_rfl
def qq_E (n : Nat) : aC := ⟨(SN [0, 1, 2] (u3 hQ hA (.fn 90 .nil (u1 hR))) Pz), [SY [0] (u1 P5) Pz], fun d => qq n d.1 d.2.1.1 d.2.1.2 d.2.2.1 d.2.2.2⟩
def qq_ls (n : Nat) : List (Nat × aL) := [(0, ⟨[SN [0, 2, 7, 10, 11] (u5 hQ (.fn 90 .nil (u1 hR)) hD hA hA) (u4 O7 Pg C9 Qh)], [SX 0 [7] (u1 hD) (u4 O7 Pg C9 Qh)], qq_W0 n⟩)]
theorem qq_ok (n : Nat) : aW Try.prog 89 (qq_E n) :=
 aW.bS n zz Try.f89 { live := [(0, [0, 2, 7, 10, 11])], boxed := [(1, 0), (5, 4)] } (qq_ls n) (.k (qo_ok n) (.k (qax_ok n) .e)) (.k (fun _ => rfl) (fun _ => by kernel_rfl) .e) (by kernel_rfl) (by kernel_rfl) fun _ => by kernel_rfl
def qy_E (n : Nat) : aC := ⟨(SN [0, 1, 2] PH (u2 Ok Qm)), [SY [0] (u1 hU) (u4 Ok Qm PE C9)], fun d => qy n d.1 d.2.1 d.2.2.1 d.2.2.2.1 d.2.2.2.2.1 d.2.2.2.2.2⟩
theorem qy_ok (n : Nat) : aW Try.prog 78 (qy_E n) :=
 aW.bS n zz Try.f78 {} [] (.k (qba_ok n) .e) .e (by kernel_rfl) (by kernel_rfl) fun _ => by kernel_rfl
def qak_E (n : Nat) : aC := ⟨(SN [0] pD PB), [SY [0] (u1 .str) PB], fun d => qak n d.1.1 d.1.2 d.2.1 d.2.2⟩
theorem qak_ok (n : Nat) : aW Try.prog 93 (qak_E n) :=
 aW.bS n zz Try.f93 {} [] (.k (qo_ok n) (.k (qaw_ok n) .e)) .e (by kernel_rfl) (by kernel_rfl) fun _ => by kernel_rfl
def qr_E (n : Nat) : aC := ⟨(SN [0, 1, 2] (u3 hQ hA (.fn 93 .nil (u1 hR))) Pz), [SY [0] (u1 (.sl false false .str)) Pz], fun d => qr n d.1 d.2.1.1 d.2.1.2 d.2.2.1 d.2.2.2⟩
def qr_ls (n : Nat) : List (Nat × aL) := [(0, ⟨[SN [0, 2, 7, 10, 11] (u5 hQ (.fn 93 .nil (u1 hR)) hD hA hA) (u4 O7 Pg C9 P8)], [SX 0 [7] (u1 hD) (u4 O7 Pg C9 P8)], qr_W0 n⟩)]
theorem qr_ok (n : Nat) : aW Try.prog 92 (qr_E n) :=
 aW.bS n zz Try.f92 { live := [(0, [0, 2, 7, 10, 11])], boxed := [(1, 0), (5, 4)] } (qr_ls n) (.k (qo_ok n) (.k (qak_ok n) .e)) (.k (fun _ => rfl) (fun _ => by kernel_rfl) .e) (by kernel_rfl) (by kernel_rfl) fun _ => by kernel_rfl
def qbb_E (n : Nat) : aC := ⟨(SN [0] (u1 OE) .nil), [SY [0] (u1 (.tup (u2 (.agg (u5 hM hN hO P5 (.sl false false .str))) hA))) .nil], fun d => qbb n d⟩
theorem qbb_ok (n : Nat) : aW Try.prog 47 (qbb_E n) :=
 aW.bS n zz Try.f47 {} [] (.k (qbt_ok n) (.k (qal_ok n) (.k (qx_ok n) (.k (qad_ok n) (.k (qab_ok n) (.k (qy_ok n) (.k (qba_ok n) (.k (qaz_ok n) (.k (qk_ok n) (.k (qm_ok n) (.k (qc_ok n) (.k (qq_ok n) (.k (qr_ok n) (.k (qay_ok n) .e)))))))))))))) .e (by kernel_rfl) (by kernel_rfl) fun _ => by kernel_rfl
def qbs_E (n : Nat) : aC := ⟨(SN [0, 1] (u2 hK hK) .nil), [SY [0] hE .nil], fun d => qbs n d.1 d.2⟩
def qbs_ls (n : Nat) : List (Nat × aL) := [(0, ⟨[SN [0, 1, 12, 13] (u4 hK hK hA hA) .nil], [SY [4] hE .nil, SX 0 [] .nil .nil], qbs_W0 n⟩)]
theorem qbs_ok (n : Nat) : aW Try.prog 97 (qbs_E n) :=
 aW.bS n zz Try.f97 { live := [(0, [0, 1, 12, 13])] } (qbs_ls n) .e (.k (fun _ => rfl) (fun _ => by kernel_rfl) .e) (by kernel_rfl) (by kernel_rfl) fun _ => by kernel_rfl
def qao_E (n : Nat) : aC := ⟨(SN [0, 1, 2] (u3 hG hG (.fn 97 .nil .nil)) .nil), [SY [0] hE .nil], fun d => qao n d.1 d.2⟩
def qao_ls (n : Nat) : List (Nat × aL) := [(0, ⟨[SN [1, 2, 15, 16, 17] (u5 hG (.fn 97 .nil .nil) hG hA hA) .nil], [SY [6] hE .nil, SX 0 [] .nil .nil], qao_W0 n⟩)]
theorem qao_ok (n : Nat) : aW Try.prog 96 (qao_E n) :=
 aW.bS n zz Try.f96 { live := [(0, [1, 2, 15, 16, 17])] } (qao_ls n) (.k (qbs_ok n) .e) (.k (fun _ => rfl) (fun _ => by kernel_rfl) .e) (by kernel_rfl) (by kernel_rfl) fun _ => by kernel_rfl
def qbr_E (n : Nat) : aC := ⟨(SN [0, 1] (u2 hL hL) .nil), [SY [0] hE .nil], fun d => qbr n d.1 d.2⟩
def qbr_ls (n : Nat) : List (Nat × aL) := [(0, ⟨[SN [0, 1, 12, 13] (u4 hL hL hA hA) .nil], [SY [4] hE .nil, SX 0 [] .nil .nil], qbr_W0 n⟩)]
theorem qbr_ok (n : Nat) : aW Try.prog 121 (qbr_E n) :=
 aW.bS n zz Try.f121 { live := [(0, [0, 1, 12, 13])] } (qbr_ls n) .e (.k (fun _ => rfl) (fun _ => by kernel_rfl) .e) (by kernel_rfl) (by kernel_rfl) fun _ => by kernel_rfl
def qaf_E (n : Nat) : aC := ⟨(SN [0, 1] (u2 PU PU) .nil), [SY [0] hE .nil], fun d => qaf n d.1.1 d.1.2.1 d.1.2.2.1 d.1.2.2.2.1 d.1.2.2.2.2 d.2.1 d.2.2.1 d.2.2.2.1 d.2.2.2.2.1 d.2.2.2.2.2⟩
theorem qaf_ok (n : Nat) : aW Try.prog 99 (qaf_E n) :=
 aW.bS n zz Try.f99 {} [] (.k (qbs_ok n) (.k (qbr_ok n) .e)) .e (by kernel_rfl) (by kernel_rfl) fun _ => by kernel_rfl
def qaq_E (n : Nat) : aC := ⟨(SN [0, 1, 2] (u3 hH hH (.fn 99 .nil .nil)) .nil), [SY [0] hE .nil], fun d => qaq n d.1 d.2⟩
def qaq_ls (n : Nat) : List (Nat × aL) := [(0, ⟨[SN [1, 2, 15, 16, 17] (u5 hH (.fn 99 .nil .nil) hH hA hA) .nil], [SY [6] hE (u2 QD QD), SX 0 [] .nil .nil], qaq_W0 n⟩)]
theorem qaq_ok (n : Nat) : aW Try.prog 98 (qaq_E n) :=
 aW.bS n zz Try.f98 { live := [(0, [1, 2, 15, 16, 17])] } (qaq_ls n) (.k (qaf_ok n) .e) (.k (fun _ => rfl) (fun _ => by kernel_rfl) .e) (by kernel_rfl) (by kernel_rfl) fun _ => by kernel_rfl
def qi_E (n : Nat) : aC := ⟨(SN [0, 1] (u2 Qb Qb) .nil), [SY [0] hE .nil], fun d => qi n d.1.1 d.1.2.1 d.1.2.2 d.2.1 d.2.2.1 d.2.2.2⟩
theorem qi_ok (n : Nat) : aW Try.prog 101 (qi_E n) :=
 aW.bS n zz Try.f101 {} [] (.k (qbs_ok n) .e) .e (by kernel_rfl) (by kernel_rfl) fun _ => by kernel_rfl
def qae_E (n : Nat) : aC := ⟨(SN [0, 1, 2] (u3 hI hI (.fn 101 .nil .nil)) .nil), [SY [0] hE .nil], fun d => qae n d.1 d.2⟩
def qae_ls (n : Nat) : List (Nat × aL) := [(0, ⟨[SN [1, 2, 15, 16, 17] (u5 hI (.fn 101 .nil .nil) hI hA hA) .nil], [SY [6] hE (u2 PA PA), SX 0 [] .nil .nil], qae_W0 n⟩)]
theorem qae_ok (n : Nat) : aW Try.prog 100 (qae_E n) :=
 aW.bS n zz Try.f100 { live := [(0, [1, 2, 15, 16, 17])] } (qae_ls n) (.k (qi_ok n) .e) (.k (fun _ => rfl) (fun _ => by kernel_rfl) .e) (by kernel_rfl) (by kernel_rfl) fun _ => by kernel_rfl
def qbk_E (n : Nat) : aC := ⟨(SN [0, 1] (u2 hY hY) .nil), [SY [0] hE .nil], fun d => qbk n d.1 d.2⟩
def qbk_ls (n : Nat) : List (Nat × aL) := [(0, ⟨[SN [0, 1, 12, 13] (u4 hY hY hA hA) .nil], [SY [4] hE .nil, SX 0 [] .nil .nil], qbk_W0 n⟩)]
theorem qbk_ok (n : Nat) : aW Try.prog 58 (qbk_E n) :=
 aW.bS n zz Try.f58 { live := [(0, [0, 1, 12, 13])] } (qbk_ls n) .e (.k (fun _ => rfl) (fun _ => by kernel_rfl) .e) (by kernel_rfl) (by kernel_rfl) fun _ => by kernel_rfl
def qbh_E (n : Nat) : aC := ⟨(SN [0, 1] (u2 hJ hJ) .nil), [SY [0] hE .nil], fun d => qbh n d.1 d.2⟩
def qbh_ls (n : Nat) : List (Nat × aL) := [(0, ⟨[SN [0, 1, 12, 13] (u4 hJ hJ hA hA) .nil], [SY [4] hE .nil, SX 0 [] .nil .nil], qbh_W0 n⟩)]
theorem qbh_ok (n : Nat) : aW Try.prog 102 (qbh_E n) :=
 aW.bS n zz Try.f102 { live := [(0, [0, 1, 12, 13])] } (qbh_ls n) .e (.k (fun _ => rfl) (fun _ => by kernel_rfl) .e) (by kernel_rfl) (by kernel_rfl) fun _ => by kernel_rfl
def qbp_E (n : Nat) : aC := ⟨(SN [0, 1] (u2 Qf Qf) .nil), [SY [0] hE .nil], fun d => qbp n d.1.1 d.1.2.1 d.1.2.2.1 d.1.2.2.2.1 d.1.2.2.2.2 d.2.1 d.2.2.1 d.2.2.2.1 d.2.2.2.2.1 d.2.2.2.2.2⟩
theorem qbp_ok (n : Nat) : aW Try.prog 48 (qbp_E n) :=
 aW.bS n zz Try.f48 {} [] (.k (qao_ok n) (.k (qaq_ok n) (.k (qae_ok n) (.k (qbk_ok n) (.k (qbh_ok n) .e))))) .e (by kernel_rfl) (by kernel_rfl) fun _ => by kernel_rfl
def qcf_E (n : Nat) : aC := ⟨(SN [0] (u1 OE) .nil), [SY [0] hV .nil], fun d => qcf n d⟩
def qcf_ls (n : Nat) : List (Nat × aL) := [(2, ⟨[SN [3, 7, 8, 9, 17] (u5 (.int .u32) OE hA hA hA) .nil], [SX 2 [3, 7, 8, 9] (u4 (.int .u32) OE hA hA) .nil], qcf_W2 n⟩), (0, ⟨[SN [3, 7, 8, 9] (u4 (.int .u32) OE hA hA) .nil], [SX 0 [3] hV .nil], qcf_W0 n⟩)]
theorem qcf_ok (n : Nat) : aW Try.prog 103 (qcf_E n) :=
 aW.bS n zz Try.f103 { live := [(0, [3, 7, 8, 9]), (2, [3, 7, 8, 9, 17])] } (qcf_ls n) .e (.k (fun _ => rfl) (fun _ => by kernel_rfl) (.k (fun _ => rfl) (fun _ => by kernel_rfl) .e)) (by kernel_rfl) (by kernel_rfl) fun _ => by kernel_rfl
def qbj_E (n : Nat) : aC := ⟨(SN [0] O5 .nil), [SY [0] hV .nil], fun d => qbj n d.1 d.2.1 d.2.2.1 d.2.2.2.1 d.2.2.2.2⟩
theorem qbj_ok (n : Nat) : aW Try.prog 49 (qbj_E n) :=
 aW.bS n zz Try.f49 {} [] (.k (qay_ok n) (.k (qcf_ok n) .e)) .e (by kernel_rfl) (by kernel_rfl) fun _ => by kernel_rfl
def qbe_E (n : Nat) : aC := ⟨(SN [] .nil .nil), [SY [0] hE .nil], fun d => qbe n⟩
theorem qbe_ok (n : Nat) : aW Try.prog 15 (qbe_E n) :=
 aW.bS n zz Try.f15 {} [] (.k (qay_ok n) (.k (qbb_ok n) (.k (qbp_ok n) (.k (qbj_ok n) .e)))) .e (by kernel_rfl) (by kernel_rfl) fun _ => by kernel_rfl
def rO (n : Nat) : aC := ⟨(SN [0, 1] Pb .nil), [SY [0] hE .nil], fun d => cN n d.1 d.2⟩
def pE (n : Nat) : List (Nat × aL) := [(0, ⟨[SN [0, 5, 6, 7, 8, 9] Oj Om, SN [0, 5, 6, 7, 8, 9] Oj Qy], [SX 0 [6, 7, 8] N1 Om, SX 0 [6, 7, 8] N1 Qy], cE n⟩)]
theorem qY (n : Nat) : aW Try.prog 5 (rO n) :=
 aW.bS n zz Try.f5 { live := [(0, [0, 5, 6, 7, 8, 9])], boxed := [(3, 2), (3, 4), (10, 2), (10, 3), (12, 6), (12, 7), (14, 4), (14, 5), (16, 4), (16, 5), (18, 2), (18, 3), (20, 8), (20, 9), (22, 8), (22, 9)], hint := [(8, 1, 0)] } (pE n) (.k (qay_ok n) (.k (qbe_ok n) .e)) (.k (fun _ => rfl) (fun s => by rcases s with s | s <;> kernel_rfl) .e) (by kernel_rfl) (by kernel_rfl) fun _ => by kernel_rfl
def rS (n : Nat) : aC := ⟨(SN [0, 1] Pb .nil), [SY [0] hE .nil], fun d => cH n d.1 d.2⟩
def pJ (n : Nat) : List (Nat × aL) := [(0, ⟨[SN [0, 5, 6, 7, 8, 9] Oj Om], [SX 0 [6, 7, 8] N1 Om], cC n⟩)]
theorem qK (n : Nat) : aW Try.prog 5 (rS n) :=
 aW.bS n zz Try.f5 { live := [(0, [0, 5, 6, 7, 8, 9])], boxed := [(3, 2), (3, 4), (10, 2), (10, 3), (12, 6), (12, 7), (14, 4), (14, 5), (16, 4), (16, 5), (18, 2), (18, 3), (20, 8), (20, 9), (22, 8), (22, 9)], hint := [(8, 1, 1)] } (pJ n) (.k (qay_ok n) (.k (qbe_ok n) .e)) (.k (fun _ => rfl) (fun _ => by kernel_rfl) .e) (by kernel_rfl) (by kernel_rfl) fun _ => by kernel_rfl
def rR (n : Nat) : aC := ⟨(SN [0, 1] Pb .nil), [SY [0] hE .nil], fun d => cG n d.1 d.2⟩
def qV (n : Nat) : List (Nat × aL) := [(0, ⟨[SN [0, 5, 6, 7, 8, 9] Oj Om, SN [0, 5, 6, 7, 8, 9] Oj Qv], [SX 0 [6, 7, 8] N1 Om, SX 0 [6, 7, 8] N1 Qv], cB n⟩)]
theorem qU (n : Nat) : aW Try.prog 5 (rR n) :=
 aW.bS n zz Try.f5 { live := [(0, [0, 5, 6, 7, 8, 9])], boxed := [(3, 2), (3, 4), (10, 2), (10, 3), (12, 6), (12, 7), (14, 4), (14, 5), (16, 4), (16, 5), (18, 2), (18, 3), (20, 8), (20, 9), (22, 8), (22, 9)], hint := [(8, 1, 2)] } (qV n) (.k (qay_ok n) (.k (qbe_ok n) .e)) (.k (fun _ => rfl) (fun s => by rcases s with s | s <;> kernel_rfl) .e) (by kernel_rfl) (by kernel_rfl) fun _ => by kernel_rfl
def rT (n : Nat) : aC := ⟨(SN [0, 1] Pb .nil), [SY [0] hE .nil], fun d => cJ n d.1 d.2⟩
def qA (n : Nat) : List (Nat × aL) := [(0, ⟨[SN [0, 5, 6, 7, 8, 9] Oj Om, SN [0, 5, 6, 7, 8, 9] Oj Qt], [SX 0 [6, 7, 8] N1 Om, SX 0 [6, 7, 8] N1 Qt], cF n⟩)]
theorem pM (n : Nat) : aW Try.prog 5 (rT n) :=
 aW.bS n zz Try.f5 { live := [(0, [0, 5, 6, 7, 8, 9])], boxed := [(3, 2), (3, 4), (10, 2), (10, 3), (12, 6), (12, 7), (14, 4), (14, 5), (16, 4), (16, 5), (18, 2), (18, 3), (20, 8), (20, 9), (22, 8), (22, 9)], hint := [(8, 1, 3)] } (qA n) (.k (qay_ok n) (.k (qbe_ok n) .e)) (.k (fun _ => rfl) (fun s => by rcases s with s | s <;> kernel_rfl) .e) (by kernel_rfl) (by kernel_rfl) fun _ => by kernel_rfl
def rN (n : Nat) : aC := ⟨(SN [0, 1] Pb .nil), [SY [0] hE .nil], fun d => cK n d.1 d.2⟩
def qX (n : Nat) : List (Nat × aL) := [(0, ⟨[SN [0, 5, 6, 7, 8, 9] Oj Om, SN [0, 5, 6, 7, 8, 9] Oj Qz], [SX 0 [6, 7, 8] N1 Om, SX 0 [6, 7, 8] N1 Qz], cA n⟩)]
theorem q4 (n : Nat) : aW Try.prog 5 (rN n) :=
 aW.bS n zz Try.f5 { live := [(0, [0, 5, 6, 7, 8, 9])], boxed := [(3, 2), (3, 4), (10, 2), (10, 3), (12, 6), (12, 7), (14, 4), (14, 5), (16, 4), (16, 5), (18, 2), (18, 3), (20, 8), (20, 9), (22, 8), (22, 9)], hint := [(8, 1, 4)] } (qX n) (.k (qay_ok n) (.k (qbe_ok n) .e)) (.k (fun _ => rfl) (fun s => by rcases s with s | s <;> kernel_rfl) .e) (by kernel_rfl) (by kernel_rfl) fun _ => by kernel_rfl
def rL (n : Nat) : aC := ⟨(SN [0, 1] Pb .nil), [SY [0] hE .nil], fun d => cM n d.1 d.2⟩
def q6 (n : Nat) : List (Nat × aL) := [(0, ⟨[SN [0, 5, 6, 7, 8, 9] Oj P0], [SX 0 [6, 7, 8] N1 P0], b8 n⟩)]
theorem pX (n : Nat) : aW Try.prog 5 (rL n) :=
 aW.bS n zz Try.f5 { live := [(0, [0, 5, 6, 7, 8, 9])], boxed := [(3, 2), (10, 2), (10, 3), (12, 6), (14, 4), (14, 5), (16, 4), (16, 5), (18, 2), (18, 3), (20, 8), (20, 9), (22, 8), (22, 9)], vars := [(12, 6)], hint := [(8, 1, 5)], own := [(3, 4), (12, 7)], tidy := [(20, [0, 5, 6, 7, 9], [(.tmp 7, 1, .const (.int .i64 0), 3)]), (23, [6, 7, 8], [])] } (q6 n) (.k (qay_ok n) (.k (qbe_ok n) .e)) (.k (fun _ => rfl) (fun _ => by kernel_rfl) .e) (by kernel_rfl) (by kernel_rfl) fun _ => by kernel_rfl
def rM (n : Nat) : aC := ⟨(SN [0, 1] Pb .nil), [SY [0] hE .nil], fun d => cL n d.1 d.2⟩
def p6 (n : Nat) : List (Nat × aL) := [(0, ⟨[SN [0, 5, 6, 7, 8, 9] Oj P0], [SX 0 [6, 7, 8] N1 P0], cD n⟩)]
theorem p8 (n : Nat) : aW Try.prog 5 (rM n) :=
 aW.bS n zz Try.f5 { live := [(0, [0, 5, 6, 7, 8, 9])], boxed := [(3, 2), (10, 2), (10, 3), (12, 6), (14, 4), (14, 5), (16, 4), (16, 5), (18, 2), (18, 3), (20, 8), (20, 9), (22, 8), (22, 9)], vars := [(12, 6)], hint := [(8, 1, 6)], own := [(3, 4), (12, 7)], tidy := [(22, [0, 5, 6, 7, 9], [(.tmp 7, 1, .const (.int .i64 0), 4)]), (23, [6, 7, 8], [])] } (p6 n) (.k (qay_ok n) (.k (qbe_ok n) .e)) (.k (fun _ => rfl) (fun _ => by kernel_rfl) .e) (by kernel_rfl) (by kernel_rfl) fun _ => by kernel_rfl
end
end Sx
