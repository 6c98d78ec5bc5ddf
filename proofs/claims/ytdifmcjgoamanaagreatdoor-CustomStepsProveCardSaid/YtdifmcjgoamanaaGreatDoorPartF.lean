/- Part of the proof that the law CustomStepsProve returns true for every input. Conditions: none. -/
import Derived.Test.YtdifmcjgoamanaaGreatDoorPartE
import Derived.Test.YtdifmcjgoamanaaGreatDoorProg
import Derived.KernelRfl
namespace Go.Abs
open Go
noncomputable def certB(P:Program)(f:FuncId):Option BFn:=(P.funcs[f]?).bind fun fn=>if fn.name == "runtime.NumGoroutine" then none else cFn P fn
end Go.Abs
namespace Go.Abs.Tz
open Go Go.Abs Go.Proofs
noncomputable def bOf(f:FuncId):BFn:=(certB Tryz.prog f).getD ⟨.skip,0,[]⟩
theorem bOf_ok{f:FuncId}(h:(certB Tryz.prog f).isSome=true):certB Tryz.prog f=some (bOf f):=by
 unfold bOf
 cases hc:certB Tryz.prog f with
 |none=>rw[hc]at h;cases h
 |some x=>rfl
attribute [irreducible] bOf
theorem c2:certB Tryz.prog 2=some b2:=by kernel_rfl
theorem c3:certB Tryz.prog 3=some b3:=by kernel_rfl
theorem c4:certB Tryz.prog 4=some b4:=by kernel_rfl
theorem c5:certB Tryz.prog 5=some b5:=by kernel_rfl
theorem c6:certB Tryz.prog 6=some b6:=by kernel_rfl
theorem c7:certB Tryz.prog 7=some b7:=by kernel_rfl
theorem c8:certB Tryz.prog 8=some b8:=by kernel_rfl
theorem c9:certB Tryz.prog 9=some b9:=by kernel_rfl
theorem c10:certB Tryz.prog 10=some b10:=by kernel_rfl
theorem c12:certB Tryz.prog 12=some b12:=by kernel_rfl
noncomputable def b14:BFn:=bOf 14
theorem c14:certB Tryz.prog 14=some b14:=bOf_ok (by kernel_rfl)
noncomputable def b15:BFn:=bOf 15
theorem c15:certB Tryz.prog 15=some b15:=bOf_ok (by kernel_rfl)
theorem c16:certB Tryz.prog 16=some b16:=by kernel_rfl
theorem c17:certB Tryz.prog 17=some b17:=by kernel_rfl
theorem c18:certB Tryz.prog 18=some b18:=by kernel_rfl
noncomputable def b19:BFn:=bOf 19
theorem c19:certB Tryz.prog 19=some b19:=bOf_ok (by kernel_rfl)
noncomputable def b20:BFn:=bOf 20
theorem c20:certB Tryz.prog 20=some b20:=bOf_ok (by kernel_rfl)
noncomputable def b21:BFn:=bOf 21
theorem c21:certB Tryz.prog 21=some b21:=bOf_ok (by kernel_rfl)
noncomputable def b22:BFn:=bOf 22
theorem c22:certB Tryz.prog 22=some b22:=bOf_ok (by kernel_rfl)
noncomputable def b23:BFn:=bOf 23
theorem c23:certB Tryz.prog 23=some b23:=bOf_ok (by kernel_rfl)
noncomputable def b24:BFn:=bOf 24
theorem c24:certB Tryz.prog 24=some b24:=bOf_ok (by kernel_rfl)
theorem c25:certB Tryz.prog 25=some b25:=by kernel_rfl
noncomputable def b26:BFn:=bOf 26
theorem c26:certB Tryz.prog 26=some b26:=bOf_ok (by kernel_rfl)
theorem c27:certB Tryz.prog 27=some b27:=by kernel_rfl
theorem c28:certB Tryz.prog 28=some b28:=by kernel_rfl
theorem c29:certB Tryz.prog 29=some b29:=by kernel_rfl
theorem c30:certB Tryz.prog 30=some b30:=by kernel_rfl
noncomputable def b31:BFn:=bOf 31
theorem c31:certB Tryz.prog 31=some b31:=bOf_ok (by kernel_rfl)
theorem c32:certB Tryz.prog 32=some b32:=by kernel_rfl
theorem c33:certB Tryz.prog 33=some b33:=by kernel_rfl
theorem c34:certB Tryz.prog 34=some b34:=by kernel_rfl
theorem c35:certB Tryz.prog 35=some b35:=by kernel_rfl
theorem c36:certB Tryz.prog 36=some b36:=by kernel_rfl
theorem c37:certB Tryz.prog 37=some b37:=by kernel_rfl
theorem c38:certB Tryz.prog 38=some b38:=by kernel_rfl
theorem c39:certB Tryz.prog 39=some b39:=by kernel_rfl
theorem c40:certB Tryz.prog 40=some b40:=by kernel_rfl
theorem c41:certB Tryz.prog 41=some b41:=by kernel_rfl
theorem c42:certB Tryz.prog 42=some b42:=by kernel_rfl
noncomputable def b43:BFn:=bOf 43
theorem c43:certB Tryz.prog 43=some b43:=bOf_ok (by kernel_rfl)
noncomputable def b44:BFn:=bOf 44
theorem c44:certB Tryz.prog 44=some b44:=bOf_ok (by kernel_rfl)
theorem c45:certB Tryz.prog 45=some b45:=by kernel_rfl
noncomputable def b46:BFn:=bOf 46
theorem c46:certB Tryz.prog 46=some b46:=bOf_ok (by kernel_rfl)
noncomputable def b47:BFn:=bOf 47
theorem c47:certB Tryz.prog 47=some b47:=bOf_ok (by kernel_rfl)
noncomputable def b48:BFn:=bOf 48
theorem c48:certB Tryz.prog 48=some b48:=bOf_ok (by kernel_rfl)
noncomputable def b49:BFn:=bOf 49
theorem c49:certB Tryz.prog 49=some b49:=bOf_ok (by kernel_rfl)
noncomputable def b50:BFn:=bOf 50
theorem c50:certB Tryz.prog 50=some b50:=bOf_ok (by kernel_rfl)
theorem c51:certB Tryz.prog 51=some b51:=by kernel_rfl
theorem c52:certB Tryz.prog 52=some b52:=by kernel_rfl
theorem c53:certB Tryz.prog 53=some b53:=by kernel_rfl
theorem c54:certB Tryz.prog 54=some b54:=by kernel_rfl
theorem c55:certB Tryz.prog 55=some b55:=by kernel_rfl
theorem c56:certB Tryz.prog 56=some b56:=by kernel_rfl
theorem c57:certB Tryz.prog 57=some b57:=by kernel_rfl
theorem c58:certB Tryz.prog 58=some b58:=by kernel_rfl
theorem c59:certB Tryz.prog 59=some b59:=by kernel_rfl
theorem c60:certB Tryz.prog 60=some b60:=by kernel_rfl
noncomputable def b61:BFn:=bOf 61
theorem c61:certB Tryz.prog 61=some b61:=bOf_ok (by kernel_rfl)
theorem c62:certB Tryz.prog 62=some b62:=by kernel_rfl
theorem c63:certB Tryz.prog 63=some b63:=by kernel_rfl
theorem c64:certB Tryz.prog 64=some b64:=by kernel_rfl
theorem c65:certB Tryz.prog 65=some b65:=by kernel_rfl
theorem c66:certB Tryz.prog 66=some b66:=by kernel_rfl
theorem c67:certB Tryz.prog 67=some b67:=by kernel_rfl
theorem c68:certB Tryz.prog 68=some b68:=by kernel_rfl
theorem c70:certB Tryz.prog 70=some b70:=by kernel_rfl
theorem c71:certB Tryz.prog 71=some b71:=by kernel_rfl
theorem c72:certB Tryz.prog 72=some b72:=by kernel_rfl
theorem c73:certB Tryz.prog 73=some b73:=by kernel_rfl
theorem c74:certB Tryz.prog 74=some b74:=by kernel_rfl
noncomputable def b76:BFn:=bOf 76
theorem c76:certB Tryz.prog 76=some b76:=bOf_ok (by kernel_rfl)
theorem c77:certB Tryz.prog 77=some b77:=by kernel_rfl
noncomputable def b78:BFn:=bOf 78
theorem c78:certB Tryz.prog 78=some b78:=bOf_ok (by kernel_rfl)
noncomputable def b79:BFn:=bOf 79
theorem c79:certB Tryz.prog 79=some b79:=bOf_ok (by kernel_rfl)
noncomputable def b80:BFn:=bOf 80
theorem c80:certB Tryz.prog 80=some b80:=bOf_ok (by kernel_rfl)
noncomputable def b81:BFn:=bOf 81
theorem c81:certB Tryz.prog 81=some b81:=bOf_ok (by kernel_rfl)
theorem c82:certB Tryz.prog 82=some b82:=by kernel_rfl
noncomputable def b84:BFn:=bOf 84
theorem c84:certB Tryz.prog 84=some b84:=bOf_ok (by kernel_rfl)
theorem c85:certB Tryz.prog 85=some b85:=by kernel_rfl
theorem c87:certB Tryz.prog 87=some b87:=by kernel_rfl
theorem c88:certB Tryz.prog 88=some b88:=by kernel_rfl
theorem c89:certB Tryz.prog 89=some b89:=by kernel_rfl
theorem c90:certB Tryz.prog 90=some b90:=by kernel_rfl
noncomputable def b91:BFn:=bOf 91
theorem c91:certB Tryz.prog 91=some b91:=bOf_ok (by kernel_rfl)
noncomputable def b92:BFn:=bOf 92
theorem c92:certB Tryz.prog 92=some b92:=bOf_ok (by kernel_rfl)
theorem c93:certB Tryz.prog 93=some b93:=by kernel_rfl
theorem c94:certB Tryz.prog 94=some b94:=by kernel_rfl
theorem c95:certB Tryz.prog 95=some b95:=by kernel_rfl
theorem c96:certB Tryz.prog 96=some b96:=by kernel_rfl
theorem c97:certB Tryz.prog 97=some b97:=by kernel_rfl
theorem c98:certB Tryz.prog 98=some b98:=by kernel_rfl
theorem c101:certB Tryz.prog 101=some b101:=by kernel_rfl
noncomputable def b102:BFn:=bOf 102
theorem c102:certB Tryz.prog 102=some b102:=bOf_ok (by kernel_rfl)
noncomputable def b103:BFn:=bOf 103
theorem c103:certB Tryz.prog 103=some b103:=bOf_ok (by kernel_rfl)
noncomputable def b104:BFn:=bOf 104
theorem c104:certB Tryz.prog 104=some b104:=bOf_ok (by kernel_rfl)
noncomputable def b107:BFn:=bOf 107
theorem c107:certB Tryz.prog 107=some b107:=bOf_ok (by kernel_rfl)
noncomputable def b108:BFn:=bOf 108
theorem c108:certB Tryz.prog 108=some b108:=bOf_ok (by kernel_rfl)
noncomputable def b109:BFn:=bOf 109
theorem c109:certB Tryz.prog 109=some b109:=bOf_ok (by kernel_rfl)
noncomputable def b110:BFn:=bOf 110
theorem c110:certB Tryz.prog 110=some b110:=bOf_ok (by kernel_rfl)
theorem c112:certB Tryz.prog 112=some b112:=by kernel_rfl
theorem c122:certB Tryz.prog 122=some b122:=by kernel_rfl
noncomputable def b125:BFn:=bOf 125
theorem c125:certB Tryz.prog 125=some b125:=bOf_ok (by kernel_rfl)
noncomputable def b127:BFn:=bOf 127
theorem c127:certB Tryz.prog 127=some b127:=bOf_ok (by kernel_rfl)
noncomputable def b128:BFn:=bOf 128
theorem c128:certB Tryz.prog 128=some b128:=bOf_ok (by kernel_rfl)
noncomputable def b129:BFn:=bOf 129
theorem c129:certB Tryz.prog 129=some b129:=bOf_ok (by kernel_rfl)
noncomputable def b142:BFn:=bOf 142
theorem c142:certB Tryz.prog 142=some b142:=bOf_ok (by kernel_rfl)
noncomputable def b152:BFn:=bOf 152
theorem c152:certB Tryz.prog 152=some b152:=bOf_ok (by kernel_rfl)
end Go.Abs.Tz
