/- Part of the proof that the law CustomModelIsRight returns true for every input. Conditions: none. -/
import Derived.Test.YtghfbggphgpjgaaGreatDoorPartE
import Derived.Test.YtghfbggphgpjgaaGreatDoorProg
import Derived.KernelRfl
namespace Go.Abs
open Go
noncomputable def certB(P:Program)(f:FuncId):Option BFn:=(P.funcs[f]?).bind fun fn=>if fn.name == "runtime.NumGoroutine" then none else cFn P fn
end Go.Abs
namespace Go.Abs.Tz
open Go Go.Abs Go.Proofs
noncomputable def bOf(f:FuncId):BFn:=(certB Tryz.prog f).getD ⟨.skip,0,[]⟩
theorem bOf_ok{f:FuncId}(h:(certB Tryz.prog f).isSome=true):certB Tryz.prog f=some (bOf f):=by
 unfold bOf
 cases hc:certB Tryz.prog f with
 |none=>rw[hc]at h;cases h
 |some x=>rfl
attribute [irreducible] bOf
theorem c2:certB Tryz.prog 2=some b2:=by kernel_rfl
theorem c3:certB Tryz.prog 3=some b3:=by kernel_rfl
theorem c4:certB Tryz.prog 4=some b4:=by kernel_rfl
theorem c5:certB Tryz.prog 5=some b5:=by kernel_rfl
theorem c6:certB Tryz.prog 6=some b6:=by kernel_rfl
theorem c7:certB Tryz.prog 7=some b7:=by kernel_rfl
theorem c8:certB Tryz.prog 8=some b8:=by kernel_rfl
theorem c9:certB Tryz.prog 9=some b9:=by kernel_rfl
theorem c10:certB Tryz.prog 10=some b10:=by kernel_rfl
theorem c13:certB Tryz.prog 13=some b13:=by kernel_rfl
theorem c15:certB Tryz.prog 15=some b15:=by kernel_rfl
noncomputable def b16:BFn:=bOf 16
theorem c16:certB Tryz.prog 16=some b16:=bOf_ok (by kernel_rfl)
theorem c17:certB Tryz.prog 17=some b17:=by kernel_rfl
theorem c18:certB Tryz.prog 18=some b18:=by kernel_rfl
theorem c19:certB Tryz.prog 19=some b19:=by kernel_rfl
noncomputable def b20:BFn:=bOf 20
theorem c20:certB Tryz.prog 20=some b20:=bOf_ok (by kernel_rfl)
noncomputable def b21:BFn:=bOf 21
theorem c21:certB Tryz.prog 21=some b21:=bOf_ok (by kernel_rfl)
noncomputable def b22:BFn:=bOf 22
theorem c22:certB Tryz.prog 22=some b22:=bOf_ok (by kernel_rfl)
noncomputable def b23:BFn:=bOf 23
theorem c23:certB Tryz.prog 23=some b23:=bOf_ok (by kernel_rfl)
noncomputable def b24:BFn:=bOf 24
theorem c24:certB Tryz.prog 24=some b24:=bOf_ok (by kernel_rfl)
noncomputable def b25:BFn:=bOf 25
theorem c25:certB Tryz.prog 25=some b25:=bOf_ok (by kernel_rfl)
noncomputable def b26:BFn:=bOf 26
theorem c26:certB Tryz.prog 26=some b26:=bOf_ok (by kernel_rfl)
theorem c27:certB Tryz.prog 27=some b27:=by kernel_rfl
noncomputable def b28:BFn:=bOf 28
theorem c28:certB Tryz.prog 28=some b28:=bOf_ok (by kernel_rfl)
theorem c29:certB Tryz.prog 29=some b29:=by kernel_rfl
theorem c30:certB Tryz.prog 30=some b30:=by kernel_rfl
theorem c37:certB Tryz.prog 37=some b37:=by kernel_rfl
theorem c38:certB Tryz.prog 38=some b38:=by kernel_rfl
theorem c39:certB Tryz.prog 39=some b39:=by kernel_rfl
theorem c40:certB Tryz.prog 40=some b40:=by kernel_rfl
theorem c41:certB Tryz.prog 41=some b41:=by kernel_rfl
noncomputable def b42:BFn:=bOf 42
theorem c42:certB Tryz.prog 42=some b42:=bOf_ok (by kernel_rfl)
theorem c43:certB Tryz.prog 43=some b43:=by kernel_rfl
theorem c44:certB Tryz.prog 44=some b44:=by kernel_rfl
theorem c45:certB Tryz.prog 45=some b45:=by kernel_rfl
theorem c46:certB Tryz.prog 46=some b46:=by kernel_rfl
theorem c47:certB Tryz.prog 47=some b47:=by kernel_rfl
theorem c48:certB Tryz.prog 48=some b48:=by kernel_rfl
theorem c49:certB Tryz.prog 49=some b49:=by kernel_rfl
theorem c50:certB Tryz.prog 50=some b50:=by kernel_rfl
theorem c51:certB Tryz.prog 51=some b51:=by kernel_rfl
theorem c52:certB Tryz.prog 52=some b52:=by kernel_rfl
theorem c53:certB Tryz.prog 53=some b53:=by kernel_rfl
theorem c54:certB Tryz.prog 54=some b54:=by kernel_rfl
theorem c55:certB Tryz.prog 55=some b55:=by kernel_rfl
theorem c56:certB Tryz.prog 56=some b56:=by kernel_rfl
theorem c57:certB Tryz.prog 57=some b57:=by kernel_rfl
noncomputable def b58:BFn:=bOf 58
theorem c58:certB Tryz.prog 58=some b58:=bOf_ok (by kernel_rfl)
noncomputable def b59:BFn:=bOf 59
theorem c59:certB Tryz.prog 59=some b59:=bOf_ok (by kernel_rfl)
theorem c60:certB Tryz.prog 60=some b60:=by kernel_rfl
noncomputable def b61:BFn:=bOf 61
theorem c61:certB Tryz.prog 61=some b61:=bOf_ok (by kernel_rfl)
noncomputable def b62:BFn:=bOf 62
theorem c62:certB Tryz.prog 62=some b62:=bOf_ok (by kernel_rfl)
noncomputable def b63:BFn:=bOf 63
theorem c63:certB Tryz.prog 63=some b63:=bOf_ok (by kernel_rfl)
noncomputable def b64:BFn:=bOf 64
theorem c64:certB Tryz.prog 64=some b64:=bOf_ok (by kernel_rfl)
noncomputable def b65:BFn:=bOf 65
theorem c65:certB Tryz.prog 65=some b65:=bOf_ok (by kernel_rfl)
theorem c66:certB Tryz.prog 66=some b66:=by kernel_rfl
theorem c67:certB Tryz.prog 67=some b67:=by kernel_rfl
theorem c68:certB Tryz.prog 68=some b68:=by kernel_rfl
theorem c69:certB Tryz.prog 69=some b69:=by kernel_rfl
theorem c70:certB Tryz.prog 70=some b70:=by kernel_rfl
theorem c71:certB Tryz.prog 71=some b71:=by kernel_rfl
noncomputable def b73:BFn:=bOf 73
theorem c73:certB Tryz.prog 73=some b73:=bOf_ok (by kernel_rfl)
noncomputable def b76:BFn:=bOf 76
theorem c76:certB Tryz.prog 76=some b76:=bOf_ok (by kernel_rfl)
theorem c83:certB Tryz.prog 83=some b83:=by kernel_rfl
theorem c84:certB Tryz.prog 84=some b84:=by kernel_rfl
theorem c85:certB Tryz.prog 85=some b85:=by kernel_rfl
theorem c86:certB Tryz.prog 86=some b86:=by kernel_rfl
theorem c87:certB Tryz.prog 87=some b87:=by kernel_rfl
theorem c88:certB Tryz.prog 88=some b88:=by kernel_rfl
theorem c89:certB Tryz.prog 89=some b89:=by kernel_rfl
theorem c90:certB Tryz.prog 90=some b90:=by kernel_rfl
theorem c92:certB Tryz.prog 92=some b92:=by kernel_rfl
theorem c93:certB Tryz.prog 93=some b93:=by kernel_rfl
theorem c94:certB Tryz.prog 94=some b94:=by kernel_rfl
theorem c96:certB Tryz.prog 96=some b96:=by kernel_rfl
theorem c97:certB Tryz.prog 97=some b97:=by kernel_rfl
theorem c98:certB Tryz.prog 98=some b98:=by kernel_rfl
noncomputable def b99:BFn:=bOf 99
theorem c99:certB Tryz.prog 99=some b99:=bOf_ok (by kernel_rfl)
theorem c100:certB Tryz.prog 100=some b100:=by kernel_rfl
noncomputable def b101:BFn:=bOf 101
theorem c101:certB Tryz.prog 101=some b101:=bOf_ok (by kernel_rfl)
noncomputable def b102:BFn:=bOf 102
theorem c102:certB Tryz.prog 102=some b102:=bOf_ok (by kernel_rfl)
noncomputable def b103:BFn:=bOf 103
theorem c103:certB Tryz.prog 103=some b103:=bOf_ok (by kernel_rfl)
noncomputable def b104:BFn:=bOf 104
theorem c104:certB Tryz.prog 104=some b104:=bOf_ok (by kernel_rfl)
theorem c105:certB Tryz.prog 105=some b105:=by kernel_rfl
noncomputable def b107:BFn:=bOf 107
theorem c107:certB Tryz.prog 107=some b107:=bOf_ok (by kernel_rfl)
theorem c108:certB Tryz.prog 108=some b108:=by kernel_rfl
theorem c109:certB Tryz.prog 109=some b109:=by kernel_rfl
theorem c111:certB Tryz.prog 111=some b111:=by kernel_rfl
noncomputable def b117:BFn:=bOf 117
theorem c117:certB Tryz.prog 117=some b117:=bOf_ok (by kernel_rfl)
noncomputable def b118:BFn:=bOf 118
theorem c118:certB Tryz.prog 118=some b118:=bOf_ok (by kernel_rfl)
theorem c121:certB Tryz.prog 121=some b121:=by kernel_rfl
theorem c122:certB Tryz.prog 122=some b122:=by kernel_rfl
theorem c123:certB Tryz.prog 123=some b123:=by kernel_rfl
theorem c124:certB Tryz.prog 124=some b124:=by kernel_rfl
theorem c125:certB Tryz.prog 125=some b125:=by kernel_rfl
theorem c126:certB Tryz.prog 126=some b126:=by kernel_rfl
theorem c127:certB Tryz.prog 127=some b127:=by kernel_rfl
theorem c130:certB Tryz.prog 130=some b130:=by kernel_rfl
noncomputable def b131:BFn:=bOf 131
theorem c131:certB Tryz.prog 131=some b131:=bOf_ok (by kernel_rfl)
noncomputable def b132:BFn:=bOf 132
theorem c132:certB Tryz.prog 132=some b132:=bOf_ok (by kernel_rfl)
noncomputable def b133:BFn:=bOf 133
theorem c133:certB Tryz.prog 133=some b133:=bOf_ok (by kernel_rfl)
noncomputable def b136:BFn:=bOf 136
theorem c136:certB Tryz.prog 136=some b136:=bOf_ok (by kernel_rfl)
noncomputable def b137:BFn:=bOf 137
theorem c137:certB Tryz.prog 137=some b137:=bOf_ok (by kernel_rfl)
noncomputable def b138:BFn:=bOf 138
theorem c138:certB Tryz.prog 138=some b138:=bOf_ok (by kernel_rfl)
noncomputable def b139:BFn:=bOf 139
theorem c139:certB Tryz.prog 139=some b139:=bOf_ok (by kernel_rfl)
theorem c141:certB Tryz.prog 141=some b141:=by kernel_rfl
theorem c156:certB Tryz.prog 156=some b156:=by kernel_rfl
noncomputable def b159:BFn:=bOf 159
theorem c159:certB Tryz.prog 159=some b159:=bOf_ok (by kernel_rfl)
noncomputable def b161:BFn:=bOf 161
theorem c161:certB Tryz.prog 161=some b161:=bOf_ok (by kernel_rfl)
noncomputable def b162:BFn:=bOf 162
theorem c162:certB Tryz.prog 162=some b162:=bOf_ok (by kernel_rfl)
noncomputable def b163:BFn:=bOf 163
theorem c163:certB Tryz.prog 163=some b163:=bOf_ok (by kernel_rfl)
noncomputable def b179:BFn:=bOf 179
theorem c179:certB Tryz.prog 179=some b179:=bOf_ok (by kernel_rfl)
noncomputable def b191:BFn:=bOf 191
theorem c191:certB Tryz.prog 191=some b191:=bOf_ok (by kernel_rfl)
end Go.Abs.Tz
