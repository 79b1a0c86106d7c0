import Derived.Test.YtkbojechhmmkcaaGreatDoorK35
set_option linter.unusedVariables false
set_option linter.unusedSimpArgs false
set_option maxHeartbeats 16000000
set_option maxRecDepth 100000
namespace Edt
theorem Zbfb:(List.range 25).all (fun i=>tOk (i+750))=true:=by decide+kernel
theorem Zbfc:(List.range 25).all (fun i=>tOk (i+775))=true:=by decide+kernel
theorem Zbfd:(List.range 25).all (fun i=>tOk (i+800))=true:=by decide+kernel
theorem Zbfe:(List.range 25).all (fun i=>tOk (i+825))=true:=by decide+kernel
theorem Zbff:(List.range 25).all (fun i=>tOk (i+850))=true:=by decide+kernel
theorem Zbfg:(List.range 25).all (fun i=>tOk (i+875))=true:=by decide+kernel
theorem Zbfh:(List.range 25).all (fun i=>tOk (i+900))=true:=by decide+kernel
theorem Zbfi:(List.range 25).all (fun i=>tOk (i+925))=true:=by decide+kernel
theorem Zbfj:(List.range 25).all (fun i=>tOk (i+950))=true:=by decide+kernel
theorem Zbfk:(List.range 25).all (fun i=>tOk (i+975))=true:=by decide+kernel
end Edt
